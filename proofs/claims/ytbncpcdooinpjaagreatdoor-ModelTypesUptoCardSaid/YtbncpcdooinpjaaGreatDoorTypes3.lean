/- A part of the proof in YtbncpcdooinpjaaGreatDoorTypes12: lemmas and contracts; nothing is claimed here. -/
import Derived.Test.YtbncpcdooinpjaaGreatDoorTypes2
import Derived.Scope
import Derived.ChangeArms
import Derived.ChangeShapes
import Derived.RowKit3
import Derived.OpenShut
import Derived.Carry
import Derived.RowKit
import Derived.ChangeSame
set_option linter.unusedVariables false
set_option linter.unusedSimpArgs false
section
namespace Go.Ev
variable {U : Univ} {P : Program}
def Agree (ask : List Nat) (σ σ' : St U) : Prop := ∀ n, (2 * n ∈ ask → σ'.slot n = σ.slot n) ∧ (2 * n + 1 ∈ ask → σ'.blk n = σ.blk n)
theorem runA_some {α β : Type} {σ : St U} : ∀ (r : Rd U α) {l : List Nat} {K : α → List Nat → Option β} {z : β}, r.runA σ l K = some z →
    ∃ x ask, r.run σ = some x ∧ K x ask = some z ∧ (∀ κ ∈ l, κ ∈ ask) ∧ ∀ σ', Agree ask σ σ' → r.run σ' = some x := by
  intro r
  induction r with
  | ret a => intro l K z h; exact ⟨a, l, rfl, h, fun _ h => h, fun _ _ => rfl⟩
  | fail => intro l K z h; cases h
  | slot n k ih =>
    intro l K z h
    obtain ⟨x, ask, h1, h2, h3, h4⟩ := ih _ h
    refine ⟨x, ask, h1, h2, fun κ hκ => h3 κ (List.mem_cons_of_mem _ hκ), fun σ' ha => ?_⟩
    have := h4 σ' ha
    have e := (ha n).1 (h3 _ List.mem_cons_self)
    show (k (σ'.slot n)).run σ' = _
    rw [e]
    exact this
  | blk n k ih =>
    intro l K z h
    obtain ⟨x, ask, h1, h2, h3, h4⟩ := ih _ h
    refine ⟨x, ask, h1, h2, fun κ hκ => h3 κ (List.mem_cons_of_mem _ hκ), fun σ' ha => ?_⟩
    have := h4 σ' ha
    have e := (ha n).2 (h3 _ List.mem_cons_self)
    show (k (σ'.blk n)).run σ' = _
    rw [e]
    exact this
  | opt o k ih =>
    intro l K z h
    simp only [Rd.runA, Option.bind_eq_some_iff] at h
    obtain ⟨y, rfl, h⟩ := h
    exact ih _ h
  | alt o k k' ih1 ih2 =>
    intro l K z h
    simp only [Rd.runA, Option.bind_eq_some_iff] at h
    obtain ⟨y, rfl, h⟩ := h
    cases y with
    | go y => exact ih1 _ h
    | ret y => exact ih2 _ h
  | chk p i k ih =>
    intro l K z h
    simp only [Rd.runA] at h
    split at h
    · rename_i hp
      obtain ⟨x, ask, h1, h2, h3, h4⟩ := ih h
      refine ⟨x, ask, ?_, h2, h3, fun σ' ha => ?_⟩
      · rw [run_chk, if_pos hp]; exact h1
      · rw [run_chk, if_pos hp]; exact h4 σ' ha
    · cases h
structure Ent (U : Univ) where
  i : Nat
  ask : List Nat
  us : List (Upd U)
  light : Bool
def Ent.wr (e : Ent U) : List Nat := e.us.map keyOf
def Ent.hs (e : Ent U) : Hs := ⟨e.i, e.ask, e.us.map keyOf, e.light⟩
def LightOk (P : Program) (U : Univ) (E : Env) (ops : Array Oper) (e : Ent U) (gh : Gh) (σ : St U) (a : Act) (w : World) : Prop :=
  ∃ o, ops[e.i]? = some o ∧ Region.wanted o (yielded ops a.tmps) = true ∧
    ((∃ v gh', (∀ w' : World, (execOp a.eval o).run P w' = .ok (.value v) w') ∧ Sim U E gh' (σ.puts e.us) (a.put o.dst v) w ∧ ∀ d, o.dst = some d → 2 * d ∈ e.wr) ∨ (o.dst = none ∧ StoreOk P U E o gh σ a w e.us))
def EntOk (P : Program) (U : Univ) (E : Env) (ops : Array Oper) (σ : St U) (e : Ent U) : Prop :=
  ∀ σ' gh a w, Agree e.ask σ σ' → Sim U E gh σ' a w →
    (∀ (Q : Exit → Act → World → Prop) (K : Act → World → Prop), (∀ gh' a' w', Sim U E gh' (σ'.puts e.us) a' w' → K a' w') → wpOp P ops Q e.i K a w) ∧ (e.light = true → LightOk P U E ops e gh σ' a w)
def ApartE (x y : Ent U) : Prop := (∀ κ ∈ x.ask, κ ∉ y.wr) ∧ (∀ κ ∈ y.ask, κ ∉ x.wr) ∧ ∀ κ ∈ x.wr, κ ∉ y.wr
def flatU (T : List (Ent U)) : List (Upd U) := T.flatMap Ent.us
def Tr (P : Program) (U : Univ) (E : Env) (ops : Array Oper) (σ0 : St U) (T : List (Ent U)) : Prop :=
  ∀ i e, T[i]? = some e → e.i = i ∧ EntOk P U E ops (σ0.puts (flatU (T.take i))) e ∧ ∀ j h, j < i → T[j]? = some h → ((Region.before ops).getD i 0).testBit j = true ∨ ApartE e h
def SameAt (κ : Nat) (σ σ' : St U) : Prop := ∀ n, (κ = 2 * n → σ'.slot n = σ.slot n) ∧ (κ = 2 * n + 1 → σ'.blk n = σ.blk n)
theorem SameAt.refl (κ : Nat) (σ : St U) : SameAt κ σ σ := fun _ => ⟨fun _ => rfl, fun _ => rfl⟩
theorem SameAt.trans {κ : Nat} {σ σ1 σ2 : St U} (h1 : SameAt κ σ σ1) (h2 : SameAt κ σ1 σ2) : SameAt κ σ σ2 := fun n => ⟨fun h => ((h2 n).1 h).trans ((h1 n).1 h), fun h => ((h2 n).2 h).trans ((h1 n).2 h)⟩
theorem SameAt.symm {κ : Nat} {σ σ1 : St U} (h1 : SameAt κ σ σ1) : SameAt κ σ1 σ := fun n => ⟨fun h => ((h1 n).1 h).symm, fun h => ((h1 n).2 h).symm⟩
theorem sameAt_put {κ : Nat} {σ σ' : St U} (u : Upd U) (h : SameAt κ σ σ') : SameAt κ (σ.put u) (σ'.put u) := by
  intro n
  cases u with
  | slot m v =>
    refine ⟨fun e => ?_, fun e => (h n).2 e⟩
    rw [St.slot_put, St.slot_put]
    split
    · rfl
    · exact (h n).1 e
  | blk m b =>
    refine ⟨fun e => (h n).1 e, fun e => ?_⟩
    rw [St.blk_put, St.blk_put]
    split
    · rfl
    · exact (h n).2 e
theorem sameAt_puts {κ : Nat} : ∀ (us : List (Upd U)) {σ σ' : St U}, SameAt κ σ σ' → SameAt κ (σ.puts us) (σ'.puts us)
  | [], _, _, h => h
  | u :: us, _, _, h => sameAt_puts us (sameAt_put u h)
theorem sameAt_no {κ : Nat} : ∀ (us : List (Upd U)) (σ : St U), κ ∉ us.map keyOf → SameAt κ σ (σ.puts us)
  | [], σ, _ => SameAt.refl κ σ
  | u :: us, σ, h => by
    simp only [List.map_cons, List.mem_cons, not_or] at h
    refine SameAt.trans ?_ (sameAt_no us (σ.put u) h.2)
    intro n
    cases u with
    | slot m v =>
      refine ⟨fun e => ?_, fun e => rfl⟩
      rw [St.slot_put, if_neg]
      intro hm
      exact h.1 (by rw [e, ← hm]; rfl)
    | blk m b =>
      refine ⟨fun e => rfl, fun e => ?_⟩
      rw [St.blk_put, if_neg]
      intro hm
      exact h.1 (by rw [e, ← hm]; rfl)
theorem sameAt_yes {κ : Nat} : ∀ (us : List (Upd U)) (σ σ' : St U), κ ∈ us.map keyOf → SameAt κ (σ.puts us) (σ'.puts us)
  | u :: us, σ, σ', h => by
    by_cases h' : κ ∈ us.map keyOf
    · exact sameAt_yes us (σ.put u) (σ'.put u) h'
    · simp only [List.map_cons, List.mem_cons, h', or_false] at h
      refine sameAt_puts us fun n => ?_
      cases u with
      | slot m v =>
        have h : κ = 2 * m := h
        refine ⟨fun e => ?_, fun e => by omega⟩
        have : m = n := by omega
        rw [St.slot_put, St.slot_put, if_pos this, if_pos this]
      | blk m b =>
        have h : κ = 2 * m + 1 := h
        refine ⟨fun e => by omega, fun e => ?_⟩
        have : m = n := by omega
        rw [St.blk_put, St.blk_put, if_pos this, if_pos this]
theorem flatU_cons (e : Ent U) (T : List (Ent U)) : flatU (e :: T) = e.us ++ flatU T := rfl
theorem flatU_app (T1 T2 : List (Ent U)) : flatU (T1 ++ T2) = flatU T1 ++ flatU T2 := by simp [flatU]
theorem sel_same {κ : Nat} {p q : Ent U → Bool} : ∀ (T : List (Ent U)) {σ σ' : St U}, SameAt κ σ σ' → (∀ e ∈ T, κ ∈ e.wr → p e = q e) → SameAt κ (σ.puts (flatU (T.filter p))) (σ'.puts (flatU (T.filter q)))
  | [], _, _, h, _ => h
  | e :: T, σ, σ', h, hw => by
    have one : ∀ (b : Bool) (σ : St U), (σ.puts (flatU (if b = true then e :: T.filter p else T.filter p))) = ((if b = true then σ.puts e.us else σ).puts (flatU (T.filter p))) := by
      intro b σ
      cases b
      · rfl
      · simp only [if_true, flatU_cons, puts_append]
    have one' : ∀ (b : Bool) (σ : St U), (σ.puts (flatU (if b = true then e :: T.filter q else T.filter q))) = ((if b = true then σ.puts e.us else σ).puts (flatU (T.filter q))) := by
      intro b σ
      cases b
      · rfl
      · simp only [if_true, flatU_cons, puts_append]
    rw [List.filter_cons, List.filter_cons, one, one']
    refine sel_same T ?_ fun e' he => hw e' (List.mem_cons_of_mem _ he)
    by_cases hk : κ ∈ e.wr
    · rw [hw e List.mem_cons_self hk]
      split
      · exact sameAt_puts _ h
      · exact h
    · have h1 : ∀ (b : Bool) (σ : St U), SameAt κ σ (if b = true then σ.puts e.us else σ) := by
        intro b σ
        split
        · exact sameAt_no _ _ hk
        · exact SameAt.refl _ _
      exact ((h1 (p e) σ).symm.trans h).trans (h1 (q e) σ')
theorem agree_of_same {ask : List Nat} {σ σ' : St U} (h : ∀ κ ∈ ask, SameAt κ σ σ') : Agree ask σ σ' :=
  fun n => ⟨fun hn => (h _ hn n).1 rfl, fun hn => (h _ hn n).2 rfl⟩
theorem Sim.same {E : Env} {gh : Gh} {σ σ' : St U} {a : Act} {w : World} (S : Sim U E gh σ a w) (h : ∀ κ, SameAt κ σ σ') : Sim U E gh σ' a w :=
  S.ext (fun n => (h (2 * n) n).1 rfl) fun k => (h (2 * k + 1) k).2 rfl
theorem before_push (ops : List Oper) : ∀ (acc : Array Nat), (ops.foldl (init := acc) fun acc o => acc.push (o.after.foldl (fun s e => if Region.binds .any e then s ||| 2 ^ e.on ||| acc.getD e.on 0 else s) 0)).size = acc.size + ops.length ∧
    ∀ i, i < acc.size → (ops.foldl (init := acc) fun acc o => acc.push (o.after.foldl (fun s e => if Region.binds .any e then s ||| 2 ^ e.on ||| acc.getD e.on 0 else s) 0)).getD i 0 = acc.getD i 0 := by
  induction ops with
  | nil => intro acc; exact ⟨rfl, fun _ _ => rfl⟩
  | cons o ops ih =>
    intro acc
    obtain ⟨h1, h2⟩ := ih (acc.push (o.after.foldl (fun s e => if Region.binds .any e then s ||| 2 ^ e.on ||| acc.getD e.on 0 else s) 0))
    refine ⟨by rw [List.foldl_cons, h1]; simp; omega, fun i hi => ?_⟩
    rw [List.foldl_cons, h2 i (by simp; omega)]
    simp [Array.getElem?_push, Nat.ne_of_lt hi]
theorem edges_bit (acc : Array Nat) (j : Nat) : ∀ (l : List Edge) (s : Nat), (l.foldl (fun s e => if Region.binds .any e then s ||| 2 ^ e.on ||| acc.getD e.on 0 else s) s).testBit j = true →
    s.testBit j = true ∨ ∃ e ∈ l, Region.binds .any e = true ∧ (e.on = j ∨ (acc.getD e.on 0).testBit j = true)
  | [], s, h => .inl h
  | e :: l, s, h => by
    rw [List.foldl_cons] at h
    rcases edges_bit acc j l _ h with h1 | ⟨e', he, h1⟩
    · split at h1
      · rename_i hb
        rw [Nat.testBit_or, Nat.testBit_or] at h1
        simp only [Bool.or_eq_true] at h1
        rcases h1 with (h1 | h1) | h1
        · exact .inl h1
        · rw [Nat.testBit_two_pow] at h1
          exact .inr ⟨e, List.mem_cons_self, hb, .inl (by simpa using h1)⟩
        · exact .inr ⟨e, List.mem_cons_self, hb, .inr h1⟩
      · exact .inl h1
    · exact .inr ⟨e', List.mem_cons_of_mem _ he, h1⟩
theorem before_list : ∀ (l : List Oper) (acc : Array Nat) (i j : Nat), acc.size ≤ i →
    ((l.foldl (init := acc) fun acc o => acc.push (o.after.foldl (fun s e => if Region.binds .any e then s ||| 2 ^ e.on ||| acc.getD e.on 0 else s) 0)).getD i 0).testBit j = true →
    ∃ o, l[i - acc.size]? = some o ∧ ∃ e ∈ o.after, Region.binds .any e = true ∧ (e.on = j ∨ ((l.foldl (init := acc) fun acc o => acc.push (o.after.foldl (fun s e => if Region.binds .any e then s ||| 2 ^ e.on ||| acc.getD e.on 0 else s) 0)).getD e.on 0).testBit j = true)
  | [], acc, i, j, hi, h => by
    simp only [List.foldl_nil, Array.getD_eq_getD_getElem?] at h
    rw [Array.getElem?_eq_none (by omega)] at h
    simp at h
  | o :: l, acc, i, j, hi, h => by
    rw [List.foldl_cons] at h ⊢
    generalize hx : (o.after.foldl (fun s e => if Region.binds .any e then s ||| 2 ^ e.on ||| acc.getD e.on 0 else s) 0) = x at h ⊢
    by_cases hi' : i = acc.size
    · subst hi'
      obtain ⟨_, h2⟩ := before_push l (acc.push x)
      rw [h2 _ (by simp)] at h
      have : (acc.push x).getD acc.size 0 = x := by simp
      rw [this, ← hx, ← Array.foldl_toList] at h
      rcases edges_bit acc j _ 0 h with h1 | ⟨e, he, hb, h1⟩
      · simp at h1
      · refine ⟨o, by simp, e, Array.mem_toList_iff.1 he, hb, ?_⟩
        rcases h1 with h1 | h1
        · exact .inl h1
        · right
          by_cases hlt : e.on < acc.size
          · rw [h2 _ (by simp; omega)]
            have : (acc.push x).getD e.on 0 = acc.getD e.on 0 := by simp [Array.getElem?_push, Nat.ne_of_lt hlt]
            rw [this]
            exact h1
          · rw [Array.getD_eq_getD_getElem?, Array.getElem?_eq_none (by omega)] at h1
            simp at h1
    · obtain ⟨o', h1, h2⟩ := before_list l (acc.push x) i j (by simp; omega) h
      refine ⟨o', ?_, h2⟩
      rw [show i - acc.size = (i - (acc.push x).size) + 1 by simp; omega]
      simpa using h1
theorem before_edge {ops : Array Oper} {i j : Nat} (h : ((Region.before ops).getD i 0).testBit j = true) : ∃ o, ops[i]? = some o ∧ ∃ e ∈ o.after, Region.binds .any e = true ∧ (e.on = j ∨ ((Region.before ops).getD e.on 0).testBit j = true) := by
  unfold Region.before at h ⊢
  rw [← Array.foldl_toList] at h ⊢
  obtain ⟨o, h1, h2⟩ := before_list ops.toList #[] i j (Nat.zero_le _) h
  exact ⟨o, by simpa using h1, h2⟩
theorem binds_any {md : Region.Mode} {e : Edge} (h : Region.binds .any e = true) : Region.binds md e = true := by
  unfold Region.binds at h ⊢
  split at h
  · exact absurd h (by decide)
  · exact absurd h (by decide)
  · rfl
def Closed (ops : Array Oper) (listed : Array Bool) : Prop := ∀ i, listed.getD i false = true → ∀ j, ((Region.before ops).getD i 0).testBit j = true → listed.getD j false = true
theorem closed_ready {md : Region.Mode} {ops : Array Oper} {listed : Array Bool} {i : Nat} (hc : Closed ops listed) (hr : i ∈ Region.ready md ops listed) : ∀ j, ((Region.before ops).getD i 0).testBit j = true → listed.getD j false = true := by
  intro j hj
  obtain ⟨_, o, ho, hall⟩ := mem_ready.1 hr
  obtain ⟨o', ho', e, he, hb, h⟩ := before_edge hj
  cases ho.symm.trans ho'
  have h1 := hall e he (binds_any hb)
  rcases h with h | h
  · rw [← h]; exact h1
  · exact hc e.on h1 j h
theorem closed_set {ops : Array Oper} {listed : Array Bool} {i : Nat} (hc : Closed ops listed) (hi : ∀ j, ((Region.before ops).getD i 0).testBit j = true → listed.getD j false = true) : Closed ops (listed.setIfInBounds i true) := by
  intro k hk j hj
  refine getD_set_true ?_
  by_cases hki : i = k
  · subst hki
    exact hi j hj
  · rw [getD_set_ne false hki] at hk
    exact hc k hk j hj
theorem topo_pass {md : Region.Mode} {ops : Array Oper} {listed : Array Bool} (hs : listed.size = ops.size) (hr : Region.ready md ops listed = []) : ∀ (l : List Oper) (i m : Nat), (∀ k o, l[k]? = some o → ops[i + k]? = some o) → (∀ j, m.testBit j = true → listed.getD j false = true) →
    ∀ j, (topoPass md i l m).testBit j = true → listed.getD j false = true
  | [], _, _, _, hm => hm
  | o :: l, i, m, hi, hm => by
    have h0 : ops[i]? = some o := by simpa using hi 0 o rfl
    have hlt : i < ops.size := (Array.getElem?_eq_some_iff.1 h0).1
    refine topo_pass hs hr l (i + 1) _ (fun k o' hk => by have := hi (k + 1) o' (by simpa using hk); rwa [← Nat.add_assoc, Nat.add_right_comm] at this) ?_
    intro j hj
    split at hj
    · rename_i hall
      rw [Nat.testBit_or] at hj
      simp only [Bool.or_eq_true] at hj
      rcases hj with hj | hj
      · exact hm j hj
      · rw [Nat.testBit_two_pow] at hj
        have hj : i = j := by simpa using hj
        subst hj
        cases hl : listed.getD i false with
        | true => rfl
        | false =>
          have : i ∈ Region.ready md ops listed := by
            rw [mem_ready]
            refine ⟨?_, o, h0, fun e he hb => ?_⟩
            · simp [hs, hlt] at hl ⊢
              exact hl
            · have := Array.all_eq_true_iff_forall_mem.1 hall e he
              simp only [Bool.or_eq_true, Bool.not_eq_true'] at this
              rcases this with h | h
              · rw [hb] at h; cases h
              · exact hm _ h
          rw [hr] at this
          cases this
    · exact hm j hj
theorem topo_done {md : Region.Mode} {ops : Array Oper} {listed : Array Bool} (ht : topoOk md ops = true) (hs : listed.size = ops.size) (hr : Region.ready md ops listed = []) : ∀ j, j < ops.size → listed.getD j false = true := by
  intro j hj
  unfold topoOk at ht
  have ht := (beq_iff_eq).1 ht
  have hget : ∀ k o, ops.toList[k]? = some o → ops[0 + k]? = some o := fun k o h => by simpa using h
  refine topo_pass hs hr ops.toList 0 _ hget (topo_pass hs hr ops.toList 0 _ hget (topo_pass hs hr ops.toList 0 0 hget fun j h => by simp at h)) j ?_
  have : topoPass md 0 ops.toList (topoPass md 0 ops.toList (topoPass md 0 ops.toList 0)) = 2 ^ ops.size - 1 := by omega
  rw [this, Nat.testBit_two_pow_sub_one]
  simpa using hj
end Go.Ev
end
section
namespace Go.Ev
variable {U : Univ} {P : Program}
section
variable {E : Env} {ops : Array Oper} {σ0 : St U} {T : List (Ent U)}
abbrev isIn (listed : Array Bool) (e : Ent U) : Bool := listed.getD e.i false
theorem Tr.index (h : Tr P U E ops σ0 T) {i : Nat} {e : Ent U} (he : T[i]? = some e) : e.i = i := (h i e he).1
theorem Tr.mem (h : Tr P U E ops σ0 T) {e : Ent U} (he : e ∈ T) : T[e.i]? = some e := by
  obtain ⟨i, hi⟩ := List.getElem?_of_mem he
  rw [h.index hi]
  exact hi
theorem take_filter (h : Tr P U E ops σ0 T) (i : Nat) : T.take i = T.filter fun e => decide (e.i < i) := by
  have aux : ∀ (T' : List (Ent U)) (k : Nat), (∀ j e, T'[j]? = some e → e.i = k + j) → T'.take (i - k) = T'.filter fun e => decide (e.i < i) := by
    intro T'
    induction T' with
    | nil => intro k _; simp
    | cons e T' ih =>
      intro k hk
      have he : e.i = k := by simpa using hk 0 e rfl
      have ih' := ih (k + 1) fun j e' hj => by rw [hk (j + 1) e' (by simpa using hj)]; omega
      rw [List.filter_cons, he]
      by_cases hlt : k < i
      · rw [show i - k = (i - (k + 1)) + 1 by omega, List.take_succ_cons, ih']
        simp [hlt]
      · rw [show i - k = 0 by omega]
        rw [show i - (k + 1) = 0 by omega] at ih'
        simp only [List.take_zero] at ih' ⊢
        simp only [hlt, decide_false, Bool.false_eq_true, if_false]
        exact ih'
  simpa using aux T 0 fun j e hj => by rw [h.index hj]; omega
theorem Tr.agree (h : Tr P U E ops σ0 T) {listed : Array Bool} (hc : Closed ops listed) {e : Ent U} (he : e ∈ T) (hno : listed.getD e.i false = false) (hi : ∀ j, ((Region.before ops).getD e.i 0).testBit j = true → listed.getD j false = true) :
    Agree e.ask (σ0.puts (flatU (T.take e.i))) (σ0.puts (flatU (T.filter (isIn listed)))) := by
  refine agree_of_same fun κ hκ => ?_
  rw [take_filter h]
  refine sel_same T (SameAt.refl _ _) fun f hf hw => ?_
  have hei := h.mem he
  have hfi := h.mem hf
  simp only [isIn]
  rcases Nat.lt_trichotomy f.i e.i with hlt | heq | hgt
  · simp only [hlt, decide_true]
    rcases (h _ e hei).2.2 f.i f hlt hfi with hb | hap
    · exact (hi _ hb).symm
    · exact absurd hw (hap.1 κ hκ)
  · have : f = e := by rw [heq, hei] at hfi; exact (Option.some.inj hfi).symm
    subst this
    simp [hno]
  · have hnlt : ¬ f.i < e.i := by omega
    simp only [hnlt, decide_false]
    cases hl : listed.getD f.i false with
    | false => rfl
    | true =>
      rcases (h _ f hfi).2.2 e.i e hgt hei with hb | hap
      · rw [hc _ hl _ hb] at hno; cases hno
      · exact absurd hw (hap.2.1 κ hκ)
theorem Tr.added (h : Tr P U E ops σ0 T) {listed : Array Bool} (hc : Closed ops listed) {e : Ent U} (he : e ∈ T) (hno : listed.getD e.i false = false) (hlt : e.i < listed.size) : ∀ κ, SameAt κ ((σ0.puts (flatU (T.filter (isIn listed)))).puts e.us) (σ0.puts (flatU (T.filter (isIn (listed.setIfInBounds e.i true))))) := by
  intro κ
  have hei := h.mem he
  have hT : T = T.take e.i ++ e :: T.drop (e.i + 1) := by
    have h1 := getElem?_lt hei
    have h2 := List.drop_eq_getElem_cons h1
    have h3 : T[e.i] = e := by rw [List.getElem?_eq_getElem h1] at hei; exact Option.some.inj hei
    rw [h3] at h2
    rw [← h2, List.take_append_drop]
  have hset : ∀ f ∈ T, f.i ≠ e.i → isIn (listed.setIfInBounds e.i true) f = isIn listed f := fun f _ hne => getD_set_ne false (Ne.symm hne)
  have h1 : ∀ f ∈ T.take e.i, f.i ≠ e.i := fun f hf => by
    rw [take_filter h] at hf
    have := (List.mem_filter.1 hf).2
    simp at this
    omega
  have h2 : ∀ f ∈ T.drop (e.i + 1), e.i < f.i := fun f hf => by
    obtain ⟨j, hj⟩ := List.getElem?_of_mem hf
    rw [List.getElem?_drop] at hj
    rw [h.index hj]
    omega
  have f1 : (T.take e.i).filter (isIn (listed.setIfInBounds e.i true)) = (T.take e.i).filter (isIn listed) := List.filter_congr fun f hf => hset f (List.mem_of_mem_take hf) (h1 f hf)
  have f2 : (T.drop (e.i + 1)).filter (isIn (listed.setIfInBounds e.i true)) = (T.drop (e.i + 1)).filter (isIn listed) := List.filter_congr fun f hf => hset f (List.mem_of_mem_drop hf) (by have := h2 f hf; omega)
  have e1 : T.filter (isIn listed) = (T.take e.i).filter (isIn listed) ++ (T.drop (e.i + 1)).filter (isIn listed) := by
    conv => lhs; rw [hT]
    rw [List.filter_append, List.filter_cons]
    simp only [isIn, hno, Bool.false_eq_true, if_false]
  have e2 : T.filter (isIn (listed.setIfInBounds e.i true)) = (T.take e.i).filter (isIn listed) ++ e :: (T.drop (e.i + 1)).filter (isIn listed) := by
    conv => lhs; rw [hT]
    rw [List.filter_append, List.filter_cons, f1, f2]
    have : isIn (listed.setIfInBounds e.i true) e = true := by simp [isIn, hlt]
    rw [this]
    rfl
  rw [e1, e2, flatU_app, flatU_app, flatU_cons, puts_append, puts_append, puts_append]
  generalize σ0.puts (flatU ((T.take e.i).filter (isIn listed))) = σ1
  by_cases hk : κ ∈ e.wr
  · have hno2 : κ ∉ (flatU ((T.drop (e.i + 1)).filter (isIn listed))).map keyOf := by
      intro hm
      obtain ⟨u, hu, hku⟩ := List.mem_map.1 hm
      obtain ⟨f, hf, huf⟩ := List.mem_flatMap.1 hu
      have hf1 := List.mem_filter.1 hf
      have hfT := List.mem_of_mem_drop hf1.1
      have hgt := h2 f hf1.1
      have hfw : κ ∈ f.wr := List.mem_map.2 ⟨u, huf, hku⟩
      rcases (h _ f (h.mem hfT)).2.2 e.i e hgt hei with hb | hap
      · rw [hc _ hf1.2 _ hb] at hno; cases hno
      · exact hap.2.2 κ hfw hk
    exact SameAt.trans (sameAt_yes e.us _ σ1 hk) (sameAt_no _ _ hno2)
  · exact SameAt.trans (sameAt_no e.us _ hk).symm (sameAt_puts _ (sameAt_no e.us σ1 hk))
theorem count_set {listed : Array Bool} {i : Nat} (hi : i < listed.size) (hno : listed.getD i false = false) : (listed.setIfInBounds i true).toList.count true = listed.toList.count true + 1 := by
  rw [Array.toList_setIfInBounds]
  have hlt : i < listed.toList.length := by simpa using hi
  have hv : listed.toList[i] = false := by
    simp [hi] at hno
    simpa using hno
  rw [List.count_set hlt, hv]
  simp
theorem all_filter {listed : Array Bool} (h : Tr P U E ops σ0 T) (hT : T.length ≤ ops.size) (hall : ∀ j, j < ops.size → listed.getD j false = true) : T.filter (isIn listed) = T := by
  rw [List.filter_eq_self]
  intro e he
  refine hall e.i ?_
  have := getElem?_lt (h.mem he)
  omega
theorem draw_sound {md : Region.Mode} {Q : Exit → Act → World → Prop} (h : Tr P U E ops σ0 T) (hT : T.length = ops.size) (ht : topoOk md ops = true) (hQ : ∀ gh a w, Sim U E gh (σ0.puts (flatU T)) a w → Q .normal a w) :
    ∀ (fuel : Nat) (listed : Array Bool) (gh : Gh) (a : Act) (w : World), listed.size = ops.size → listed.toList.count true + fuel = ops.size → Closed ops listed → Sim U E gh (σ0.puts (flatU (T.filter (isIn listed)))) a w → wpAny P md ops Q fuel listed a w := by
  intro fuel
  induction fuel with
  | zero =>
    intro listed gh a w hs hc hcl S
    have hall : ∀ j, j < ops.size → listed.getD j false = true := by
      intro j hj
      have h1 : listed.toList.count true = listed.toList.length := by rw [Array.length_toList]; omega
      have h2 := List.count_eq_length.1 h1 (listed.toList[j]'(by simp; omega)) (List.getElem_mem _)
      have : j < listed.size := by omega
      simp [this]
      simpa using h2.symm
    refine ⟨?_, hQ gh a w (by rw [all_filter h (by omega) hall] at S; exact S)⟩
    refine List.eq_nil_iff_forall_not_mem.2 fun i hi => ?_
    obtain ⟨h0, o, ho, _⟩ := mem_ready.1 hi
    have hlt := (Array.getElem?_eq_some_iff.1 ho).1
    have := hall i hlt
    have hl : i < listed.size := by omega
    simp [hl] at this h0
    rw [h0] at this
    cases this
  | succ fuel ih =>
    intro listed gh a w hs hc hcl S
    refine ⟨fun hr => hQ gh a w ?_, fun i hi => ?_⟩
    · rw [all_filter h (by omega) (topo_done ht hs hr)] at S
      exact S
    · obtain ⟨h0, o, ho, _⟩ := mem_ready.1 hi
      have hlt := (Array.getElem?_eq_some_iff.1 ho).1
      have hl : i < listed.size := by omega
      obtain ⟨e, he⟩ : ∃ e, T[i]? = some e := ⟨T[i]'(by omega), by simp [show i < T.length by omega]⟩
      have hei := h.index he
      have hem := List.mem_of_getElem? he
      have hno : listed.getD e.i false = false := by
        rw [hei]
        simp [hl] at h0 ⊢
        exact h0
      have hb := closed_ready hcl hi
      rw [← hei] at hb hl
      obtain ⟨_, hok, _⟩ := h _ e he
      rw [← hei] at hok
      have := (hok _ gh a w (h.agree hcl hem hno hb) S).1 Q (wpAny P md ops Q fuel (listed.setIfInBounds e.i true)) fun gh' a' w' S' =>
        ih _ gh' a' w' (by simpa using hs) (by rw [count_set hl hno]; omega) (closed_set hcl hb) (S'.same (h.added hcl hem hno hl))
      rw [hei] at this
      exact this
end
end Go.Ev
end
section
namespace Go.Ev
variable {U : Univ} {P : Program}
theorem setRow_comm (w : World) {g j : Nat} (h : g ≠ j) (c d : Array Value) : (w.setRow g c).setRow j d = (w.setRow j d).setRow g c := by
  unfold World.setRow
  congr 1
  apply Array.ext
  · simp
  · intro i h1 h2
    simp only [Array.getElem_modify]
    by_cases hg : g = i
    · subst hg
      simp [Ne.symm h]
    · by_cases hj : j = i
      · subst hj
        simp [hg]
      · simp [hg, hj]
mutual
theorem At.fits : ∀ {t t' : Ty} {p : List Step} {o n N : Nat}, At U t p o t' → Sz U t' n → Sz U t N → o + n ≤ N
  | _, _, _, _, _, _, .nil, h1, h2 => by rw [h1.uniq h2]; omega
  | _, _, _, _, _, _, .fld (u := u) h1 h2 h3, hn, hN => by
    cases hN with
    | st hN =>
      obtain ⟨m, hm, hle⟩ := szl_at h1 h2 hN
      have := At.fits h3 hn hm
      omega
  | _, _, _, _, _, _, .ix (m := m) (i := i) h1 h2 h3 h4, hn, hN => by
    cases hN with
    | arr hN =>
      cases h3.uniq hN
      rename_i k _ _ _
      have := At.fits h4 hn h3
      have hi : i.toNat + 1 ≤ m := by omega
      have := Nat.mul_le_mul_right k hi
      rw [Nat.add_mul, Nat.one_mul] at this
      omega
theorem szl_at : ∀ {ts : List Ty} {j : Nat} {u : Ty} {o N : Nat}, ts[j]? = some u → SzL U (ts.take j) o → SzL U ts N → ∃ m, Sz U u m ∧ o + m ≤ N
  | t :: ts, 0, u, o, N, h, ho, hN => by
    simp at h
    subst h
    cases ho
    cases hN with
    | cons h1 h2 => exact ⟨_, h1, by omega⟩
  | t :: ts, j + 1, u, o, N, h, ho, hN => by
    rw [List.take_succ_cons] at ho
    cases ho with
    | cons g1 g2 =>
      cases hN with
      | cons h1 h2 =>
        cases g1.uniq h1
        obtain ⟨m, hm, hle⟩ := szl_at (by simpa using h) g2 h2
        exact ⟨m, hm, by omega⟩
end
section
variable {E : Env} {ops : Array Oper} {σ0 : St U} {T : List (Ent U)}
structure Head (P : Program) (U : Univ) (o : Oper) (σ : St U) (pp vv k : Nat) : Prop where
  dst : o.dst = none
  guard : o.guard = none
  op : ∃ TT, o.op = .store TT (.tmp pp) (.tmp vv) ∧ ∃ e, Info P U TT (.sl e) ∧ ∃ ver q, σ.slot pp = .ptr k ver q (.sl e) ∧ hasIx q = false
  row : ∃ k2 v2 q2 w2, σ.slot vv = .row k2 v2 q2 w2
def HeadRun (P : Program) (o : Oper) (pp : Nat) (a : Act) (w : World) (g : Nat) (cur : Array Value) (tag : TypeId) (cur' : Array Value) : Prop :=
  w.heap[g]? = some (.cells cur tag (0, 0)) ∧ (∀ w' : World, w'.heap[g]? = some (.cells cur tag (0, 0)) → (execOp a.eval o).run P w' = .ok .skip (w'.setRow g cur')) ∧ ∃ off, a.eval (.tmp pp) = .pointer (some ⟨g, off, none⟩)
theorem head_base {σ : St U} {gh : Gh} {a : Act} {w : World} {o : Oper} {pp vv k : Nat} (S : Sim U E gh σ a w) (h : Head P U o σ pp vv k) : ∃ b off e, σ.blk k = some b ∧ b.mem = true ∧ a.eval (.tmp pp) = .pointer (some ⟨gh.base k, off, none⟩) ∧ (∃ q, At U b.x.t q off (.sl e)) ∧ (∃ TT, o.op = .store TT (.tmp pp) (.tmp vv) ∧ Info P U TT (.sl e)) := by
  obtain ⟨TT, hop, e, hI, ver, q, hs, hq⟩ := h.op
  have hp := S.slots pp
  rw [hs] at hp
  generalize hev : a.tmps.getD pp Go.undef = vp at hp
  cases hp with
  | ptr hp =>
    obtain ⟨b, hb, _, hp⟩ := hp
    obtain ⟨hm, off, hat, rfl⟩ := (hp (.inl hq)).flat hq
    exact ⟨b, off, e, hb, hm, hev, ⟨q, hat⟩, TT, hop, hI⟩
theorem head_run (hU : ULaw U) {σ : St U} {gh : Gh} {a : Act} {w : World} {o : Oper} {pp vv k : Nat} (S : Sim U E gh σ a w) (h : Head P U o σ pp vv k) : ∃ g cur tag cur', HeadRun P o pp a w g cur tag cur' := by
  obtain ⟨b, off, e, hb, hm, hev, ⟨q, hat⟩, TT, hop, hI⟩ := head_base S h
  obtain ⟨cs, tag, hh, hr⟩ := (RepBlk.of_mem hm).1 (S.blks k b hb)
  obtain ⟨N, hN⟩ := hasSize hU b.x.t
  have hfit := At.fits hat .sl hN
  have hlen := hr.length hU hN
  obtain ⟨k2, v2, q2, w2, hrow⟩ := h.row
  have hv := S.slots vv
  rw [hrow] at hv
  have hone : (a.eval (.tmp vv)).oneCell' = true := by
    have hv : RepAV U gh σ w _ (a.eval (.tmp vv)) := hv
    generalize a.eval (.tmp vv) = u at hv
    cases hv with
    | row h1 _ => exact h1
  generalize hu : a.eval (.tmp vv) = u at hone
  refine ⟨gh.base k, cs.toArray, tag, (cs.toArray.toList.take off ++ [u] ++ cs.toArray.toList.drop (off + 1)).toArray, hh, fun w' hw' => ?_, off, hev⟩
  have hrun := run_storeVar hI (w := w') (g := gh.base k) (o := off) (cs := [u]) (v := u) .sl rfl (by rfl) (fun x hx => by rw [List.mem_singleton.1 hx]; exact hone) hw' (by simp; omega)
  unfold execOp
  rw [hop]
  simp only [Sem.run_bind, Instr.storeAt, hev, Instr.sureAddr, Sem.run_pure, Result.andThen_ok, hu]
  rw [hrun]
  rfl
theorem wpOp_head {Q : Exit → Act → World → Prop} {K : Act → World → Prop} {o : Oper} {i : Nat} {a : Act} {w w' : World} (hi : ops[i]? = some o) (hg : o.guard = none) (hd : o.dst = none) (hr : (execOp a.eval o).run P w = .ok .skip w') (hK : K a w') : wpOp P ops Q i K a w := by
  unfold wpOp
  rw [hi]
  have hw : Region.wanted o (yielded ops a.tmps) = true := by
    unfold Region.wanted
    rw [hg]
  simp only [hw, if_true]
  refine .inl ?_
  unfold Oper.wp
  rw [hr]
  simp only [Oper.upon_skip, hd]
  exact hK
theorem draw_late (hU : ULaw U) {md : Region.Mode} {Q : Exit → Act → World → Prop} (h : Tr P U E ops σ0 T) {e : Ent U} (hT : T.length + 1 = ops.size) (ht : topoOk md ops = true) {o : Oper} (ho : ops[T.length]? = some o) (hei : e.i = T.length) (hE : EntOk P U E ops (σ0.puts (flatU T)) e) {pp vv k : Nat} (hh : Head P U o (σ0.puts (flatU T)) pp vv k)
    (hlate : ∀ f ∈ T, ((Region.before ops).getD T.length 0).testBit f.i = true ∨ (f.light = true ∧ 2 * pp ∉ f.wr ∧ 2 * vv ∉ f.wr ∧ 2 * k + 1 ∉ f.wr))
    (hQ : ∀ gh a w, Sim U E gh ((σ0.puts (flatU T)).puts e.us) a w → Q .normal a w) :
    ∀ (fuel : Nat) (listed : Array Bool) (a : Act) (w : World), listed.size = ops.size → listed.toList.count true + fuel = ops.size → Closed ops listed →
      ((listed.getD T.length false = false ∧ ∃ gh, Sim U E gh (σ0.puts (flatU (T.filter (isIn listed)))) a w) ∨
        (listed.getD T.length false = true ∧ ∃ gh wv g cur tag cur', Sim U E gh (σ0.puts (flatU (T.filter (isIn listed)))) a wv ∧ HeadRun P o pp a wv g cur tag cur' ∧ w = wv.setRow g cur')) → wpAny P md ops Q fuel listed a w := by
  have done : ∀ {listed : Array Bool} {a : Act} {w : World}, (∀ j, j < ops.size → listed.getD j false = true) → ((listed.getD T.length false = false ∧ ∃ gh, Sim U E gh (σ0.puts (flatU (T.filter (isIn listed)))) a w) ∨
        (listed.getD T.length false = true ∧ ∃ gh wv g cur tag cur', Sim U E gh (σ0.puts (flatU (T.filter (isIn listed)))) a wv ∧ HeadRun P o pp a wv g cur tag cur' ∧ w = wv.setRow g cur')) → Q .normal a w := by
    intro listed a w hall hI
    rcases hI with ⟨h0, _⟩ | ⟨_, gh, wv, g, cur, tag, cur', S, ⟨r1, r2, r3⟩, rfl⟩
    · rw [hall _ (by omega)] at h0; cases h0
    · rw [all_filter h (by omega) hall] at S
      have := (hE _ gh a wv (fun n => ⟨fun _ => rfl, fun _ => rfl⟩) S).1 (fun _ _ _ => False) (fun a' w' => ∃ gh', Sim U E gh' ((σ0.puts (flatU T)).puts e.us) a' w') (fun gh' a' w' S' => ⟨gh', S'⟩)
      unfold wpOp at this
      rw [hei, ho] at this
      have hw : Region.wanted o (yielded ops a.tmps) = true := by
        unfold Region.wanted
        rw [hh.guard]
      simp only [hw, if_true] at this
      rcases this with this | ⟨_, _, _, hf⟩
      · unfold Oper.wp at this
        rw [r2 wv r1] at this
        simp only [Oper.upon_skip, hh.dst] at this
        obtain ⟨gh', S'⟩ := this
        exact hQ gh' a _ S'
      · exact hf.elim
  intro fuel
  induction fuel with
  | zero =>
    intro listed a w hs hc hcl hI
    have hall : ∀ j, j < ops.size → listed.getD j false = true := by
      intro j hj
      have h1 : listed.toList.count true = listed.toList.length := by rw [Array.length_toList]; omega
      have h2 := List.count_eq_length.1 h1 (listed.toList[j]'(by simp; omega)) (List.getElem_mem _)
      have : j < listed.size := by omega
      simp [this]
      simpa using h2.symm
    refine ⟨?_, done hall hI⟩
    refine List.eq_nil_iff_forall_not_mem.2 fun i hi => ?_
    obtain ⟨h0, o, ho, _⟩ := mem_ready.1 hi
    have hlt := (Array.getElem?_eq_some_iff.1 ho).1
    have := hall i hlt
    have hl : i < listed.size := by omega
    simp [hl] at this h0
    rw [h0] at this
    cases this
  | succ fuel ih =>
    intro listed a w hs hc hcl hI
    refine ⟨fun hr => done (topo_done ht hs hr) hI, fun i hi => ?_⟩
    obtain ⟨h0, o', ho', _⟩ := mem_ready.1 hi
    have hlt := (Array.getElem?_eq_some_iff.1 ho').1
    have hl : i < listed.size := by omega
    have hno : listed.getD i false = false := by
      simp [hl] at h0 ⊢
      exact h0
    have hb := closed_ready hcl hi
    have hcs := closed_set (i := i) hcl hb
    have hcnt : (listed.setIfInBounds i true).toList.count true + fuel = ops.size := by rw [count_set hl hno]; omega
    have hsz : (listed.setIfInBounds i true).size = ops.size := by simpa using hs
    by_cases hlast : i = T.length
    ·
      subst hlast
      cases ho.symm.trans ho'
      rcases hI with ⟨_, gh, S⟩ | ⟨h1, _⟩
      case inr => rw [hno] at h1; cases h1
      have hsame : ∀ κ, (κ = 2 * pp ∨ κ = 2 * vv) → SameAt κ (σ0.puts (flatU T)) (σ0.puts (flatU (T.filter (isIn listed)))) := by
        intro κ hκ
        have := sel_same (κ := κ) (p := fun _ => true) (q := isIn listed) T (SameAt.refl κ σ0) fun f hf hw => by
          rcases hlate f hf with h1 | ⟨_, h1, h2, _⟩
          · exact (hb _ h1).symm
          · rcases hκ with rfl | rfl
            · exact absurd hw h1
            · exact absurd hw h2
        rwa [List.filter_eq_self.2 (fun _ _ => rfl)] at this
      have hh' : Head P U o (σ0.puts (flatU (T.filter (isIn listed)))) pp vv k := by
        obtain ⟨TT, hop, e0, hI0, ver, q, hsl, hq⟩ := hh.op
        obtain ⟨k2, v2, q2, w2, hrow⟩ := hh.row
        exact ⟨hh.dst, hh.guard, ⟨TT, hop, e0, hI0, ver, q, by rw [(hsame _ (.inl rfl) pp).1 rfl]; exact hsl, hq⟩, k2, v2, q2, w2, by rw [(hsame _ (.inr rfl) vv).1 rfl]; exact hrow⟩
      obtain ⟨g, cur, tag, cur', hrun⟩ := head_run hU S hh'
      refine wpOp_head ho hh.guard hh.dst (hrun.2.1 w hrun.1) (ih _ a _ hsz hcnt hcs (.inr ⟨by simp [hl], gh, w, g, cur, tag, cur', ?_, hrun, rfl⟩))
      have : T.filter (isIn (listed.setIfInBounds T.length true)) = T.filter (isIn listed) := List.filter_congr fun f hf => getD_set_ne false (by
        have := getElem?_lt (h.mem hf)
        omega)
      rw [this]
      exact S
    · obtain ⟨f, hf⟩ : ∃ f, T[i]? = some f := ⟨T[i]'(by omega), by simp [show i < T.length by omega]⟩
      have hfi := h.index hf
      have hfm := List.mem_of_getElem? hf
      obtain ⟨_, hok, _⟩ := h _ f hf
      have hkeep : (listed.setIfInBounds i true).getD T.length false = listed.getD T.length false := getD_set_ne false hlast
      have hag := h.agree hcl hfm (by rw [hfi]; exact hno) (by rw [hfi]; exact hb)
      have hadd := h.added hcl hfm (by rw [hfi]; exact hno) (by rw [hfi]; exact hl)
      rw [hfi] at hag hadd
      rcases hI with ⟨h1, gh, S⟩ | ⟨h1, gh, wv, g, cur, tag, cur', S, ⟨r1, r2, r3⟩, rfl⟩
      · have := (hok _ gh a w hag S).1 Q (wpAny P md ops Q fuel (listed.setIfInBounds i true)) fun gh' a' w' S' =>
          ih _ a' w' hsz hcnt hcs (.inl ⟨hkeep.trans h1, gh', S'.same hadd⟩)
        rw [hfi] at this
        exact this
      ·
        have hlt9 : T.length < listed.size := by omega
        obtain ⟨hl1, hl2, hl3, hl4⟩ : f.light = true ∧ 2 * pp ∉ f.wr ∧ 2 * vv ∉ f.wr ∧ 2 * k + 1 ∉ f.wr := by
          rcases hlate f hfm with h2 | h2
          · have := hcl _ h1 _ h2
            rw [hfi, hno] at this
            cases this
          · exact h2
        obtain ⟨ox, hox, hwx, hcase⟩ := (hok _ gh a wv hag S).2 hl1
        rw [hfi] at hox
        have hsl : ∀ {listed' : Array Bool}, Closed ops listed' → listed'.getD T.length false = true → Head P U o (σ0.puts (flatU (T.filter (isIn listed')))) pp vv k := by
          intro listed' hcl' hl'
          have hsame : ∀ κ, (κ = 2 * pp ∨ κ = 2 * vv) → SameAt κ (σ0.puts (flatU T)) (σ0.puts (flatU (T.filter (isIn listed')))) := by
            intro κ hκ
            have := sel_same (κ := κ) (p := fun _ => true) (q := isIn listed') T (SameAt.refl κ σ0) fun f hf hw => by
              rcases hlate f hf with h1 | ⟨_, h1, h2, _⟩
              · exact (hcl' _ hl' _ h1).symm
              · rcases hκ with rfl | rfl
                · exact absurd hw h1
                · exact absurd hw h2
            rwa [List.filter_eq_self.2 (fun _ _ => rfl)] at this
          obtain ⟨TT, hop, e0, hI0, ver, q, hsl, hq⟩ := hh.op
          obtain ⟨k2, v2, q2, w2, hrow⟩ := hh.row
          exact ⟨hh.dst, hh.guard, ⟨TT, hop, e0, hI0, ver, q, by rw [(hsame _ (.inl rfl) pp).1 rfl]; exact hsl, hq⟩, k2, v2, q2, w2, by rw [(hsame _ (.inr rfl) vv).1 rfl]; exact hrow⟩
        obtain ⟨off0, hev0⟩ := r3
        have hgb : gh.st g = .own k none := by
          obtain ⟨b, off, e0, hb0, hm0, hev, _, _⟩ := head_base S (hsl hcl h1)
          rw [hev0] at hev
          cases hev
          exact S.owns k b hb0 _ none ⟨hm0, rfl⟩
        have hopd : ∃ TT, o.op = .store TT (.tmp pp) (.tmp vv) := let ⟨TT, h, _⟩ := hh.op; ⟨TT, h⟩
        obtain ⟨TT, hop⟩ := hopd
        have hwp : ∀ {K : Act → World → Prop}, ox.wp P a (wv.setRow g cur') K Q → wpOp P ops Q i K a (wv.setRow g cur') := fun hx => by
          unfold wpOp
          rw [hox]
          simp only [hwx, if_true]
          exact .inl hx
        rcases hcase with ⟨v, gh', hv, S', hd⟩ | ⟨hd, hst⟩
        · refine hwp ?_
          unfold Oper.wp
          rw [hv]
          simp only [Oper.upon_value]
          have hne : ∀ d, ox.dst = some d → d ≠ pp ∧ d ≠ vv := fun d hdd => ⟨fun e => hl2 (e ▸ hd d hdd), fun e => hl3 (e ▸ hd d hdd)⟩
          have hev1 : (a.put ox.dst v).eval (.tmp pp) = a.eval (.tmp pp) := Act.eval_put fun d hdd e => by cases e; exact (hne _ hdd).1 rfl
          have hev2 : (a.put ox.dst v).eval (.tmp vv) = a.eval (.tmp vv) := Act.eval_put fun d hdd e => by cases e; exact (hne _ hdd).2 rfl
          have hex : execOp (a.put ox.dst v).eval o = execOp a.eval o := by
            unfold execOp
            rw [hop]
            simp only [hev1, hev2]
          refine ih _ _ _ hsz hcnt hcs (.inr ⟨hkeep.trans h1, gh', wv, g, cur, tag, cur', S'.same hadd, ⟨r1, fun w' hw' => by rw [hex]; exact r2 w' hw', off0, by rw [hev1]; exact hev0⟩, rfl⟩)
        · obtain ⟨gh', g2, cur2, tag2, cur2', j2, p2, q1, q2, q3, ⟨bb, q4⟩, S'⟩ := hst
          have hjk : j2 ≠ k := fun e => hl4 (by rw [← e]; exact List.mem_map.2 ⟨_, q4, rfl⟩)
          have hgg : g ≠ g2 := fun e => by
            rw [e, q3] at hgb
            cases hgb
            exact hjk rfl
          refine hwp ?_
          unfold Oper.wp
          rw [q2 (wv.setRow g cur') (by rw [setRow_other _ _ _ _ (Ne.symm hgg)]; exact q1)]
          simp only [Oper.upon_skip, hd]
          refine ih _ a _ hsz hcnt hcs (.inr ⟨hkeep.trans h1, gh', wv.setRow g2 cur2', g, cur, tag, cur', S'.same hadd, ⟨by rw [setRow_other _ _ _ _ hgg]; exact r1, r2, off0, hev0⟩, ?_⟩)
          exact setRow_comm wv hgg cur' cur2'
end
end Go.Ev
end
section
namespace Go.Ev
variable {U : Univ} {P : Program}
section
variable {E : Env} {gh : Gh} {σ : St U} {a : Act} {w : World} {o : Oper}
theorem light_ok {G : Ctx U} (hU : ULaw U) (hG : GOk P U G) (S : Sim U E gh σ a w) (hd : InN E o.dst) (hl : lightOp o = true) {us : List (Upd U)} (h : (opRun G o : Out U).run σ = some us) :
    (∃ v gh', (∀ w' : World, (execOp a.eval o).run P w' = .ok (.value v) w') ∧ Sim U E gh' (σ.puts us) (a.put o.dst v) w ∧ ∀ d, o.dst = some d → 2 * d ∈ us.map keyOf) ∨ (o.dst = none ∧ StoreOk P U E o gh σ a w us) := by
  have val : ∀ {av : AV U} {r : Value}, (∀ w' : World, (execOp a.eval o).run P w' = .ok (.value r) w') → RepAV U gh σ w av r → (Rd.ret (put o.dst av) : Out U).run σ = some us →
      (∃ v gh', (∀ w' : World, (execOp a.eval o).run P w' = .ok (.value v) w') ∧ Sim U E gh' (σ.puts us) (a.put o.dst v) w ∧ ∀ d, o.dst = some d → 2 * d ∈ us.map keyOf) ∨ (o.dst = none ∧ StoreOk P U E o gh σ a w us) := by
    intro av r hx hr h
    simp only [run_ret, Option.some.injEq] at h
    subst h
    refine .inl ⟨r, gh, hx, S.pure hd hr, fun d hdd => ?_⟩
    rw [hdd]
    exact List.mem_cons_self
  unfold lightOp at hl
  unfold opRun at h
  split at hl
  · rename_i x ho
    rw [ho] at h
    simp only at h
    replace h := bind_some' h
    obtain ⟨v, hv, h⟩ := h
    exact val (fun w' => by unfold execOp; rw [ho]; rfl) (opd_rep S hv) h
  · rename_i x ho
    rw [ho] at h
    simp only at h
    replace h := bind_some' h
    obtain ⟨v, hv, h⟩ := h
    replace hv := opd_rep S hv
    split at h
    · generalize hev : a.eval x = vv at hv
      cases hv with
      | ptr hp =>
        refine val (r := .pointer (some _)) (fun w' => ?_) (.ptr hp) h
        unfold execOp
        rw [ho]
        simp only [hev, Sem.run_pure]
    · generalize hev : a.eval x = vv at hv
      cases hv with
      | vptr h1 h2 h3 h4 =>
        refine val (r := .pointer (some _)) (fun w' => ?_) (.vptr h1 h2 h3 h4) h
        unfold execOp
        rw [ho]
        simp only [hev, Sem.run_pure]
    · simp at h
  · rename_i T x j ho
    rw [ho] at h
    simp only at h
    replace h := bind_some' h
    obtain ⟨v, hv, h⟩ := h
    replace h := bind_some' h
    obtain ⟨r, hr, h⟩ := h
    obtain ⟨rv, h1, h2⟩ := opFieldAddr_rep (P := P) hU hG (opd_rep S hv) hr
    refine val (fun w' => ?_) h2 h
    unfold execOp
    rw [ho]
    simp only [Sem.run_bind, h1 w', Result.andThen_ok, Sem.run_pure]
  · rename_i T x i ho
    rw [ho] at h
    simp only at h
    replace h := bind_some' h
    obtain ⟨v, hv, h⟩ := h
    replace h := bind_some' h
    obtain ⟨u, hu, h⟩ := h
    replace h := bind_some' h
    obtain ⟨r, hr, h⟩ := h
    obtain ⟨rv, h1, h2⟩ := opIndexAddr_rep (P := P) hU hG S (opd_rep S hv) (opd_rep S hu) hr
    refine val (fun w' => ?_) h2 h
    unfold execOp
    rw [ho]
    simp only [Sem.run_bind, h1 w', Result.andThen_ok, Sem.run_pure]
  · rename_i T x y ho
    rw [ho] at h
    simp only at h
    split at h
    · simp at h
    rename_i hdn
    replace h := bind_some' h
    obtain ⟨v, hv, h⟩ := h
    replace h := bind_some' h
    obtain ⟨u, hu, h⟩ := h
    exact .inr ⟨by simpa using hdn, opStore_ok hU hG S ho (opd_rep S hv) (opd_rep S hu) h⟩
  · cases hl
end
def ExtEq (σ τ : St U) : Prop := (∀ n, τ.slot n = σ.slot n) ∧ ∀ k, τ.blk k = σ.blk k
theorem ExtEq.refl (σ : St U) : ExtEq σ σ := ⟨fun _ => rfl, fun _ => rfl⟩
theorem ExtEq.trans {σ τ ρ : St U} (h1 : ExtEq σ τ) (h2 : ExtEq τ ρ) : ExtEq σ ρ := ⟨fun n => (h2.1 n).trans (h1.1 n), fun n => (h2.2 n).trans (h1.2 n)⟩
theorem ExtEq.same {σ τ : St U} (h : ExtEq σ τ) (κ : Nat) : SameAt κ σ τ := fun n => ⟨fun _ => h.1 n, fun _ => h.2 n⟩
theorem ExtEq.puts {σ τ : St U} (h : ExtEq σ τ) (us : List (Upd U)) : ExtEq (σ.puts us) (τ.puts us) :=
  ⟨fun n => (sameAt_puts us (h.same (2 * n)) n).1 rfl, fun n => (sameAt_puts us (h.same (2 * n + 1)) n).2 rfl⟩
theorem EntOk.ext {E : Env} {ops : Array Oper} {σ τ : St U} {e : Ent U} (h : EntOk P U E ops σ e) (hx : ExtEq σ τ) : EntOk P U E ops τ e :=
  fun σ' gh a w ha S => h σ' gh a w (fun n => ⟨fun hn => ((ha n).1 hn).trans (hx.1 n), fun hn => ((ha n).2 hn).trans (hx.2 n)⟩) S
theorem told_agree {all : List Oper} {σ σ' : St U} {o : Oper} (h : ∀ n, 2 * n ∈ gkey all o → σ'.slot n = σ.slot n) : told all σ' o = told all σ o := by
  unfold told
  unfold gkey at h
  cases hg : o.guard with
  | none => rfl
  | some jw =>
    obtain ⟨j, w⟩ := jw
    simp only [hg] at h
    simp only
    cases ht : dstOf all j with
    | none => rfl
    | some t =>
      simp only [ht] at h
      simp only
      rw [h t List.mem_cons_self]
theorem apart_of {x y : Ent U} (h : apartHs x.hs y.hs = true) : ApartE x y := by
  unfold apartHs overlap at h
  simp only [Bool.and_eq_true, Bool.not_eq_true', List.any_eq_false, Ent.hs] at h
  obtain ⟨⟨h1, h2⟩, h3⟩ := h
  refine ⟨fun κ hκ hw => ?_, fun κ hκ hw => ?_, fun κ hκ hw => ?_⟩
  · exact h1 κ hκ (List.elem_eq_true_of_mem hw)
  · exact h2 κ hκ (List.elem_eq_true_of_mem hw)
  · exact h3 κ hκ (List.elem_eq_true_of_mem hw)
theorem Tr.snoc {E : Env} {ops : Array Oper} {σ0 : St U} {T : List (Ent U)} (h : Tr P U E ops σ0 T) {e : Ent U} (hi : e.i = T.length) (he : EntOk P U E ops (σ0.puts (flatU T)) e) (hap : ∀ f ∈ T, ((Region.before ops).getD T.length 0).testBit f.i = true ∨ ApartE e f) : Tr P U E ops σ0 (T ++ [e]) := by
  intro i f hf
  by_cases hlt : i < T.length
  · rw [List.getElem?_append_left hlt] at hf
    obtain ⟨h1, h2, h3⟩ := h i f hf
    refine ⟨h1, ?_, fun j g hj hg => h3 j g hj (by rwa [List.getElem?_append_left (by omega)] at hg)⟩
    rw [List.take_append_of_le_length (Nat.le_of_lt hlt)]
    exact h2
  · have := getElem?_lt hf
    simp only [List.length_append, List.length_singleton] at this
    have hii : i = T.length := by omega
    subst hii
    rw [List.getElem?_append_right (Nat.le_refl _)] at hf
    simp at hf
    subst hf
    refine ⟨hi, ?_, fun j g hj hg => ?_⟩
    · rw [List.take_append_of_le_length (Nat.le_refl _), List.take_length]
      exact he
    · rw [List.getElem?_append_left hj] at hg
      have := hap g (List.mem_of_getElem? hg)
      rw [h.index hg] at this
      exact this
def Traced (P : Program) (U : Univ) (E : Env) (ops : Array Oper) (σ0 : St U) (hs : List Hs) (σ : St U) (n : Nat) : Prop :=
  (∃ T, Tr P U E ops σ0 T ∧ T.length = n ∧ hs = (T.map Ent.hs).reverse ∧ ExtEq σ (σ0.puts (flatU T))) ∨
    ∃ T e o pp vv k, Tr P U E ops σ0 T ∧ T.length + 1 = n ∧ n = ops.size ∧ ops[T.length]? = some o ∧ e.i = T.length ∧ EntOk P U E ops (σ0.puts (flatU T)) e ∧ Head P U o (σ0.puts (flatU T)) pp vv k ∧
      (∀ f ∈ T, ((Region.before ops).getD T.length 0).testBit f.i = true ∨ (f.light = true ∧ 2 * pp ∉ f.wr ∧ 2 * vv ∉ f.wr ∧ 2 * k + 1 ∉ f.wr)) ∧ ExtEq σ ((σ0.puts (flatU T)).puts e.us)
section
variable {E : Env} {ops : Array Oper} {σ0 : St U}
theorem hsOk_apart {T : List (Ent U)} {e : Ent U} {A : Nat} (h : hsOk A (T.map Ent.hs).reverse e.hs = true) : ∀ f ∈ T, A.testBit f.i = true ∨ ApartE e f := by
  intro f hf
  have := List.all_eq_true.1 h f.hs (by rw [List.mem_reverse]; exact List.mem_map.2 ⟨f, hf, rfl⟩)
  simp only [Bool.or_eq_true] at this
  exact this.imp id apart_of
theorem lateOk_some {G : Ctx U} {last : Bool} {o : Oper} {σ : St U} {A : Nat} {hs : List Hs} (h : lateOk G last o σ A hs = true) : last = true ∧ ∃ TT pp vv k ver q e0 k2 v2 q2 w2, o.dst = none ∧ o.guard = none ∧ o.op = .store TT (.tmp pp) (.tmp vv) ∧ σ.slot pp = .ptr k ver q (.sl e0) ∧ σ.slot vv = .row k2 v2 q2 w2 ∧ G.ty TT = some (.sl e0) ∧ hasIx q = false ∧
    ∀ f ∈ hs, A.testBit f.i = true ∨ (f.light = true ∧ 2 * pp ∉ f.wr ∧ 2 * vv ∉ f.wr ∧ 2 * k + 1 ∉ f.wr) := by
  unfold lateOk at h
  split at h
  case h_2 => cases h
  rename_i TT pp vv ty ps af
  split at h
  case h_2 => cases h
  rename_i k ver q e0 k2 v2 q2 w2 t0 hsp hsv htt
  simp only [Bool.and_eq_true, Bool.not_eq_true'] at h
  obtain ⟨⟨hte, hq⟩, hall⟩ := h
  have hte := Ty.beq_eq hte
  subst hte
  refine ⟨rfl, TT, pp, vv, k, ver, q, e0, k2, v2, q2, w2, rfl, rfl, rfl, hsp, hsv, htt, hq, fun f hf => ?_⟩
  have := List.all_eq_true.1 hall f hf
  simp only [Bool.or_eq_true, Bool.and_eq_true, Bool.not_eq_true'] at this
  rcases this with h5 | ⟨⟨⟨h5, h6⟩, h7⟩, h8⟩
  · exact .inl h5
  · refine .inr ⟨h5, fun hm => ?_, fun hm => ?_, fun hm => ?_⟩
    · exact Bool.noConfusion (h6.symm.trans (List.elem_eq_true_of_mem hm))
    · exact Bool.noConfusion (h7.symm.trans (List.elem_eq_true_of_mem hm))
    · exact Bool.noConfusion (h8.symm.trans (List.elem_eq_true_of_mem hm))
theorem ent_run {L : (Nat → Prop) → World → Prop} (hL : LMono L) {G : Ctx U} (hU : ULaw U) (hG : GOk P U G) (hC : COk P U L G) (hE : EOk L E) {o : Oper} {i : Nat} (hi : ops[i]? = some o) (hn : InN E o.dst) {σ : St U} (ht : told ops.toList σ o = some true)
    {us : List (Upd U)} {ask : List Nat} (h1 : ∀ κ ∈ gkey ops.toList o, κ ∈ ask) (h2 : ∀ σ', Agree ask σ σ' → (opRun G o : Out U).run σ' = some us) : EntOk P U E ops σ ⟨i, ask, us, lightOp o⟩ := by
  intro σ' gh a w ha S
  have hw := told_wanted S ((told_agree fun n hn => (ha n).1 (h1 _ hn)).trans ht)
  have hrun := h2 σ' ha
  refine ⟨fun Q K hK => ?_, fun hl => ⟨o, hi, hw, light_ok hU hG S hn hl hrun⟩⟩
  unfold wpOp
  simp only [hi, hw, if_true]
  exact .inl (opRun_step hL hU hG hC hE S hn hrun K Q hK)
theorem ent_skip {o : Oper} {i d : Nat} (hi : ops[i]? = some o) (hn : InN E o.dst) (hd : o.dst = some d) {σ : St U} (ht : told ops.toList σ o = some false) : EntOk P U E ops σ ⟨i, gkey ops.toList o, [.slot d (.tup [])], false⟩ := by
  intro σ' gh a w ha S
  have hw := told_wanted S ((told_agree fun n hn => (ha n).1 hn).trans ht)
  refine ⟨fun Q K hK => ?_, fun hl => by cases hl⟩
  unfold wpOp
  simp only [hi, hw, Bool.false_eq_true, if_false]
  refine hK gh _ w ?_
  have := S.skip hn
  rw [hd] at this ⊢
  exact this
theorem ent_pick {o : Oper} {i d t : Nat} {x y : Operand} {b v : Bool} (hi : ops[i]? = some o) (hn : InN E o.dst) (hd : o.dst = some d) (hop : o.op = .pick (.tmp t) x y) {σ : St U} (ht : told ops.toList σ o = some true) (hb : σ.slot t = .d ⟨.bool, b⟩) {ask : List Nat}
    (h1 : ∀ κ ∈ 2 * t :: gkey ops.toList o, κ ∈ ask) (h2 : ∀ σ', Agree ask σ σ' → (((opd (if b then x else y)).bind fun v => boolOf v .ret : Rd U Bool)).run σ' = some v) : EntOk P U E ops σ ⟨i, ask, [.slot d (.d ⟨.bool, v⟩)], false⟩ := by
  intro σ' gh a w ha S
  have ht' := (told_agree fun n hn => (ha n).1 (h1 _ (List.mem_cons_of_mem _ hn))).trans ht
  have hw := told_wanted S ht'
  have hv := h2 σ' ha
  replace hv := bind_some' hv
  obtain ⟨av, hav, hv⟩ := hv
  replace hv := boolOf_some hv
  obtain ⟨v', rfl, hv⟩ := hv
  simp only [run_ret, Option.some.injEq] at hv
  subst hv
  refine ⟨fun Q K hK => ?_, fun hl => by cases hl⟩
  unfold wpOp
  simp only [hi, hw, if_true]
  refine .inl ?_
  have e1 := (opd_rep S hav).bool_inv
  have e2 := S.slots t
  rw [(ha t).1 (h1 _ List.mem_cons_self), hb] at e2
  have e2 : a.eval (.tmp t) = .bool b := e2.bool_inv
  have hx : (execOp a.eval o).run P w = .ok (.value (.bool v')) w := by
    unfold execOp
    rw [hop]
    simp only [Sem.run_bind, e2, asBool, Sem.run_pure, Result.andThen_ok]
    rw [← e1]
    cases b <;> rfl
  unfold Oper.wp
  rw [hx]
  refine hK gh _ _ ?_
  have := S.pure hn (rep_bool (b := v'))
  rw [hd] at this ⊢
  exact this
theorem Tr.more {T : List (Ent U)} (h : Tr P U E ops σ0 T) {e : Ent U} {σ : St U} (hx : ExtEq σ (σ0.puts (flatU T))) (hi : e.i = T.length) (he : EntOk P U E ops σ e) (hok : hsOk ((Region.before ops).getD T.length 0) (T.map Ent.hs).reverse e.hs = true) :
    Tr P U E ops σ0 (T ++ [e]) ∧ (T ++ [e]).length = T.length + 1 ∧ e.hs :: (T.map Ent.hs).reverse = ((T ++ [e]).map Ent.hs).reverse ∧ ExtEq (σ.puts e.us) (σ0.puts (flatU (T ++ [e]))) := by
  refine ⟨h.snoc hi (he.ext hx) (hsOk_apart hok), by simp, by simp, ?_⟩
  rw [flatU_app, puts_append]
  have : flatU [e] = e.us := by simp [flatU]
  rw [this]
  exact hx.puts e.us
theorem skipsA_traced {β : Type} : ∀ (l : List Oper) {T : List (Ent U)} {σ : St U} {K : List Hs → St U → Option β} {r : β}, skipsA ops.toList (Region.before ops) (T.map Ent.hs).reverse T.length l σ K = some r → (∀ k o, l[k]? = some o → ops[T.length + k]? = some o) → (∀ o ∈ l, InN E o.dst) →
    Tr P U E ops σ0 T → ExtEq σ (σ0.puts (flatU T)) → ∃ T' σ', K (T'.map Ent.hs).reverse σ' = some r ∧ Tr P U E ops σ0 T' ∧ T'.length = T.length + l.length ∧ ExtEq σ' (σ0.puts (flatU T'))
  | [], T, σ, K, r, h, _, _, hT, hx => ⟨T, σ, h, hT, rfl, hx⟩
  | o :: l, T, σ, K, r, h, hi, hn, hT, hx => by
    unfold skipsA at h
    split at h
    case h_2 => cases h
    rename_i d ht hd
    split at h
    case isFalse => cases h
    rename_i hok
    have h0 : ops[T.length]? = some o := by simpa using hi 0 o rfl
    obtain ⟨q1, q2, q3, q4⟩ := hT.more (e := ⟨T.length, gkey ops.toList o, [.slot d (.tup [])], false⟩) hx rfl (ent_skip h0 (hn o List.mem_cons_self) hd ht) hok
    rw [show (⟨T.length, gkey ops.toList o, [2 * d], false⟩ : Hs) = (⟨T.length, gkey ops.toList o, [.slot d (.tup [])], false⟩ : Ent U).hs from rfl, q3, ← q2] at h
    obtain ⟨T', σ', g1, g2, g3, g4⟩ := skipsA_traced l h (fun k o' hk => by have := hi (k + 1) o' (by simpa using hk); rw [q2]; rwa [← Nat.add_assoc, Nat.add_right_comm] at this) (fun o' ho => hn o' (List.mem_cons_of_mem _ ho)) q1 q4
    exact ⟨T', σ', g1, g2, by rw [g3, q2, List.length_cons]; omega, g4⟩
theorem evDraw_traced {L : (Nat → Prop) → World → Prop} (hL : LMono L) {G : Ctx U} (hU : ULaw U) (hG : GOk P U G) (hC : COk P U L G) (hE : EOk L E) : ∀ (n : Nat) {β : Type} (g : List (Nat × Bool)) (l : List Oper) {T : List (Ent U)} {σ : St U} {K : List Hs → St U → Option β} {r : β},
    evDraw G ops.toList (Region.before ops) n g (T.map Ent.hs).reverse T.length l σ K = some r → (∀ k o, l[k]? = some o → ops[T.length + k]? = some o) → (∀ o ∈ l, InN E o.dst) → Tr P U E ops σ0 T → ExtEq σ (σ0.puts (flatU T)) →
      ∃ hs' σ', K hs' σ' = some r ∧ Traced P U E ops σ0 hs' σ' (T.length + l.length) := by
  intro n
  induction n with
  | zero => intro β g l T σ K r h; cases h
  | succ n ih =>
    intro β g l T σ K r h hi hn hT hx
    cases l with
    | nil =>
      simp only [evDraw] at h
      exact ⟨_, σ, h, .inl ⟨T, hT, rfl, rfl, hx⟩⟩
    | cons o l =>
      have h0 : ops[T.length]? = some o := by simpa using hi 0 o rfl
      unfold evDraw at h
      split at h
      · split at h
        case h_2 => cases h
        rename_i ht
        obtain ⟨us, ask, h1, h2, h3, h4⟩ := runA_some _ h
        have hent := ent_run (E := E) hL hU hG hC hE h0 (hn o List.mem_cons_self) ht h3 h4
        split at h2
        case isFalse => cases h2
        rename_i hok
        simp only [Bool.or_eq_true] at hok
        by_cases hap : hsOk ((Region.before ops).getD T.length 0) (T.map Ent.hs).reverse (⟨T.length, ask, us, lightOp o⟩ : Ent U).hs = true
        · obtain ⟨q1, q2, q3, q4⟩ := hT.more hx rfl hent hap
          rw [show (⟨T.length, ask, us.map keyOf, lightOp o⟩ : Hs) = (⟨T.length, ask, us, lightOp o⟩ : Ent U).hs from rfl, q3, ← q2] at h2
          obtain ⟨hs', σ', g1, g2⟩ := ih g l h2 (fun k o' hk => by have := hi (k + 1) o' (by simpa using hk); rw [q2]; rwa [← Nat.add_assoc, Nat.add_right_comm] at this) (fun o' ho => hn o' (List.mem_cons_of_mem _ ho)) q1 q4
          refine ⟨hs', σ', g1, ?_⟩
          rw [q2, Nat.add_right_comm, Nat.add_assoc] at g2
          exact g2
        ·
          have hlate := hok.resolve_left hap
          obtain ⟨hlast, TT, pp, vv, k, ver, q, e0, k2, v2, q2, w2, hod, hog, hoo, hsp, hsv, htt, hq, hall⟩ := lateOk_some hlate
          have hsz : T.length + 1 = ops.size := by simpa using hlast
          have hl : l = [] := by
            cases l with
            | nil => rfl
            | cons o' l =>
              have := hi 1 o' rfl
              have := (Array.getElem?_eq_some_iff.1 this).1
              omega
          subst hl
          cases n with
          | zero => cases h2
          | succ n =>
            simp only [evDraw] at h2
            refine ⟨_, _, h2, .inr ⟨T, ⟨T.length, ask, us, _⟩, _, pp, vv, k, hT, rfl, hsz, h0, rfl, hent.ext hx, ⟨hod, hog, ⟨TT, hoo, e0, (hG.ty TT _ htt).1, ver, q, (hx.1 pp).trans hsp, hq⟩, k2, v2, q2, w2, (hx.1 vv).trans hsv⟩, fun f hf => ?_, hx.puts us⟩⟩
            rcases hall f.hs (by rw [List.mem_reverse]; exact List.mem_map.2 ⟨f, hf, rfl⟩) with h5 | ⟨h5, h6, h7, h8⟩
            · exact .inl h5
            · exact .inr ⟨h5, h6, h7, h8⟩
      ·
        split at h
        · cases h
        rename_i j w' hgd
        split at h
        · cases h
        rename_i t htd
        simp only at h
        split at h
        case h_2 => cases h
        rename_i d c x y ty ps af gd rest' hdrop
        split at h
        case isFalse => cases h
        rename_i hct
        have hct := (beq_iff_eq).1 hct
        subst hct
        let pk : Oper := ⟨some d, .pick (.tmp c) x y, ty, ps, af, gd⟩
        have hsplit : o :: l = ((o :: l).takeWhile fun q => !inCtx g q) ++ pk :: rest' := by
          rw [← hdrop, List.takeWhile_append_dropWhile]
        generalize hgrp : ((o :: l).takeWhile fun q => !inCtx g q) = grp at h hsplit
        have hlen : T.length + (o :: l).length = T.length + grp.length + 1 + rest'.length := by rw [hsplit]; simp; omega
        have hig : ∀ k o', grp[k]? = some o' → ops[T.length + k]? = some o' := fun k o' hk => hi k o' (by rw [hsplit, List.getElem?_append_left (getElem?_lt hk)]; exact hk)
        have hip : ops[T.length + grp.length]? = some pk := hi _ _ (by rw [hsplit, List.getElem?_append_right (Nat.le_refl _)]; simp)
        have hir : ∀ k o', rest'[k]? = some o' → ops[T.length + grp.length + 1 + k]? = some o' := fun k o' hk => by
          have := hi (grp.length + 1 + k) o' (by rw [hsplit, List.getElem?_append_right (by omega)]; simpa [show grp.length + 1 + k - grp.length = k + 1 by omega] using hk)
          rwa [← Nat.add_assoc, ← Nat.add_assoc] at this
        have hng : ∀ o' ∈ grp, InN E o'.dst := fun o' ho => hn o' (by rw [hsplit]; exact List.mem_append_left _ ho)
        have hnp : InN E pk.dst := hn pk (by rw [hsplit]; exact List.mem_append_right _ List.mem_cons_self)
        have hnr : ∀ o' ∈ rest', InN E o'.dst := fun o' ho => hn o' (by rw [hsplit]; exact List.mem_append_right _ (List.mem_cons_of_mem _ ho))
        replace h := evB_some h
        obtain ⟨b, hb, h⟩ := h
        have hb : σ.slot c = .d ⟨.bool, b⟩ := by simpa [opd] using hb
        have hx1 : ExtEq (σ.put (.slot c (.d ⟨.bool, b⟩))) (σ0.puts (flatU T)) := by
          refine ExtEq.trans (τ := σ) ⟨fun n => ?_, fun _ => rfl⟩ hx
          rw [St.slot_put]
          by_cases e : c = n
          · subst e
            rw [if_pos rfl, hb]
          · rw [if_neg e]
        have after : ∀ {T1 : List (Ent U)} {σ1 : St U} {bb : Bool}, atPick ops.toList σ1 pk c bb ((((opd (if bb then x else y)).bind fun v => boolOf v .ret : Rd U Bool)).runA σ1 (2 * c :: gkey ops.toList pk) fun r ask =>
              if hsOk ((Region.before ops).getD (T.length + grp.length) 0) (T1.map Ent.hs).reverse ⟨T.length + grp.length, ask, [2 * d], false⟩ then
                evDraw G ops.toList (Region.before ops) n g (⟨T.length + grp.length, ask, [2 * d], false⟩ :: (T1.map Ent.hs).reverse) (T.length + grp.length + 1) rest' (σ1.put (.slot d (.d ⟨.bool, r⟩))) K
              else none) = some r → Tr P U E ops σ0 T1 → T1.length = T.length + grp.length → ExtEq σ1 (σ0.puts (flatU T1)) → ∃ hs' σ', K hs' σ' = some r ∧ Traced P U E ops σ0 hs' σ' (T.length + (o :: l).length) := by
          intro T1 σ1 bb h hT1 hl1 hx1
          obtain ⟨ht, hsl, hk⟩ := atPick_some h
          obtain ⟨v, ask, h1, h2, h3, h4⟩ := runA_some _ hk
          rw [← hl1] at h2 hip hir
          split at h2
          case isFalse => cases h2
          rename_i hok
          have hent := ent_pick (P := P) (E := E) hip hnp rfl rfl ht hsl h3 h4
          obtain ⟨q1, q2, q3, q4⟩ := hT1.more hx1 rfl hent hok
          rw [show (⟨T1.length, ask, [2 * d], false⟩ : Hs) = (⟨T1.length, ask, [.slot d (.d ⟨.bool, v⟩)], false⟩ : Ent U).hs from rfl, q3, ← q2] at h2
          obtain ⟨hs', σ', g1, g2⟩ := ih g rest' h2 (fun k o' hk => by rw [q2]; exact hir k o' hk) hnr q1 q4
          refine ⟨hs', σ', g1, ?_⟩
          rw [q2, hl1] at g2
          rw [hlen]
          exact g2
        split at h
        · rename_i hbw
          subst hbw
          obtain ⟨hs1, σ1, hk, htr⟩ := ih _ grp h hig hng hT hx1
          rcases htr with ⟨T1, hT1, hl1, rfl, hx2⟩ | ⟨T1, e, o1, pp, vv, k, hT1, hl1, hl2, _⟩
          · exact after hk hT1 hl1 hx2
          · have := (Array.getElem?_eq_some_iff.1 hip).1
            omega
        · rename_i hbw
          have hbw : b = !w' := by cases b <;> cases w' <;> simp_all
          subst hbw
          obtain ⟨T1, σ1, hk, hT1, hl1, hx2⟩ := skipsA_traced grp h hig hng hT hx1
          refine after (bb := !w') ?_ hT1 hl1 hx2
          cases w' <;> exact hk
theorem evDraw_sound {L : (Nat → Prop) → World → Prop} (hL : LMono L) {G : Ctx U} (hU : ULaw U) (hG : GOk P U G) (hC : COk P U L G) (hE : EOk L E) {β : Type} {n : Nat} {σ : St U} {K : List Hs → St U → Option β} {r : β} (hn : ∀ o ∈ ops.toList, InN E o.dst)
    (htp : (topoOk .any ops && topoOk .text ops && topoOk .gc ops) = true) (h : evDraw G ops.toList (Region.before ops) n [] [] 0 ops.toList σ K = some r) {gh : Gh} {a : Act} {w : World} (S : Sim U E gh σ a w) {Q : Exit → Act → World → Prop}
    (hQ : ∀ hs σ' gh' a' w', K hs σ' = some r → Sim U E gh' σ' a' w' → Q .normal a' w') (t : Nat) : wpOps P ops Q (Region.schedule (P.follows .mixedOrders) ops t) a { w with drawn := w.drawn + 1 } := by
  obtain ⟨hs', σ', hK, htr⟩ := evDraw_traced (σ0 := σ) hL hU hG hC hE n [] ops.toList (T := []) h (fun k o hk => by simpa using hk) hn (fun i e he => by simp at he) (ExtEq.refl σ)
  simp only [List.length_nil, Nat.zero_add, Array.length_toList] at htr
  simp only [Bool.and_eq_true] at htp
  have S' : Sim U E gh σ a { w with drawn := w.drawn + 1 } :=
    S.step (fun _ => False) rfl rfl (fun _ _ _ => rfl) (fun _ => .inl rfl) (Nat.le_refl _) rfl rfl rfl (fun _ _ _ h => ⟨h, rfl, rfl⟩) (fun _ _ h => h.elim) (fun k b h => ⟨b, h, LaterB.refl gh k b⟩) fun n => .inl ⟨rfl, rfl⟩
  have hcl : Closed ops (Array.replicate ops.size false) := fun i hi => by
    simp only [Array.getD_eq_getD_getElem?, Array.getElem?_replicate] at hi
    split at hi <;> simp at hi
  have hcount : (Array.replicate ops.size false).toList.count true + ops.size = ops.size := by
    rw [Array.toList_replicate, List.count_replicate]
    simp
  have hfil : ∀ T : List (Ent U), T.filter (isIn (Array.replicate ops.size false)) = [] := fun T => by
    rw [List.filter_eq_nil_iff]
    intro e _
    simp only [isIn, Array.getD_eq_getD_getElem?, Array.getElem?_replicate]
    split <;> simp
  have any : ∀ md, topoOk md ops = true → wpAny P md ops Q ops.size (Array.replicate ops.size false) a { w with drawn := w.drawn + 1 } := by
    intro md hmd
    rcases htr with ⟨T, hT, hl, _, hx⟩ | ⟨T, e, o, pp, vv, k, hT, hl, _, ho, hei, hE2, hh, hlate, hx⟩
    · refine draw_sound hT hl hmd (fun gh' a' w' S2 => hQ _ σ' gh' a' w' hK ?_) ops.size _ gh a _ (by simp) hcount hcl (by rw [hfil]; exact S')
      exact S2.ext (fun n => ((hx.1 n)).symm) fun k => (hx.2 k).symm
    · refine draw_late hU hT hl hmd ho hei hE2 hh hlate (fun gh' a' w' S2 => hQ _ σ' gh' a' w' hK ?_) ops.size _ a _ (by simp) hcount hcl (.inl ⟨?_, gh, by rw [hfil]; exact S'⟩)
      · exact S2.ext (fun n => ((hx.1 n)).symm) fun k => (hx.2 k).symm
      · simp only [Array.getD_eq_getD_getElem?, Array.getElem?_replicate]
        split <;> simp
  unfold Region.schedule Region.linearise
  split
  · exact wpAny_sound _ _ _ _ _ (any .any htp.1.1)
  · split
    · exact wpAny_sound _ _ _ _ _ (any .text htp.1.2)
    · exact wpAny_sound _ _ _ _ _ (any .gc htp.2)
end
end Go.Ev
end
section
namespace Go.Ev
variable {U : Univ} {P : Program}
def dstsOk (n : Nat) (bx : Nat → Bool) : Code → Bool
  | .region _ ops _ => ops.toList.all fun o => match o.dst with
    | some d => Nat.blt d n && !bx d
    | none => true
  | .seq a b => dstsOk n bx a && dstsOk n bx b
  | .cond _ a b => dstsOk n bx a && dstsOk n bx b
  | .block _ c => dstsOk n bx c
  | .loop c => dstsOk n bx c
  | .scope c => dstsOk n bx c
  | _ => true
def LoopsOk (G : Ctx U) (H : Hint U) : Code → Nat → Prop
  | .seq a b, q => LoopsOk G H a (2 * q) ∧ LoopsOk G H b (2 * q + 1)
  | .cond _ a b, q => LoopsOk G H a (2 * q) ∧ LoopsOk G H b (2 * q + 1)
  | .block _ c, q => LoopsOk G H c (2 * q)
  | .scope c, q => LoopsOk G H c (2 * q)
  | .loop c, q => LoopsOk G H c (2 * q) ∧ (∀ L, H.loop q = some L → ∀ v x, L.imp v = some x → ∃ n, loopT G H c q L n v = some x) ∧ (∀ L, H.loop q = none → H.loopR q = some L → ∀ v x, L.imp v = some x → ∃ n, loopRT G H c q L n v = some x)
  | _, _ => True
def Ex.to : Ex → Exit
  | .normal => .normal
  | .exit id => .exit id
  | .ret => .ret
section
variable {E : Env}
theorem meet_sound {W : Prop} (hU : ULaw U) {Q : Exit → Act → World → Prop} {β : Type} {j : Option Join} {run : {γ : Type} → (Ex → St U → Option γ) → Option γ} {K : Ex → St U → Option β} {r : β} (h : meet j run K = some r)
    (hrun : ∀ {γ : Type} (K' : Ex → St U → Option γ) (z : γ), run K' = some z → (∀ e σ' gh a w, K' e σ' = some z → Sim U E gh σ' a w → Q (Ex.to e) a w) → W)
    (hK : ∀ e σ' gh a w, K e σ' = some r → Sim U E gh σ' a w → Q (Ex.to e) a w) : W := by
  unfold meet at h
  split at h
  · exact hrun K r h hK
  · rename_i ks
    simp only [Option.bind_eq_some_iff] at h
    obtain ⟨v, hv, h⟩ := h
    refine hrun _ v hv fun e σ' gh a w he S => ?_
    split at he
    · obtain ⟨v', hv', gh', S'⟩ := canon_sound hU S he
      cases hv'
      exact hK .normal _ gh' a w h S'
    · cases he
  · rename_i ks rs
    simp only [Option.bind_eq_some_iff] at h
    obtain ⟨o, ho, h⟩ := h
    refine hrun _ o ho fun e σ' gh a w he S => ?_
    split at he
    · obtain ⟨v', hv', gh', S'⟩ := canon_sound hU S he
      cases hv'
      exact hK .normal _ gh' a w h S'
    · obtain ⟨v', hv', gh', S'⟩ := canon_sound hU S he
      cases hv'
      exact hK .ret _ gh' a w h S'
    · cases he
theorem known_ext {σ : St U} {c : Operand} {b : Bool} (h : (opd c : Rd U (AV U)).run σ = some (.d ⟨.bool, b⟩)) : ExtEq σ (known σ c b) := by
  unfold known
  split
  · rename_i t
    have h : σ.slot t = .d ⟨.bool, b⟩ := by simpa [opd] using h
    refine ⟨fun n => ?_, fun _ => rfl⟩
    rw [St.slot_put]
    by_cases e : t = n
    · subst e; rw [if_pos rfl, h]
    · rw [if_neg e]
  · exact ExtEq.refl σ
theorem exists_least {p : Nat → Prop} : ∀ n, p n → ∃ m, p m ∧ ∀ k, p k → m ≤ k := by
  intro n
  induction n using Nat.strongRecOn with
  | _ n ih =>
    intro h
    by_cases hk : ∃ k, p k ∧ k < n
    · obtain ⟨k, h1, h2⟩ := hk
      exact ih k h2 h1
    · exact ⟨n, h, fun k hp => Nat.le_of_not_lt fun hlt => hk ⟨k, hp, hlt⟩⟩
open Classical in
noncomputable def least (p : Nat → Prop) : Nat := if h : ∃ m, p m ∧ ∀ k, p k → m ≤ k then Classical.choose h else 0
theorem least_spec {p : Nat → Prop} {n : Nat} (h : p n) : p (least p) ∧ ∀ k, p k → least p ≤ k := by
  have h := exists_least n h
  unfold least
  rw [dif_pos h]
  exact Classical.choose_spec h
theorem wp_loopN {Q : Exit → Act → World → Prop} {c : Code} (J : Nat → Act → World → Prop) (h0 : ∀ a w, ¬ J 0 a w) (round : ∀ n a w, J (n + 1) a w → ∀ K : Act → World → Prop, (∀ a' w', J n a' w' → K a' w') → c.wp P (Exit.then K Q) a w) {n : Nat} {a : Act} {w : World} (h : J n a w) : (Code.loop c).wp P Q a w := by
  refine wp_loop (fun a w => ∃ n, J n a w) (fun a w => least fun n => J n a w) ⟨n, h⟩ fun a w hI => ?_
  obtain ⟨n0, hn0⟩ := hI
  obtain ⟨h1, h2⟩ := least_spec (p := fun n => J n a w) hn0
  cases hn : least fun n => J n a w with
  | zero => rw [hn] at h1; exact absurd h1 (h0 a w)
  | succ m =>
    rw [hn] at h1
    refine round m a w h1 _ fun a' w' hJ => ⟨⟨m, hJ⟩, ?_⟩
    exact Nat.lt_succ_of_le ((least_spec (p := fun n => J n a' w') hJ).2 m hJ)
theorem evC_sound {L : (Nat → Prop) → World → Prop} (hL : LMono L) {G : Ctx U} (hU : ULaw U) (hG : GOk P U G) (hC : COk P U L G) (hE : EOk L E) {bx : Nat → Bool} (hbx : ∀ d, bx d = false → E.bx d = none) {H : Hint U} : ∀ (c : Code) (q : Nat) {β : Type} {σ : St U} {K : Ex → St U → Option β} {r : β} {Q : Exit → Act → World → Prop} {gh : Gh} {a : Act} {w : World},
    dstsOk E.n bx c = true → LoopsOk G H c q → evC G H c q σ K = some r → Sim U E gh σ a w → (∀ e σ' gh' a' w', K e σ' = some r → Sim U E gh' σ' a' w' → Q (Ex.to e) a' w') → c.wp P Q a w := by
  have hIn : ∀ {ops : Array Oper}, (ops.toList.all fun o => match o.dst with | some d => Nat.blt d E.n && !bx d | none => true) = true → ∀ o ∈ ops.toList, InN E o.dst := by
    intro ops h o ho d hd
    have := List.all_eq_true.1 h o ho
    rw [hd] at this
    simp only [Bool.and_eq_true, Bool.not_eq_true', Nat.blt_eq] at this
    exact ⟨this.1, hbx d this.2⟩
  intro c
  induction c with
  | skip => intro q β σ K r Q gh a w _ _ h S hK; exact wp_skip (hK .normal σ gh a w h S)
  | region id ops draw =>
    intro q β σ K r Q gh a w hd hl h S hK
    have hd2 := hIn (by simpa only [dstsOk] using hd)
    cases draw with
    | false =>
      refine wp_region ?_
      have := evOps_sound (P := P) (Q := Q) (i := 0) (tail := []) hL hU hG hC hE _ _ _ _ h (fun k o hk => by simpa using hk) hd2 S fun σ' gh' a' w' hk hs _ => hK .normal σ' gh' a' w' hk hs
      rw [List.append_nil, Array.length_toList, ← List.range_eq_range'] at this
      exact this
    | true =>
      simp only [evC] at h
      split at h
      case isFalse => cases h
      rename_i htp
      exact wp_region_draw fun t => evDraw_sound hL hU hG hC hE hd2 htp h S (fun hs σ' gh' a' w' hk hs' => hK .normal σ' gh' a' w' hk hs') t
  | seq x y ihx ihy =>
    intro q β σ K r Q gh a w hd hl h S hK
    simp only [dstsOk, Bool.and_eq_true] at hd
    refine wp_seq (ihx (2 * q) hd.1 hl.1 h S fun e σ' gh' a' w' hk hs => ?_)
    cases e with
    | normal => exact ihy (2 * q + 1) hd.2 hl.2 hk hs hK
    | exit i => exact hK (.exit i) σ' gh' a' w' hk hs
    | ret => exact hK .ret σ' gh' a' w' hk hs
  | cond c x y ihx ihy =>
    intro q β σ K r Q gh a w hd hl h S hK
    simp only [dstsOk, Bool.and_eq_true] at hd
    simp only [evC] at h
    replace h := evB_some h
    obtain ⟨b, hb, h⟩ := h
    have hc := (opd_rep S hb).bool_inv
    refine meet_sound (E := E) (Q := Q) hU h (fun K' z hz hK' => ?_) hK
    refine wp_cond hc ?_
    have hx := known_ext hb
    have S' := S.ext hx.1 hx.2
    cases b with
    | true =>
      simp only [if_true] at hz ⊢
      exact ihx (2 * q) hd.1 hl.1 hz S' hK'
    | false =>
      simp only [Bool.false_eq_true, if_false] at hz ⊢
      exact ihy (2 * q + 1) hd.2 hl.2 hz S' hK'
  | block id c ih =>
    intro q β σ K r Q gh a w hd hl h S hK
    simp only [evC] at h
    refine meet_sound (E := E) (Q := Q) hU h (fun K' z hz hK' => ?_) hK
    refine wp_block (ih (2 * q) hd hl hz S fun e σ' gh' a' w' hk hs => ?_)
    cases e with
    | normal => exact hK' .normal σ' gh' a' w' hk hs
    | exit i =>
      simp only at hk
      split at hk
      · rename_i hi
        have hi := (beq_iff_eq).1 hi
        subst hi
        show Exit.inBlock i Q (.exit i) a' w'
        simp only [Exit.inBlock, if_true]
        exact hK' .normal σ' gh' a' w' hk hs
      · rename_i hi
        have hi : i ≠ id := by simpa using hi
        show Exit.inBlock id Q (.exit i) a' w'
        simp only [Exit.inBlock, hi, if_false]
        exact hK' (.exit i) σ' gh' a' w' hk hs
    | ret => exact hK' .ret σ' gh' a' w' hk hs
  | loop c ih =>
    intro q β σ K r Q gh a w hd hl h S hK
    obtain ⟨hlc, hl1, hl2⟩ := hl
    simp only [evC] at h
    split at h
    · rename_i Lp hLp
      obtain ⟨v, hv, gh', S'⟩ := canon_sound hU S h
      simp only [Option.bind_eq_some_iff] at hv
      obtain ⟨x, hx, hv⟩ := hv
      obtain ⟨n, hn⟩ := hl1 Lp hLp v x hx
      refine wp_loopN (fun n a w => ∃ gh v, Sim U E gh (encS Lp.ks v) a w ∧ loopT G H c q Lp n v = some x) (fun a w hJ => ?_) (fun n a w hJ K2 hK2 => ?_) (n := n) ⟨gh', v, S', hn⟩
      · obtain ⟨_, _, _, hh⟩ := hJ
        cases hh
      · obtain ⟨gh2, v2, S2, hh⟩ := hJ
        refine ih (2 * q) hd hlc hh S2 fun e σ' gh3 a' w' hk hs => ?_
        cases e with
        | normal =>
          obtain ⟨v3, hv3, gh4, S4⟩ := canon_sound hU hs hk
          exact hK2 a' w' ⟨gh4, v3, S4, hv3⟩
        | exit i =>
          simp only at hk
          split at hk
          · rename_i hi
            have hi := (beq_iff_eq).1 hi
            subst hi
            obtain ⟨v3, hv3, gh4, S4⟩ := canon_sound hU hs hk
            cases hv3
            exact hK (.exit Lp.xid) _ gh4 a' w' hv S4
          · cases hk
        | ret => cases hk
    · rename_i Lp hn0 hLp
      obtain ⟨v, hv, gh', S'⟩ := canon_sound hU S h
      simp only [Option.bind_eq_some_iff] at hv
      obtain ⟨x, hx, hv⟩ := hv
      obtain ⟨n, hn⟩ := hl2 Lp hn0 hLp v x hx
      refine wp_loopN (fun n a w => ∃ gh v, Sim U E gh (encS Lp.ks v) a w ∧ loopRT G H c q Lp n v = some x) (fun a w hJ => ?_) (fun n a w hJ K2 hK2 => ?_) (n := n) ⟨gh', v, S', hn⟩
      · obtain ⟨_, _, _, hh⟩ := hJ
        cases hh
      · obtain ⟨gh2, v2, S2, hh⟩ := hJ
        refine ih (2 * q) hd hlc hh S2 fun e σ' gh3 a' w' hk hs => ?_
        cases e with
        | normal =>
          obtain ⟨v3, hv3, gh4, S4⟩ := canon_sound hU hs hk
          exact hK2 a' w' ⟨gh4, v3, S4, hv3⟩
        | exit i =>
          simp only at hk
          split at hk
          · rename_i hi
            have hi := (beq_iff_eq).1 hi
            subst hi
            obtain ⟨v3, hv3, gh4, S4⟩ := canon_sound hU hs hk
            cases hv3
            exact hK (.exit Lp.xid) _ gh4 a' w' hv S4
          · cases hk
        | ret =>
          obtain ⟨v3, hv3, gh4, S4⟩ := canon_sound hU hs hk
          cases hv3
          exact hK .ret _ gh4 a' w' hv S4
    · cases h
  | exit id => intro q β σ K r Q gh a w _ _ h S hK; exact wp_exit (hK (.exit id) σ gh a w h S)
  | ret => intro q β σ K r Q gh a w _ _ h S hK; exact wp_ret (hK .ret σ gh a w h S)
  | label l => intro q β σ K r Q gh a w _ _ h S hK; exact wp_label (hK .normal σ gh a w h S)
  | scope c ih =>
    intro q β σ K r Q gh a w hd hl h S hK
    refine wp_scope_straight (ih (2 * q) hd hl h S fun e σ' gh' a' w' hk hs => ?_)
    have := hK e σ' gh' a' w' hk hs
    cases e <;> exact this
  | goto l => intro q β σ K r Q gh a w _ _ h; cases h
  | refuse _ => intro q β σ K r Q gh a w _ _ h; cases h
  | rangeFunc _ _ _ _ _ _ => intro q β σ K r Q gh a w _ _ h; cases h
end
end Go.Ev
end
section
namespace Go.Ev
variable {U : Univ} {P : Program}
structure Tg (U : Univ) where
  key : Nat
  blk : Blk U
  src : Option Nat
  base : Nat
  hdr : Hdr
inductive TgOk (U : Univ) (gh : Gh) (ρ : St U) (w : World) (t : Tg U) : Prop where
  | row {e : Ty} {l : List (e.den U.car)} {ad : Option Addr} {cap tag n : Nat} {xs : List Value} : t.blk = newBlk ⟨.sl e, l⟩ false [[]] → t.hdr = (fun _ => (ad, cap)) → Sz U e n → RepL U gh.F w (l.map (D.mk e)) xs →
      w.ownsRow 0 tag n (.slice ad l.length cap) l.length xs → (∀ c, ad = some c → ∃ k q, gh.st c.block = .own k (some q) ∧ t.src = some k) → TgOk U gh ρ w t
  | box {k : Nat} {b : Blk U} {own : List (List Nat)} : t.blk = newBlk b.x true own → ρ.blk k = some b → b.mem = true → b.dead = [] → own.all b.own.contains = true → t.src = some k → t.base = gh.base k → t.hdr = gh.hdr k → TgOk U gh ρ w t
theorem TgOk.adv {gh gh' : Gh} {ρ ρ' : St U} {w : World} {D : List Nat} (A : Adv gh gh' ρ ρ' D) {t : Tg U} (hs : ∀ k, t.src = some k → k ∈ D) (h : TgOk U gh ρ w t) : TgOk U gh' ρ' w t := by
  cases h with
  | row h1 h2 h3 h4 h5 h6 =>
    refine .row h1 h2 h3 (h4.mono fun b hb => ⟨A.F b hb, rfl⟩) h5 fun c hc => ?_
    obtain ⟨k, q, g1, g2⟩ := h6 c hc
    exact ⟨k, q, (A.taken k (hs k g2)).2 _ _ g1, g2⟩
  | box h1 h2 h3 h4 h5 h6 h7 h8 =>
    exact .box h1 ((A.taken _ (hs _ h6)).1.trans h2) h3 h4 h5 h6 (by rw [A.base]; exact h7) (by rw [A.hdr]; exact h8)
theorem src_uniq : ∀ {TL : List (Tg U)}, (TL.filterMap Tg.src).Nodup → ∀ {t u : Tg U} {k : Nat}, t ∈ TL → u ∈ TL → t.src = some k → u.src = some k → (TL.find? fun z => z.src == some k) = some t
  | z :: TL, hnd, t, u, k, ht, hu, h1, h2 => by
    by_cases hz : z.src = some k
    · have hzt : t = z := by
        cases ht with
        | head => rfl
        | tail _ ht =>
          exfalso
          rw [List.filterMap_cons, hz] at hnd
          exact (List.nodup_cons.1 hnd).1 (List.mem_filterMap.2 ⟨t, ht, h1⟩)
      subst hzt
      rw [List.find?_cons_of_pos (by simp [hz])]
    · rw [List.find?_cons_of_neg (by simpa using hz)]
      have hnd' : (TL.filterMap Tg.src).Nodup := by
        rw [List.filterMap_cons] at hnd
        split at hnd
        · exact hnd
        · exact (List.nodup_cons.1 hnd).2
      cases ht with
      | head => exact absurd h1 hz
      | tail _ ht => exact src_uniq hnd' ht ht h1 h1
section
variable {E : Env} {gh : Gh} {σ ρ : St U} {a : Act} {w : World}
theorem Sim.selectL (S : Sim U E gh ρ a w) (TL : List (Tg U)) (hok : ∀ t ∈ TL, TgOk U gh ρ w t) (hk : (TL.map Tg.key).Nodup) (hs : (TL.filterMap Tg.src).Nodup) :
    ∃ gh', Frm E gh' w ∧ (∀ bn, gh.F bn → gh'.F bn) ∧ ∀ t ∈ TL, RepBlk U gh' w t.key t.blk ∧ (∀ bn p, Ow gh' t.key t.blk bn p → gh'.st bn = .own t.key p) ∧ gh'.base t.key = t.base ∧ gh'.hdr t.key = t.hdr := by
  let T : Nat → Option (Blk U) := fun j => (TL.find? fun t => t.key == j).map Tg.blk
  let inv : Nat → Option Nat := fun k => (TL.find? fun t => t.src == some k).map Tg.key
  let base : Nat → Nat := fun j => ((TL.find? fun t => t.key == j).map Tg.base).getD 0
  let hdr : Nat → Hdr := fun j => ((TL.find? fun t => t.key == j).map Tg.hdr).getD fun _ => (none, 0)
  have hinv : ∀ {t : Tg U} {k : Nat}, t ∈ TL → t.src = some k → inv k = some t.key := fun ht h => by
    show (TL.find? _).map Tg.key = _
    rw [src_uniq hs ht ht h h]
    rfl
  let isR : Nat → Prop := fun bn => ∃ t ∈ TL, t.blk.mem = false ∧ ∃ c, (t.hdr []).1 = some c ∧ c.block = bn
  let st0 : Nat → BSt := fun bn => @ite _ (isR bn) (Classical.propDecidable _) (match gh.st bn with | .own k _ => .own k (some []) | s => s) (gh.st bn)
  let gh0 : Gh := ⟨gh.base, gh.hdr, st0⟩
  have hno : ∀ bn, ¬ isR bn → st0 bn = gh.st bn := fun bn h => if_neg h
  have hyes : ∀ bn, isR bn → st0 bn = (match gh.st bn with | .own k _ => .own k (some []) | s => s) := fun bn h => if_pos h
  have hown : ∀ bn k p, st0 bn = .own k p → ∃ p', gh.st bn = .own k p' := fun bn k p h => by
    by_cases hr : isR bn
    · rw [hyes bn hr] at h
      split at h
      · rename_i k0 p0 he
        cases h
        exact ⟨p0, he⟩
      · exact ⟨p, h⟩
    · exact ⟨p, (hno bn hr).symm.trans h⟩
  have hoth : ∀ bn, (∀ k p, gh.st bn ≠ .own k p) → st0 bn = gh.st bn := fun bn h => by
    by_cases hr : isR bn
    · rw [hyes bn hr]
      split
      · rename_i k0 p0 he
        exact absurd he (h _ _)
      · rfl
    · exact hno bn hr
  have hfr : ∀ bn, gh0.F bn ↔ gh.F bn := fun bn => by
    constructor
    · intro h
      have h : st0 bn = .frz := h
      by_cases hr : isR bn
      · rw [hyes bn hr] at h
        split at h
        · cases h
        · exact h
      · exact (hno bn hr).symm.trans h
    · intro h
      have h : gh.st bn = .frz := h
      exact (hoth bn fun k p e => by rw [h] at e; cases e).trans h
  have hF0 : gh0.F = gh.F := funext fun bn => propext (hfr bn)
  have f0 : Frm E gh0 w := by
    have f := S.frm
    refine ⟨fun bn => ?_, fun bn k p h => ?_, fun bn h => f.ffresh bn ((hfr bn).1 h), fun bn h => (hfr bn).2 (f.old bn h), f.grown, f.kept, f.os, f.tape, f.output⟩
    · rcases f.bound bn with h | h
      · exact .inl ((hoth bn fun k p e => by rw [h] at e; cases e).trans h)
      · exact .inr h
    · obtain ⟨p', h'⟩ := hown bn k p h
      exact f.fresh bn k p' h'
  have hT : ∀ k' b', T k' = some b' → TgtF U gh0 w inv base hdr k' b' := by
    intro k' b' h
    have h : (TL.find? fun t => t.key == k').map Tg.blk = some b' := h
    simp only [Option.map_eq_some_iff] at h
    obtain ⟨t, ht, rfl⟩ := h
    obtain ⟨hm, hkk⟩ := find_of Tg.key ht
    have hb : base k' = t.base := by show ((TL.find? fun t => t.key == k').map Tg.base).getD 0 = _; rw [ht]; rfl
    have hh : hdr k' = t.hdr := by show ((TL.find? fun t => t.key == k').map Tg.hdr).getD _ = _; rw [ht]; rfl
    cases hok t hm with
    | row h1 h2 h3 h4 h5 h6 =>
      refine .row h1 (hh.trans h2) h3 (by rw [hF0]; exact h4) h5 fun c hc => ?_
      obtain ⟨k, q, g1, g2⟩ := h6 c hc
      refine ⟨k, ?_, by rw [hinv hm g2, hkk]⟩
      have hr : isR c.block := ⟨t, hm, by rw [h1]; rfl, c, by rw [h2]; exact hc, rfl⟩
      show st0 c.block = _
      rw [hyes _ hr, g1]
    | box h1 h2 h3 h4 h5 h6 h7 h8 =>
      rename_i k b own
      have hrb := S.blks k b h2
      refine .box h1 (b := b) ?_ (fun bn p ho => ?_) h3 h4 h5 (by rw [hinv hm h6, hkk]) (hb.trans h7) (hh.trans h8)
      · unfold RepBlk at hrb ⊢
        rw [hF0]
        exact hrb
      · have hst := S.owns k b h2 bn p ho
        show st0 bn = _
        rw [hno bn ?_]
        · exact hst
        · rintro ⟨t2, ht2, hm2, c, hc, hcb⟩
          cases hok t2 ht2 with
          | row g1 g2 g3 g4 g5 g6 =>
            rw [g2] at hc
            obtain ⟨k2, q2, g7, g8⟩ := g6 c hc
            rw [hcb, hst] at g7
            cases g7
            have e1 := src_uniq hs hm hm h6 h6
            have e2 := src_uniq hs ht2 ht2 g8 g8
            rw [e1] at e2
            cases e2
            rw [h1] at hm2
            cases hm2
          | box g1 g2 g3 g4 g5 g6 g7 g8 =>
            rw [g1] at hm2
            cases hm2
  obtain ⟨f1, f2', f3, f4⟩ := f0.select T inv base hdr hT
  have f2 : ∀ bn, gh.F bn → (⟨base, hdr, selSt gh0.st T inv⟩ : Gh).F bn := fun bn h => f2' bn ((hfr bn).2 h)
  refine ⟨_, f1, f2, fun t ht => ?_⟩
  have hfd := find_by Tg.key hk ht
  have hTk : T t.key = some t.blk := by show (TL.find? _).map Tg.blk = _; rw [hfd]; rfl
  refine ⟨f3 _ _ hTk, f4 _ _ hTk, ?_, ?_⟩
  · show ((TL.find? fun z => z.key == t.key).map Tg.base).getD 0 = _
    rw [hfd]
    rfl
  · show ((TL.find? fun z => z.key == t.key).map Tg.hdr).getD _ = _
    rw [hfd]
    rfl
inductive RVF (U : Univ) (F : Nat → Prop) (w : World) (key : Nat) : RV U → Value → List (Tg U) → Prop
  | d {x : U.D} {v : Value} : RepV U F w x v → RVF U F w key (.d x) v []
  | nil : RVF U F w key .nil (.pointer none) []
  | row {e : Ty} {l : List (e.den U.car)} {t : Tg U} : t.key = key → t.blk = newBlk ⟨.sl e, l⟩ false [[]] → RVF U F w key (.row ⟨.sl e, l⟩) (.slice (t.hdr []).1 l.length (t.hdr []).2) [t]
  | new {x : U.D} {own : List (List Nat)} {t : Tg U} : t.key = key → t.blk = newBlk x true own → RVF U F w key (.new x own) (.pointer (some ⟨t.base, 0, none⟩)) [t]
inductive RVFs (U : Univ) (F : Nat → Prop) (w : World) : Nat → List (RV U) → List Value → List (Tg U) → Prop
  | nil {k : Nat} : RVFs U F w k [] [] []
  | cons {k : Nat} {x : RV U} {v : Value} {t : List (Tg U)} {xs : List (RV U)} {vs : List Value} {ts : List (Tg U)} : RVF U F w k x v t → RVFs U F w (k + 1) xs vs ts → RVFs U F w k (x :: xs) (v :: vs) (t ++ ts)
theorem RVF.mono {F F' : Nat → Prop} {key : Nat} (hF : ∀ b, F b → F' b) {x : RV U} {v : Value} {t : List (Tg U)} (h : RVF U F w key x v t) : RVF U F' w key x v t := by
  cases h with
  | d h => exact .d (h.mono' hF)
  | nil => exact .nil
  | row h1 h2 => exact .row h1 h2
  | new h1 h2 => exact .new h1 h2
theorem RVFs.reps {F : Nat → Prop} {gh' : Gh} (hF : ∀ b, F b → gh'.F b) : ∀ {k : Nat} {xs : List (RV U)} {vs : List Value} {ts : List (Tg U)}, RVFs U F w k xs vs ts → (∀ t ∈ ts, RepBlk U gh' w t.key t.blk ∧ (∀ bn p, Ow gh' t.key t.blk bn p → gh'.st bn = .own t.key p) ∧ gh'.base t.key = t.base ∧ gh'.hdr t.key = t.hdr) →
    RepRVs U gh' w k xs vs
  | _, _, _, _, .nil, _ => .nil
  | k, _, _, _, .cons h hs, ht => by
    have ih := RVFs.reps hF hs fun t hm => ht t (List.mem_append_right _ hm)
    have h0 := fun t hm => ht t (List.mem_append_left _ hm)
    cases h with
    | d h => exact .cons (.d (h.mono' hF)) ih
    | nil => exact .cons .nil ih
    | row h1 h2 =>
      obtain ⟨r1, r2, r3, r4⟩ := h0 _ List.mem_cons_self
      rw [h1] at r1 r2 r4
      rw [h2] at r1 r2
      refine .cons ?_ ih
      rw [← r4]
      exact .row r1 r2
    | new h1 h2 =>
      obtain ⟨r1, r2, r3, r4⟩ := h0 _ List.mem_cons_self
      rw [h1] at r1 r2 r3
      rw [h2] at r1 r2
      refine .cons ?_ ih
      rw [← r3]
      exact .new r1 r2
def resVal (tmps : Array Value) : ResultVar → Sem Value
  | .tmp t => pure (tmps.getD t undef)
  | .cell a t => do loadVar t (← asAddr (tmps.getD a undef))
inductive ValsRun (P : Program) (tmps : Array Value) (w : World) : List ResultVar → List Value → Prop
  | nil : ValsRun P tmps w [] []
  | cons {r : ResultVar} {v : Value} {rs : List ResultVar} {vs : List Value} : (resVal tmps r).run P w = .ok v w → ValsRun P tmps w rs vs → ValsRun P tmps w (r :: rs) (v :: vs)
theorem ValsRun.run : ∀ {rs : List ResultVar} {vs : List Value}, ValsRun P a.tmps w rs vs → (rs.mapM (resVal a.tmps)).run P w = .ok vs w
  | _, _, .nil => by simp
  | _, _, .cons h hs => by simp [List.mapM_cons, h, ValsRun.run hs]
theorem run_results {fn : Func} {vs : List Value} (h : ValsRun P a.tmps w fn.results.toList vs) : (results fn a.tmps).run P w = .ok (tupV vs) w := by
  have hr := h.run
  have hf : results fn a.tmps = (do
      let vs ← fn.results.mapM (resVal a.tmps)
      pure (if h : vs.size = 1 then vs[0] else .tuple vs)) := by
    unfold results
    congr 1
  rw [hf, Array.mapM_eq_mapM_toList]
  simp only [Sem.run_bind, Sem.run_map, hr, Result.andThen_ok, Sem.run_pure]
  congr 1
  match vs with
  | [] => simp [tupV]
  | [v] => simp [tupV]
  | v :: u :: r => simp [tupV]
end
end Go.Ev
end
section
namespace Go.Ev
variable {U : Univ} {P : Program}
section
variable {E : Env} {a : Act} {w : World}
theorem cellTy_some {G : Ctx U} {T : TypeId} {u : Ty} (h : cellTy G T u = true) : G.ty T = some u := by
  unfold cellTy at h
  split at h
  · rename_i t ht
    rw [ht, Ty.beq_eq h]
  · cases h
theorem resOf_facts {G : Ctx U} (hU : ULaw U) (hG : GOk P U G) : ∀ (ts : List ResultVar) (ms : List RM) {β : Type} {K : List (RV U) → St U → Option β} {r : β} {gh : Gh} {σ ρ : St U} {D : List Nat} (j : Nat), Sim U E gh ρ a w → Rem ρ σ D → resOf G ts ms σ K = some r →
    ∃ rvs σ', K rvs σ' = some r ∧ ∃ gh' ρ' D' vals TL, Sim U E gh' ρ' a w ∧ Adv gh gh' ρ ρ' D ∧ Rem ρ' σ' D' ∧ (∀ k ∈ D, k ∈ D') ∧ ValsRun P a.tmps w ts vals ∧ RVFs U gh'.F w j rvs vals TL ∧ (∀ t ∈ TL, TgOk U gh' ρ' w t) ∧ (∀ t ∈ TL, j ≤ t.key) ∧ (TL.map Tg.key).Nodup ∧ (TL.filterMap Tg.src).Nodup ∧
      ∀ t ∈ TL, ∀ k, t.src = some k → k ∉ D ∧ k ∈ D' := by
  intro ts
  induction ts with
  | nil =>
    intro ms β K r gh σ ρ D j S R h
    cases ms with
    | nil =>
      simp only [resOf] at h
      exact ⟨[], σ, h, gh, ρ, D, [], [], S, Adv.refl .., R, fun _ h => h, .nil, .nil, fun t ht => (by cases ht), fun t ht => (by cases ht), List.nodup_nil, List.nodup_nil, fun t ht => (by cases ht)⟩
    | cons m ms => simp [resOf] at h
  | cons rv ts ih =>
    intro ms β K r gh σ ρ D j S R h
    cases ms with
    | nil => cases rv <;> simp [resOf] at h
    | cons m ms =>
    have goOn : ∀ {x : RV U} {v : Value} {gh1 : Gh} {σ1 ρ1 : St U}, resOf G ts ms σ1 (fun vs => K (x :: vs)) = some r → Sim U E gh1 ρ1 a w → Adv gh gh1 ρ ρ1 D → Rem ρ1 σ1 D → (resVal a.tmps rv).run P w = .ok v w → RVF U gh1.F w j x v [] →
        ∃ rvs σ', K rvs σ' = some r ∧ ∃ gh' ρ' D' vals TL, Sim U E gh' ρ' a w ∧ Adv gh gh' ρ ρ' D ∧ Rem ρ' σ' D' ∧ (∀ k ∈ D, k ∈ D') ∧ ValsRun P a.tmps w (rv :: ts) vals ∧ RVFs U gh'.F w j rvs vals TL ∧ (∀ t ∈ TL, TgOk U gh' ρ' w t) ∧ (∀ t ∈ TL, j ≤ t.key) ∧ (TL.map Tg.key).Nodup ∧ (TL.filterMap Tg.src).Nodup ∧
          ∀ t ∈ TL, ∀ k, t.src = some k → k ∉ D ∧ k ∈ D' := by
      intro x v gh1 σ1 ρ1 h S1 A1 R1 hv hf
      obtain ⟨rvs, σ', hK, gh', ρ', D', vals, TL, S', A', R', hD, hvr, hrf, h1, h2, h3, h4, h5⟩ := ih ms (j + 1) S1 R1 h
      exact ⟨x :: rvs, σ', hK, gh', ρ', D', v :: vals, TL, S', A1.trans A' (fun _ h => h), R', hD, .cons hv hvr, .cons (t := []) (hf.mono A'.F) hrf, h1, fun t ht => Nat.le_of_succ_le (h2 t ht), h3, h4, h5⟩
    have goTake : ∀ {x : RV U} {v : Value} {k : Nat} {t : Tg U}, k ∉ D → resOf G ts ms (σ.put (.blk k none)) (fun vs => K (x :: vs)) = some r → (resVal a.tmps rv).run P w = .ok v w → RVF U gh.F w j x v [t] → t.key = j → t.src = some k → TgOk U gh ρ w t →
        ∃ rvs σ', K rvs σ' = some r ∧ ∃ gh' ρ' D' vals TL, Sim U E gh' ρ' a w ∧ Adv gh gh' ρ ρ' D ∧ Rem ρ' σ' D' ∧ (∀ k ∈ D, k ∈ D') ∧ ValsRun P a.tmps w (rv :: ts) vals ∧ RVFs U gh'.F w j rvs vals TL ∧ (∀ t ∈ TL, TgOk U gh' ρ' w t) ∧ (∀ t ∈ TL, j ≤ t.key) ∧ (TL.map Tg.key).Nodup ∧ (TL.filterMap Tg.src).Nodup ∧
          ∀ t ∈ TL, ∀ k, t.src = some k → k ∉ D ∧ k ∈ D' := by
      intro x v k t hk h hv hf hkey hsrc hok
      obtain ⟨rvs, σ', hK, gh', ρ', D', vals, TL, S', A', R', hD, hvr, hrf, h1, h2, h3, h4, h5⟩ := ih ms (j + 1) S (R.take k) h
      refine ⟨x :: rvs, σ', hK, gh', ρ', D', v :: vals, t :: TL, S', ⟨A'.base, A'.hdr, A'.F, A'.slot, fun i hi => A'.taken i (List.mem_cons_of_mem _ hi), A'.blk, A'.none⟩, R', fun i hi => hD i (List.mem_cons_of_mem _ hi), .cons hv hvr, .cons (t := [t]) (hf.mono A'.F) hrf, fun u hu => ?_, fun u hu => ?_, ?_, ?_, fun u hu i hi => ?_⟩
      · cases hu with
        | head => exact hok.adv A' fun i hi => by rw [hsrc] at hi; cases hi; exact List.mem_cons_self
        | tail _ hu => exact h1 u hu
      · cases hu with
        | head => omega
        | tail _ hu => exact Nat.le_of_succ_le (h2 u hu)
      · simp only [List.map_cons, List.nodup_cons]
        refine ⟨fun e => ?_, h3⟩
        obtain ⟨u, hu, e⟩ := List.mem_map.1 e
        have := h2 u hu
        omega
      · rw [List.filterMap_cons, hsrc]
        refine List.nodup_cons.2 ⟨fun e => ?_, h4⟩
        obtain ⟨u, hu, e⟩ := List.mem_filterMap.1 e
        exact (h5 u hu k e).1 List.mem_cons_self
      · cases hu with
        | head =>
          rw [hsrc] at hi
          cases hi
          exact ⟨hk, hD _ List.mem_cons_self⟩
        | tail _ hu =>
          obtain ⟨q1, q2⟩ := h5 u hu i hi
          exact ⟨fun e => q1 (List.mem_cons_of_mem _ e), q2⟩
    cases rv with
    | cell t T =>
      cases m with
      | d u =>
        simp only [resOf] at h
        have hs := S.slots t
        rw [R.slot] at h
        split at h
        case h_2 => cases h
        rename_i k ver p t0 hsl
        split at h
        · cases h
        rename_i hct
        have hT := cellTy_some (by simpa using hct)
        rw [Rd.runK_eq] at h
        simp only [Option.bind_eq_some_iff] at h
        obtain ⟨x, hx, h⟩ := h
        split at h
        case h_2 => cases h
        rename_i b q hb hq
        obtain ⟨hkD, hb'⟩ := R.some hb
        obtain ⟨b0, y, hb0, hver, hdead, hg, hx⟩ := readP_some hx
        cases hb.symm.trans hb0
        split at hx
        case isFalse => simp at hx
        rename_i hyt
        simp only [run_ret, Option.some.injEq] at hx
        subst hx
        have hyt := Ty.beq_eq hyt
        rw [hsl] at hs
        generalize hev : a.tmps.getD t Go.undef = vv at hs
        cases hs with
        | ptr hp =>
          obtain ⟨b1, hb1, _, hp⟩ := hp
          cases hb'.symm.trans hb1
          have hp := hp hver
          have S1 := S.freezeAt hb' q
          obtain ⟨e1, c, hc, hrep⟩ := S1.readAt hU (b := b.frozen q) (St.blk_put_same ..) (PtrAt.congr (gh := gh) (b := b) rfl rfl rfl rfl hp) hdead hg (fun q' hq' => by
            rw [hq] at hq'
            cases hq'
            cases hc : (b.frozen q).own.any (pre q) with
            | false => rfl
            | true =>
              obtain ⟨o, ho, hpo⟩ := List.any_eq_true.1 hc
              have := (List.mem_filter.1 ho).2
              rw [hpo] at this
              cases this)
          obtain ⟨n, hn⟩ := hasSize hU u
          obtain ⟨v, hv1, hv2⟩ := run_loadVar (P := P) (hG.ty T _ hT).1 hn (hrep.length hU (by rw [hyt]; exact hn)) hc
          refine goOn (x := .d y) (v := v) h S1 (adv_freeze S hkD hb' q) (R.freeze hkD _) ?_ (.d ⟨c, hrep, by rw [hyt]; exact hv2⟩)
          simp only [resVal, Sem.run_bind, hev, asAddr, Sem.run_pure, Result.andThen_ok, hv1]
      | _ => simp [resOf] at h
    | tmp t =>
      have hval : (resVal a.tmps (.tmp t)).run P w = .ok (a.tmps.getD t Go.undef) w := by simp only [resVal, Sem.run_pure]
      have hs := S.slots t
      cases m with
      | d u =>
        simp only [resOf] at h
        rw [R.slot] at h
        split at h
        · rename_i k ver q wn hsl
          rw [Rd.runK_eq] at h
          simp only [Option.bind_eq_some_iff] at h
          obtain ⟨x, hx, h⟩ := h
          split at h
          case h_2 => cases h
          rename_i b hb
          obtain ⟨hkD, hb'⟩ := R.some hb
          simp only [plainOf] at hx
          obtain ⟨b0, x0, hb0, hdead, hver, hg, hx⟩ := rowOf_some hx
          cases hb.symm.trans hb0
          split at hx
          case h_2 => simp at hx
          rename_i y hy
          split at hx
          case isFalse => simp at hx
          simp only [run_ret, Option.some.injEq] at hx
          subst hx
          obtain ⟨e, l, l', rfl, rfl⟩ := win_sl hy
          rw [hsl] at hs
          cases hs with
          | row _ hr =>
            obtain ⟨b1, hb1, _, hr⟩ := hr
            cases hb'.symm.trans hb1
            obtain ⟨m, hm, hr⟩ := hr hver e l hg
            have S1 := S.freezeAt hb' q
            have Rp := S1.rowRep hU (b := b.frozen q) (q := q) (St.blk_put_same ..) (by show (b.own.filter _).contains q = false; rw [contains_filter, pre_self]; simp) (dead_no hdead) hg
            obtain ⟨cs, h1, h2⟩ := Rep.win hU Rp hm hr hy
            exact goOn (x := .d ⟨.sl e, l'⟩) h S1 (adv_freeze S hkD hb' q) (R.freeze hkD _) hval (.d ⟨cs, h1, h2⟩)
        · rename_i hne
          rw [Rd.runK_eq] at h
          simp only [Option.bind_eq_some_iff] at h
          obtain ⟨x, hx, h⟩ := h
          rw [run_plainOf_any (ρ := ρ) (fun k v q wn e => hne k v q wn e)] at hx
          obtain ⟨x', hxt, hx', hrep, _⟩ := plainOf_some hU S hs hx
          simp only [run_ret, Option.some.injEq] at hx'
          subst hx'
          exact goOn (x := .d x') h S (Adv.refl ..) R hval (.d (hrep fun k v q wn e => hne k v q wn e))
      | nil =>
        simp only [resOf] at h
        rw [R.slot] at h
        split at h
        case h_2 => cases h
        rename_i hsl
        rw [hsl] at hs
        generalize hev : a.tmps.getD t Go.undef = vv at hs hval
        cases hs with
        | nilp => exact goOn (x := .nil) h S (Adv.refl ..) R hval .nil
      | new u own =>
        simp only [resOf] at h
        rw [R.slot] at h
        split at h
        case h_2 => cases h
        rename_i k ver t0 hsl
        split at h
        case h_2 => cases h
        rename_i b hb
        split at h
        case isFalse => cases h
        rename_i hc
        simp only [Bool.and_eq_true, List.isEmpty_iff] at hc
        obtain ⟨⟨⟨hm, hdead⟩, hbt⟩, hown⟩ := hc
        have hbt := Ty.beq_eq hbt
        subst hbt
        obtain ⟨hkD, hb'⟩ := R.some hb
        rw [hsl] at hs
        generalize hev : a.tmps.getD t Go.undef = vv at hs hval
        cases hs with
        | ptr hp =>
          obtain ⟨b1, hb1, _, hp⟩ := hp
          cases hb'.symm.trans hb1
          obtain ⟨_, oo, hat, had⟩ := (hp (.inl rfl)).flat rfl
          obtain ⟨h0, _⟩ := hat.nil_inv
          subst h0
          subst had
          exact goTake (t := ⟨j, newBlk b.x true own, some k, gh.base k, gh.hdr k⟩) hkD h hval (RVF.new (t := ⟨j, newBlk b.x true own, some k, gh.base k, gh.hdr k⟩) rfl rfl) rfl rfl (.box rfl hb' hm hdead hown rfl rfl rfl)
      | row u =>
        simp only [resOf] at h
        rw [R.slot] at h
        split at h
        · rename_i hsl
          rw [Rd.runK_eq] at h
          simp only [Option.bind_eq_some_iff] at h
          obtain ⟨x, hx, h⟩ := h
          have hx' : (plainOf u .nilsl fun y => (Rd.ret y : Rd U U.D)).run σ = some x := hx
          unfold plainOf at hx'
          simp only at hx'
          split at hx'
          case h_2 => simp at hx'
          rename_i e
          simp only [run_ret, Option.some.injEq] at hx'
          subst hx'
          rw [hsl] at hs
          generalize hev : a.tmps.getD t Go.undef = vv at hs hval
          cases hs with
          | nilsl =>
            obtain ⟨rvs, σ', hK, gh', ρ', D', vals, TL, S', A', R', hD, hvr, hrf, h1, h2, h3, h4, h5⟩ := ih ms (j + 1) S R h
            obtain ⟨sz, hsz⟩ := hasSize hU e
            let t : Tg U := ⟨j, newBlk ⟨.sl e, []⟩ false [[]], none, 0, fun _ => (none, 0)⟩
            refine ⟨_, σ', hK, gh', ρ', D', .slice none 0 0 :: vals, t :: TL, S', A', R', hD, .cons hval hvr, .cons (t := [t]) (.row (t := t) rfl rfl) hrf, fun u hu => ?_, fun u hu => ?_, ?_, ?_, fun u hu i hi => ?_⟩
            · cases hu with
              | head => exact .row (l := []) (ad := none) (cap := 0) (tag := 0) (xs := []) rfl rfl hsz .nil (World.ownsRow_nil ..) fun c hc => by cases hc
              | tail _ hu => exact h1 u hu
            · cases hu with
              | head => exact Nat.le_refl _
              | tail _ hu => exact Nat.le_of_succ_le (h2 u hu)
            · simp only [List.map_cons, List.nodup_cons]
              refine ⟨fun e => ?_, h3⟩
              obtain ⟨u, hu, e⟩ := List.mem_map.1 e
              have := h2 u hu
              simp only [t] at e
              omega
            · rw [List.filterMap_cons]
              exact h4
            · cases hu with
              | head => cases hi
              | tail _ hu => exact h5 u hu i hi
        · rename_i k ver q wn hsl
          split at h
          case h_2 => cases h
          rename_i b hb
          split at h
          case isFalse => cases h
          rename_i hc
          simp only [Bool.and_eq_true, beq_iff_eq, List.isEmpty_iff] at hc
          obtain ⟨⟨⟨ho, hver⟩, hhead⟩, hdead⟩ := hc
          split at h
          case h_2 => cases h
          rename_i y0 hg0
          split at h
          case h_2 => cases h
          rename_i y hy
          split at h
          case isFalse => cases h
          obtain ⟨hkD, hb'⟩ := R.some hb
          obtain ⟨e', l0, l, rfl, rfl⟩ := win_sl hy
          rw [hsl] at hs
          have hd0 : b.dead.contains q = false := by rw [hdead]; rfl
          obtain ⟨ad, cap, tag, m, xs, hu, hm2, hr, hown, hst⟩ := S.ownHead hU hb' ho hd0 hver hg0 hy hhead hs
          refine goTake (x := .row ⟨.sl e', l⟩) (t := ⟨j, newBlk ⟨.sl e', l⟩ false [[]], some k, 0, fun _ => (ad, cap)⟩) hkD h hval ?_ rfl rfl (.row rfl rfl hm2 hr hown fun c hc => ⟨k, q, hst c hc, rfl⟩)
          rw [hu]
          exact RVF.row (t := ⟨j, newBlk ⟨.sl e', l⟩ false [[]], some k, 0, fun _ => (ad, cap)⟩) rfl rfl
        · cases h
end
end Go.Ev
end
section
namespace Go.Ev
variable {U : Univ} {P : Program}
section
variable {E : Env} {gh : Gh} {w : World}
inductive AtStart (U : Univ) (E : Env) (gh : Gh) (w : World) (σ : St U) (n : Nat) (v : Value) : Prop where
  | d {x : U.D} : σ.slot n = .d x → RepV U gh.F w x v → σ.blk n = none → AtStart U E gh w σ n v
  | fn {f : Nat} : σ.slot n = .fn f → v = .func (.func f) #[] #[] → σ.blk n = none → AtStart U E gh w σ n v
  | box {x : U.D} {o : List (List Nat)} : σ.slot n = .ptr n 0 [] x.t → σ.blk n = some (newBlk x true o) → v = .pointer (some ⟨gh.base n, 0, none⟩) → RepBlk U gh w n (newBlk x true o) → (∀ bn p, Ow gh n (newBlk x true o) bn p → gh.st bn = .own n p) →
      E.bx n = some (gh.base n) → AtStart U E gh w σ n v
theorem AtStart.same {σ τ : St U} {n : Nat} {v : Value} (h : AtStart U E gh w σ n v) (h1 : τ.slot n = σ.slot n) (h2 : τ.blk n = σ.blk n) : AtStart U E gh w τ n v := by
  cases h with
  | d g1 g2 g3 => exact .d (h1.trans g1) g2 (h2.trans g3)
  | fn g1 g2 g3 => exact .fn (h1.trans g1) g2 (h2.trans g3)
  | box g1 g2 g3 g4 g5 g6 => exact .box (h1.trans g1) (h2.trans g2) g3 g4 g5 g6
theorem start_ok : ∀ {i : Nat} {xs : List (Arg U)} {os : List (List (List Nat))} {vs : List Value}, Hand U E gh w i xs os vs → ∀ (σ : St U), (∀ n, i ≤ n → σ.blk n = none) →
    (∀ n, n < i → (start i xs os σ).slot n = σ.slot n ∧ (start i xs os σ).blk n = σ.blk n) ∧ (∀ n, i + xs.length ≤ n → (start i xs os σ).slot n = σ.slot n ∧ (start i xs os σ).blk n = σ.blk n) ∧ (∀ j v, vs[j]? = some v → AtStart U E gh w (start i xs os σ) (i + j) v) ∧ xs.length = vs.length
  | _, _, _, _, .nil, σ, _ => ⟨fun _ _ => ⟨rfl, rfl⟩, fun _ _ => ⟨rfl, rfl⟩, fun j v h => by simp at h, rfl⟩
  | i, _, _, _, .d (x := x) (as := as) (os := os) hx h, σ, hb => by
    obtain ⟨h1, h2, h3, h4⟩ := start_ok h (σ.put (.slot i (.d x))) fun n hn => hb n (by omega)
    simp only [start, List.length_cons]
    refine ⟨fun n hn => ?_, fun n hn => ?_, fun j v hj => ?_, by rw [h4]⟩
    · obtain ⟨q1, q2⟩ := h1 n (by omega)
      exact ⟨q1.trans (St.slot_put_ne _ _ (by omega)), q2⟩
    · obtain ⟨q1, q2⟩ := h2 n (by omega)
      exact ⟨q1.trans (St.slot_put_ne _ _ (by omega)), q2⟩
    · cases j with
      | zero =>
        simp at hj
        subst hj
        obtain ⟨q1, q2⟩ := h1 i (by omega)
        exact .d (q1.trans (St.slot_put_same ..)) hx (q2.trans (hb i (Nat.le_refl _)))
      | succ j =>
        have := h3 j v (by simpa using hj)
        rwa [Nat.add_assoc, Nat.add_comm 1] at this
  | i, _, _, _, .fn (f := f) (as := as) (os := os) h, σ, hb => by
    obtain ⟨h1, h2, h3, h4⟩ := start_ok h (σ.put (.slot i (.fn f))) fun n hn => hb n (by omega)
    simp only [start, List.length_cons]
    refine ⟨fun n hn => ?_, fun n hn => ?_, fun j v hj => ?_, by rw [h4]⟩
    · obtain ⟨q1, q2⟩ := h1 n (by omega)
      exact ⟨q1.trans (St.slot_put_ne _ _ (by omega)), q2⟩
    · obtain ⟨q1, q2⟩ := h2 n (by omega)
      exact ⟨q1.trans (St.slot_put_ne _ _ (by omega)), q2⟩
    · cases j with
      | zero =>
        simp at hj
        subst hj
        obtain ⟨q1, q2⟩ := h1 i (by omega)
        exact .fn (q1.trans (St.slot_put_same ..)) rfl (q2.trans (hb i (Nat.le_refl _)))
      | succ j =>
        have := h3 j v (by simpa using hj)
        rwa [Nat.add_assoc, Nat.add_comm 1] at this
  | i, _, _, _, .box (x := x) (o := o) (as := as) (os := os) r1 r2 r3 h, σ, hb => by
    obtain ⟨h1, h2, h3, h4⟩ := start_ok h ((σ.put (.slot i (.ptr i 0 [] x.t))).put (.blk i (some (newBlk x true o)))) fun n hn => by
      rw [St.blk_put_ne _ _ (by omega)]
      exact hb n (by omega)
    simp only [start, List.length_cons, List.tail_cons, List.headD_cons]
    refine ⟨fun n hn => ?_, fun n hn => ?_, fun j v hj => ?_, by rw [h4]⟩
    · obtain ⟨q1, q2⟩ := h1 n (by omega)
      exact ⟨q1.trans (St.slot_put_ne _ _ (by omega)), q2.trans (St.blk_put_ne _ _ (by omega))⟩
    · obtain ⟨q1, q2⟩ := h2 n (by omega)
      exact ⟨q1.trans (St.slot_put_ne _ _ (by omega)), q2.trans (St.blk_put_ne _ _ (by omega))⟩
    · cases j with
      | zero =>
        simp at hj
        subst hj
        obtain ⟨q1, q2⟩ := h1 i (by omega)
        exact .box (q1.trans (St.slot_put_same ..)) (q2.trans (St.blk_put_same ..)) rfl r1 r2 r3
      | succ j =>
        have := h3 j v (by simpa using hj)
        rwa [Nat.add_assoc, Nat.add_comm 1] at this
theorem start_sim {xs : List (Arg U)} {os : List (List (List Nat))} {vs : List Value} {n : Nat} (H : Enters U E gh xs os vs) (hn : xs.length ≤ n) :
    Sim U { E with n := n } gh (start 0 xs os empty) { tmps := vs.toArray ++ Array.replicate (n - vs.toArray.size) undef, defers := [] } E.w := by
  obtain ⟨_, h2, h3, h4⟩ := start_ok H.hand empty fun _ _ => rfl
  simp only [Nat.zero_add] at h2 h3
  have hget : ∀ k v, vs[k]? = some v → (vs.toArray ++ Array.replicate (n - vs.toArray.size) undef).getD k Go.undef = v := by
    intro k v hv
    have hlt := getElem?_lt hv
    rw [Array.getD_eq_getD_getElem?, Array.getElem?_append_left (by simpa using hlt)]
    simp [hv]
  have hcase : ∀ k, (∃ v, vs[k]? = some v) ∨ xs.length ≤ k := fun k => by
    rcases Nat.lt_or_ge k vs.length with h | h
    · exact .inl ⟨vs[k], by simp [h]⟩
    · exact .inr (by omega)
  refine ⟨by simp; omega, rfl, fun k => ?_, fun k b hb => ?_, fun k b hb bn p hp => ?_, ?_, fun k b bn hk hb => ?_⟩
  · rcases hcase k with ⟨v, hv⟩ | hk
    · show RepAV U gh _ E.w _ ((vs.toArray ++ Array.replicate (n - vs.toArray.size) undef).getD k Go.undef)
      rw [hget k v hv]
      cases h3 k v hv with
      | d g1 g2 g3 => rw [g1]; exact .d g2
      | fn g1 g2 g3 => rw [g1, g2]; exact .fn
      | box g1 g2 g3 g4 g5 g6 =>
        rw [g1, g3]
        exact .ptr ⟨_, g2, Nat.le_refl _, fun _ => .mem rfl .nil⟩
    · rw [(h2 k hk).1]
      exact .undef
  · rcases hcase k with ⟨v, hv⟩ | hk
    · cases h3 k v hv with
      | d g1 g2 g3 => rw [g3] at hb; cases hb
      | fn g1 g2 g3 => rw [g3] at hb; cases hb
      | box g1 g2 g3 g4 g5 g6 =>
        rw [g2] at hb
        cases hb
        exact g4
    · rw [(h2 k hk).2] at hb
      cases hb
  · rcases hcase k with ⟨v, hv⟩ | hk
    · cases h3 k v hv with
      | d g1 g2 g3 => rw [g3] at hb; cases hb
      | fn g1 g2 g3 => rw [g3] at hb; cases hb
      | box g1 g2 g3 g4 g5 g6 =>
        rw [g2] at hb
        cases hb
        exact g5 bn p hp
    · rw [(h2 k hk).2] at hb
      cases hb
  · exact ⟨H.frm.bound, H.frm.fresh, H.frm.ffresh, H.frm.old, H.frm.grown, H.frm.kept, H.frm.os, H.frm.tape, H.frm.output⟩
  · rcases hcase k with ⟨v, hv⟩ | hkk
    · cases h3 k v hv with
      | d g1 g2 g3 => rw [g3] at hb; cases hb
      | fn g1 g2 g3 => rw [g3] at hb; cases hb
      | box g1 g2 g3 g4 g5 g6 =>
        have hk : E.bx k = some bn := hk
        rw [g6] at hk
        exact Option.some.inj hk
    · rw [(h2 k hkk).2] at hb
      cases hb
inductive BoxF (U : Univ) (gh : Gh) (ρ : St U) : Nat → List (Arg U) → List U.D → List (List (List Nat)) → List (Tg U) → Prop
  | nil {i : Nat} : BoxF U gh ρ i [] [] [] []
  | d {i : Nat} {x : U.D} {as : List (Arg U)} {xs : List U.D} {os : List (List (List Nat))} {ts : List (Tg U)} : BoxF U gh ρ (i + 1) as xs os ts → BoxF U gh ρ i (.d x :: as) xs os ts
  | fn {i f : Nat} {as : List (Arg U)} {xs : List U.D} {os : List (List (List Nat))} {ts : List (Tg U)} : BoxF U gh ρ (i + 1) as xs os ts → BoxF U gh ρ i (.fn f :: as) xs os ts
  | box {i : Nat} {x : U.D} {b : Blk U} {o : List (List Nat)} {as : List (Arg U)} {xs : List U.D} {os : List (List (List Nat))} {ts : List (Tg U)} : ρ.blk i = some b → b.mem = true → b.dead = [] → o.all b.own.contains = true → BoxF U gh ρ (i + 1) as xs os ts →
      BoxF U gh ρ i (.box x :: as) (b.x :: xs) (o :: os) (⟨i, newBlk b.x true o, some i, gh.base i, gh.hdr i⟩ :: ts)
theorem boxesBack_some {gh' : Gh} {w' : World} {ρ σ : St U} {D : List Nat} (R : Rem ρ σ D) : ∀ {i : Nat} {xs : List (Arg U)} {os : List (List (List Nat))} {vs : List Value}, Hand U E gh w i xs os vs → ∀ {β : Type} {K : List U.D → Option β} {r : β}, boxesBack i xs os σ K = some r →
    ∃ bs ts, K bs = some r ∧ BoxF U gh' ρ i xs bs os ts ∧ (∀ t ∈ ts, TgOk U gh' ρ w' t) ∧ (∀ t ∈ ts, i ≤ t.key ∧ t.key < i + xs.length ∧ t.src = some t.key ∧ t.key ∉ D) ∧ (ts.map Tg.key).Nodup
  | _, _, _, _, .nil, β, K, r, h => ⟨[], [], h, .nil, fun t ht => (by cases ht), fun t ht => (by cases ht), List.nodup_nil⟩
  | i, _, _, _, .d hx hh, β, K, r, h => by
    simp only [boxesBack] at h
    obtain ⟨bs, ts, h1, h2, h3, h4, h5⟩ := boxesBack_some R hh h
    exact ⟨bs, ts, h1, .d h2, h3, fun t ht => by obtain ⟨q1, q2, q3, q4⟩ := h4 t ht; exact ⟨by omega, by simp only [List.length_cons]; omega, q3, q4⟩, h5⟩
  | i, _, _, _, .fn hh, β, K, r, h => by
    simp only [boxesBack] at h
    obtain ⟨bs, ts, h1, h2, h3, h4, h5⟩ := boxesBack_some R hh h
    exact ⟨bs, ts, h1, .fn h2, h3, fun t ht => by obtain ⟨q1, q2, q3, q4⟩ := h4 t ht; exact ⟨by omega, by simp only [List.length_cons]; omega, q3, q4⟩, h5⟩
  | i, _, _, _, .box (o := o) r1 r2 r3 hh, β, K, r, h => by
    simp only [boxesBack, List.headD_cons, List.tail_cons] at h
    cases hb : σ.blk i with
    | none => rw [hb] at h; simp at h
    | some b => ?_
    rw [hb] at h
    simp only [Option.ite_none_right_eq_some, Bool.and_eq_true, List.isEmpty_iff] at h
    obtain ⟨⟨⟨hm, hdead⟩, hown⟩, h⟩ := h
    obtain ⟨bs, ts, h1, h2, h3, h4, h5⟩ := boxesBack_some R hh h
    obtain ⟨hD, hb'⟩ := R.some hb
    refine ⟨b.x :: bs, _, h1, .box hb' hm hdead hown h2, fun t ht => ?_, fun t ht => ?_, ?_⟩
    · cases ht with
      | head => exact .box rfl hb' hm hdead hown rfl rfl rfl
      | tail _ ht => exact h3 t ht
    · cases ht with
      | head => exact ⟨Nat.le_refl _, by simp only [List.length_cons]; omega, rfl, hD⟩
      | tail _ ht =>
        obtain ⟨q1, q2, q3, q4⟩ := h4 t ht
        exact ⟨by omega, by simp only [List.length_cons]; omega, q3, q4⟩
    · simp only [List.map_cons, List.nodup_cons]
      refine ⟨fun e => ?_, h5⟩
      obtain ⟨u, hu, e⟩ := List.mem_map.1 e
      have := (h4 u hu).1
      omega
theorem BoxF.ok {gh1 gh' : Gh} {w' : World} {ρ : St U} (hbx : ∀ i b, ρ.blk i = some b → ∀ bn, E.bx i = some bn → gh1.base i = bn) : ∀ {i : Nat} {xs : List (Arg U)} {bs : List U.D} {os : List (List (List Nat))} {ts : List (Tg U)}, BoxF U gh1 ρ i xs bs os ts →
    (∀ j x, xs[j]? = some (.box x) → ∃ bn, E.bx (i + j) = some bn) → (∀ t ∈ ts, RepBlk U gh' w' t.key t.blk ∧ (∀ bn p, Ow gh' t.key t.blk bn p → gh'.st bn = .own t.key p) ∧ gh'.base t.key = t.base ∧ gh'.hdr t.key = t.hdr) → BoxesOk U E gh' w' i xs bs os
  | _, _, _, _, _, .nil, _, _ => .nil
  | i, _, _, _, _, .d h, hb, ht => .d (BoxF.ok hbx h (fun j x hj => by have := hb (j + 1) x (by simpa using hj); rwa [← Nat.add_assoc, Nat.add_right_comm] at this) ht)
  | i, _, _, _, _, .fn h, hb, ht => .fn (BoxF.ok hbx h (fun j x hj => by have := hb (j + 1) x (by simpa using hj); rwa [← Nat.add_assoc, Nat.add_right_comm] at this) ht)
  | i, _, _, _, _, .box q1 q2 q3 q4 h, hb, ht => by
    obtain ⟨r1, r2, r3, r4⟩ := ht _ List.mem_cons_self
    obtain ⟨bn, hbn⟩ := hb 0 _ rfl
    refine .box r1 r2 ?_ (BoxF.ok hbx h (fun j x hj => by have := hb (j + 1) x (by simpa using hj); rwa [← Nat.add_assoc, Nat.add_right_comm] at this) fun t hm => ht t (List.mem_cons_of_mem _ hm))
    have e : gh'.base i = gh1.base i := r3
    rw [e, hbx i _ q1 bn hbn]
    exact hbn
end
theorem encM_decL : ∀ (ms : List RM) (vs : List (RV U)) (xs : List U.D), decL ms vs = some xs → ∀ t, encM ms (xs ++ t) = vs ∧ (xs ++ t).drop (RM.tys ms).length = t
  | [], [], xs, h, t => by
    simp only [decL, Option.some.injEq] at h
    subst h
    exact ⟨rfl, rfl⟩
  | [], _ :: _, xs, h, t => by simp [decL] at h
  | .d u :: ms, vs, xs, h, t => by
    cases vs with
    | nil => simp [decL] at h
    | cons v vs =>
      cases v <;> simp only [decL] at h <;> first | cases h | skip
      split at h
      case isFalse => cases h
      split at h
      · rename_i ys hys
        cases h
        obtain ⟨h1, h2⟩ := encM_decL ms vs ys hys t
        exact ⟨by simp only [List.cons_append, encM, h1], h2⟩
      · cases h
  | .row u :: ms, vs, xs, h, t => by
    cases vs with
    | nil => simp [decL] at h
    | cons v vs =>
      cases v <;> simp only [decL] at h <;> first | cases h | skip
      split at h
      case isFalse => cases h
      split at h
      · rename_i ys hys
        cases h
        obtain ⟨h1, h2⟩ := encM_decL ms vs ys hys t
        exact ⟨by simp only [List.cons_append, encM, h1], h2⟩
      · cases h
  | .new u own :: ms, vs, xs, h, t => by
    cases vs with
    | nil => simp [decL] at h
    | cons v vs =>
      cases v <;> simp only [decL] at h <;> first | cases h | skip
      split at h
      case isFalse => cases h
      rename_i hc
      simp only [Bool.and_eq_true, beq_iff_eq] at hc
      split at h
      · rename_i ys hys
        cases h
        obtain ⟨h1, h2⟩ := encM_decL ms vs ys hys t
        exact ⟨by simp only [List.cons_append, encM, h1, hc.2], h2⟩
      · cases h
  | .nil :: ms, vs, xs, h, t => by
    cases vs with
    | nil => simp [decL] at h
    | cons v vs =>
      cases v <;> simp only [decL] at h <;> first | cases h | skip
      obtain ⟨h1, h2⟩ := encM_decL ms vs xs h t
      exact ⟨by simp only [encM, h1], h2⟩
theorem Sig.enc_dec {s : Sig} {r : Res U} {y : Tup U.car s.tys} (h : s.dec r = some y) : s.enc y = r := by
  unfold Sig.dec at h
  split at h
  · rename_i xs hxs
    have e := encT_decT _ _ _ h
    obtain ⟨h1, h2⟩ := encM_decL s.res r.vals xs hxs r.boxes
    unfold Sig.enc
    rw [e, h1, h2]
  · cases h
def bxP (ps : List PM) (d : Nat) : Bool :=
  match ps[d]? with
  | some (.box _) => true
  | _ => false
theorem encP_box : ∀ (ps : List PM) (xs : List U.D) (d : Nat) (x : U.D), (encP ps xs)[d]? = some (.box x) → bxP ps d = true
  | [], xs, d, x, h => by simp [encP] at h
  | .d t :: ps, [], d, x, h => by simp [encP] at h
  | .box t :: ps, [], d, x, h => by simp [encP] at h
  | .d t :: ps, y :: xs, 0, x, h => by simp [encP] at h
  | .d t :: ps, y :: xs, d + 1, x, h => by simpa [bxP] using encP_box ps xs d x (by simpa [encP] using h)
  | .box t :: ps, y :: xs, 0, x, h => rfl
  | .box t :: ps, y :: xs, d + 1, x, h => by simpa [bxP] using encP_box ps xs d x (by simpa [encP] using h)
  | .fn f :: ps, xs, 0, x, h => by simp [encP] at h
  | .fn f :: ps, xs, d + 1, x, h => by simpa [bxP] using encP_box ps xs d x (by simpa [encP] using h)
theorem encP_len : ∀ (ps : List PM) (xs : List U.D), (encP ps xs).length ≤ ps.length
  | [], _ => by simp [encP]
  | .d t :: ps, [] => by simp [encP]
  | .box t :: ps, [] => by simp [encP]
  | .d t :: ps, y :: xs => by simp only [encP, List.length_cons]; have := encP_len ps xs; omega
  | .box t :: ps, y :: xs => by simp only [encP, List.length_cons]; have := encP_len ps xs; omega
  | .fn f :: ps, xs => by simp only [encP, List.length_cons]; have := encP_len ps xs; omega
theorem encP_decP : ∀ (ps : List PM) (as : List (Arg U)) (xs : List U.D), decP ps as = some xs → encP ps xs = as
  | [], [], xs, h => by simp [encP]
  | [], _ :: _, xs, h => by simp [decP] at h
  | .d t :: ps, as, xs, h => by
    cases as with
    | nil => simp [decP] at h
    | cons a as =>
      cases a <;> simp only [decP] at h <;> first | cases h | skip
      split at h
      case isFalse => cases h
      split at h
      · rename_i ys hys
        cases h
        simp only [encP, encP_decP ps as ys hys]
      · cases h
  | .box t :: ps, as, xs, h => by
    cases as with
    | nil => simp [decP] at h
    | cons a as =>
      cases a <;> simp only [decP] at h <;> first | cases h | skip
      split at h
      case isFalse => cases h
      split at h
      · rename_i ys hys
        cases h
        simp only [encP, encP_decP ps as ys hys]
      · cases h
  | .fn f :: ps, as, xs, h => by
    cases as with
    | nil => simp [decP] at h
    | cons a as =>
      cases a <;> simp only [decP] at h <;> first | cases h | skip
      split at h
      · rename_i hfg
        have hfg := (beq_iff_eq).1 hfg
        subst hfg
        simp only [encP, encP_decP ps as xs h]
      · cases h
structure FnOk (P : Program) (f : FuncId) (fn : Func) (ps : List PM) : Prop where
  hfn : P.funcs[f]? = some fn
  hname : (fn.name == "runtime.NumGoroutine") = false
  hbody : fn.body.isSome = true
  hdsts : dstsOk fn.ntmps (bxP ps) (bodyOf fn) = true
  hlen : ps.length ≤ 100000 ∧ ps.length ≤ fn.ntmps
theorem run_callFunc {f : FuncId} {fn : Func} {args : Array Value} {w : World} (hf : P.funcs[f]? = some fn) (hn : (fn.name == "runtime.NumGoroutine") = false) (hb : fn.body.isSome = true) : (callFunc f args).run P w = .ok (.enter f args) w := by
  have hb' : ¬ fn.body = none := by cases h : fn.body <;> simp_all
  have hn' : ¬ fn.name = "runtime.NumGoroutine" := by simpa using hn
  simp [callFunc, hf, hn', hb']
theorem ret_sound {G : Ctx U} (hU : ULaw U) (hG : GOk P U G) {E : Env} {gh0 gh : Gh} {σ : St U} {a : Act} {w0 w : World} {xs : List (Arg U)} {os : List (List (List Nat))} {vs0 : List Value} {n : Nat} (hH : Hand U E gh0 w0 0 xs os vs0) {fn : Func} {ms : List RM} {Rr : Res U}
    (S : Sim U { E with n := n } gh σ a w) {β : Type} {y : β} {D : Res U → Option β} (hD : ∀ r, D r = some y → r = Rr) (h : (resOf G fn.results.toList ms σ fun vs σ' => boxesBack 0 xs os σ' fun bs => D ⟨vs, bs⟩) = some y) : ∃ v, (results fn a.tmps).run P w = .ok v w ∧ RetOk U E xs os Rr v w := by
  obtain ⟨rvs, σ', hK, gh', ρ', D', vals, TL, S', A', R', _, hvr, hrf, h1, h2, h3, h4, h5⟩ := resOf_facts hU hG _ ms xs.length S (D := []) ⟨fun _ => rfl, fun k => by simp⟩ h
  obtain ⟨bs, ts, hD', hBF, g1, g2, g3⟩ := boxesBack_some (gh' := gh') (w' := w) R' hH hK
  have hr := hD _ hD'
  subst hr
  have hkeys : ((TL ++ ts).map Tg.key).Nodup := by
    rw [List.map_append, List.nodup_append]
    refine ⟨h3, g3, fun k hk j hj e => ?_⟩
    obtain ⟨t, ht, rfl⟩ := List.mem_map.1 hk
    obtain ⟨u, hu, rfl⟩ := List.mem_map.1 hj
    have := h2 t ht
    have := (g2 u hu).2.1
    omega
  have hsrc : ((TL ++ ts).filterMap Tg.src).Nodup := by
    have e2 : ts.filterMap Tg.src = ts.map Tg.key := by
      clear g3 hBF hD' hkeys g1
      induction ts with
      | nil => rfl
      | cons t ts ih =>
        rw [List.filterMap_cons, (g2 t List.mem_cons_self).2.2.1, List.map_cons]
        simp only
        rw [ih fun u hu => g2 u (List.mem_cons_of_mem _ hu)]
    rw [List.filterMap_append, List.nodup_append, e2]
    refine ⟨h4, g3, fun k hk j hj e => ?_⟩
    obtain ⟨t, ht, hk⟩ := List.mem_filterMap.1 hk
    obtain ⟨u, hu, rfl⟩ := List.mem_map.1 hj
    exact (g2 u hu).2.2.2 (e ▸ (h5 t ht k hk).2)
  obtain ⟨ghf, f1, f2, f3⟩ := S'.selectL (TL ++ ts) (fun t ht => by
    rcases List.mem_append.1 ht with h | h
    · exact h1 t h
    · exact g1 t h) hkeys hsrc
  refine ⟨tupV vals, run_results hvr, ghf, vals, ⟨f1.bound, f1.fresh, f1.ffresh, f1.old, f1.grown, f1.kept, f1.os, f1.tape, f1.output⟩, ?_, hrf.reps f2 fun t ht => f3 t (List.mem_append_left _ ht), rfl⟩
  refine hBF.ok (E := E) (fun i b hb bn hbn => S'.bases i b bn hbn hb) (fun j x hj => ?_) fun t ht => f3 t (List.mem_append_right _ ht)
  clear hBF hD' g2 g1 hK h f3 hkeys hsrc
  have aux : ∀ {i : Nat} {xs : List (Arg U)} {os : List (List (List Nat))} {vs : List Value}, Hand U E gh0 w0 i xs os vs → ∀ j x, xs[j]? = some (.box x) → ∃ bn, E.bx (i + j) = some bn := by
    intro i xs os vs hH
    induction hH with
    | nil => intro j x h; simp at h
    | d _ _ ih =>
      intro j x h
      cases j with
      | zero => simp at h
      | succ j => have := ih j x (by simpa using h); rwa [Nat.add_assoc, Nat.add_comm 1] at this
    | fn _ ih =>
      intro j x h
      cases j with
      | zero => simp at h
      | succ j => have := ih j x (by simpa using h); rwa [Nat.add_assoc, Nat.add_comm 1] at this
    | box _ _ r3 _ ih =>
      intro j x h
      cases j with
      | zero => exact ⟨_, r3⟩
      | succ j => have := ih j x (by simpa using h); rwa [Nat.add_assoc, Nat.add_comm 1] at this
  exact aux hH j x hj
theorem fn_sound {L : (Nat → Prop) → World → Prop} (hL : LMono L) {G : Ctx U} (hU : ULaw U) (hG : GOk P U G) (hC : COk P U L G) {f : FuncId} {fn : Func} {ps : List PM} (hf : FnOk P f fn ps) {H : Hint U} (hH : LoopsOk G H (bodyOf fn) 1) {ds : List U.D} {os : List (List (List Nat))} {Rr : Res U} {β : Type} {y : β} {K : Ex → St U → Option β}
    (hK : ∀ e σ, K e σ = some y → e ≠ .ret → e = .normal) (h : evC G H (bodyOf fn) 1 (start 0 (encP ps ds) os empty) K = some y)
    (hfin : ∀ (E : Env) gh0 w0 vs0 gh σ a w n e, Hand U E gh0 w0 0 (encP ps ds) os vs0 → Sim U { E with n := n } gh σ a w → K e σ = some y → ∃ v, (results fn a.tmps).run P w = .ok v w ∧ RetOk U E (encP ps ds) os Rr v w) : CallOk P U L f (encP ps ds) os Rr := by
  intro E gh args hE hlay
  unfold Invokes
  rw [run_callFunc hf.hfn hf.hname hf.hbody]
  simp only
  obtain ⟨c, hc⟩ := Option.isSome_iff_exists.1 hf.hbody
  have hcb : bodyOf fn = c := by unfold bodyOf; rw [hc]; rfl
  have hlen : (encP ps ds).length ≤ fn.ntmps := Nat.le_trans (encP_len ps ds) hf.hlen.2
  refine calls_of_wp hf.hfn hc ?_
  rw [hcb] at h hH
  have hbx : ∀ d, bxP ps d = false → ({ E with n := fn.ntmps } : Env).bx d = none := by
    intro d hd
    show E.bx d = none
    cases hb : E.bx d with
    | none => rfl
    | some bn =>
      obtain ⟨x, hx⟩ := hE.bx d (by rw [hb]; simp)
      rw [encP_box ps ds d x hx] at hd
      cases hd
  have hEok : EOk L { E with n := fn.ntmps } := by
    refine ⟨hE.FS, hE.Flt, fun k hk => ?_, hlay⟩
    show E.bx k = none
    cases hb : E.bx k with
    | none => rfl
    | some bn =>
      obtain ⟨x, hx⟩ := hE.bx k (by rw [hb]; simp)
      have := getElem?_lt hx
      have := encP_len ps ds
      have := hf.hlen.1
      omega
  refine evC_sound (E := { E with n := fn.ntmps }) hL hU hG hC hEok hbx c 1 (by have := hf.hdsts; rw [hcb] at this; exact this) hH h (start_sim hE hlen) fun e σ' gh' a' w' hk hs => ?_
  obtain ⟨v, hv, hr⟩ := hfin E gh E.w args gh' σ' a' w' fn.ntmps e hE.hand hs hk
  cases e with
  | normal => exact ⟨hs.defers, v, hv, hr⟩
  | ret => exact ⟨hs.defers, v, hv, hr⟩
  | exit id => have := hK _ _ hk (by simp); cases this
theorem evFn_call {L : (Nat → Prop) → World → Prop} (hL : LMono L) {G : Ctx U} (hU : ULaw U) (hG : GOk P U G) (hC : COk P U L G) {f : FuncId} {fn : Func} {ps : List PM} (hf : FnOk P f fn ps) {H : Hint U} (hH : LoopsOk G H (bodyOf fn) 1) {s : Sig} {ds : List U.D} {y : Tup U.car s.tys}
    (h : evFn G H s fn (encP ps ds) = some y) : CallOk P U L f (encP ps ds) (s.boxes.map (·.2)) (s.enc y) := by
  unfold evFn at h
  obtain ⟨c, hc⟩ := Option.isSome_iff_exists.1 hf.hbody
  have hcb : bodyOf fn = c := by unfold bodyOf; rw [hc]; rfl
  rw [hc] at h
  simp only at h
  rw [← hcb] at h
  refine fn_sound hL hU hG hC hf hH (fun e σ hk hne => ?_) h fun E gh0 w0 vs0 gh σ a w n e hHd S hk => ?_
  · cases e with
    | normal => rfl
    | exit id => cases hk
    | ret => exact absurd rfl hne
  · have hk' : (resOf G fn.results.toList s.res σ fun vs σ' => boxesBack 0 (encP ps ds) (s.boxes.map (·.2)) σ' fun bs => s.dec ⟨vs, bs⟩) = some y := by
      cases e with
      | normal => exact hk
      | exit id => cases hk
      | ret => exact hk
    exact ret_sound hU hG hHd S (D := s.dec) (fun r hr => (Sig.enc_dec hr).symm) hk'
theorem entry_ok {L : (Nat → Prop) → World → Prop} {f : FuncId} {ps : List PM} {s : Sig} {F : Tup U.car (ptys ps) → Option (Tup U.car s.tys)} (hF : ∀ v y, F v = some y → CallOk P U L f (encA ps v) (s.boxes.map (·.2)) (s.enc y)) {as : List (Arg U)} {R : PRes U} (h : entry ps s F as = some R) :
    ∀ y, R.o = some y → CallOk P U L f as R.owns (R.enc y) := by
  unfold entry at h
  split at h
  case h_2 => cases h
  rename_i xs hxs
  split at h
  case h_2 => cases h
  rename_i v hv
  cases h
  intro y hy
  have := hF v y hy
  unfold encA at this
  rw [encT_decT _ _ _ hv, encP_decP _ _ _ hxs] at this
  exact this
theorem entry2_ok {L : (Nat → Prop) → World → Prop} {f : FuncId} {ps : List PM} {s u : Sig} {F : Tup U.car (ptys ps) → Option (Fl (Tup U.car s.tys) (Tup U.car u.tys))} (hF : ∀ v y, F v = some y → CallOk P U L f (encA ps v) (s.boxes.map (·.2)) (match y with | .go y => s.enc y | .ret y => u.enc y)) {as : List (Arg U)} {R : PRes2 U} (h : entry2 ps s u F as = some R) :
    (∀ y, R.o = some (.go y) → CallOk P U L f as R.owns (R.enc y)) ∧ ∀ y, R.o = some (.ret y) → CallOk P U L f as R.owns (R.enc2 y) := by
  unfold entry2 at h
  split at h
  case h_2 => cases h
  rename_i xs hxs
  split at h
  case h_2 => cases h
  rename_i v hv
  cases h
  constructor
  · intro y hy
    have := hF v _ hy
    unfold encA at this
    rw [encT_decT _ _ _ hv, encP_decP _ _ _ hxs] at this
    exact this
  · intro y hy
    have := hF v _ hy
    unfold encA at this
    rw [encT_decT _ _ _ hv, encP_decP _ _ _ hxs] at this
    exact this
end Go.Ev
end
section
namespace Go.Ev
variable {U : Univ} {P : Program}
def addO : Option Nat → Option Nat → Option Nat
  | some a, some b => some (a + b)
  | _, _ => none
def szC (U : Univ) : Nat → Ty → Option Nat
  | 0, _ => none
  | n + 1, t => match t with
    | .arr m e => (szC U n e).map (m * ·)
    | .st id => ((U.tys id).map (szC U n)).foldr addO (some 0)
    | _ => some 1
theorem szL_of {f : Ty → Option Nat} (hf : ∀ t k, f t = some k → Sz U t k) : ∀ (ts : List Ty) (k : Nat), (ts.map f).foldr addO (some 0) = some k → SzL U ts k
  | [], k, h => by
    simp only [List.map_nil, List.foldr_nil, Option.some.injEq] at h
    subst h
    exact .nil
  | t :: ts, k, h => by
    simp only [List.map_cons, List.foldr_cons] at h
    unfold addO at h
    split at h
    · rename_i a b ha hb
      cases h
      exact .cons (hf _ _ ha) (szL_of hf ts _ hb)
    · cases h
theorem szC_ok : ∀ (n : Nat) (t : Ty) (k : Nat), szC U n t = some k → Sz U t k
  | 0, _, _, h => by simp [szC] at h
  | n + 1, t, k, h => by
    cases t <;> simp only [szC, Option.some.injEq] at h
    · subst h; exact .int
    · subst h; exact .bool
    · subst h; exact .str
    · subst h; exact .sl
    · simp only [Option.map_eq_some_iff] at h
      obtain ⟨a, ha, rfl⟩ := h
      exact .arr (szC_ok n _ _ ha)
    · exact .st (szL_of (fun t k h => szC_ok n t k h) _ _ h)
def isSt : Ty → Bool
  | .st _ => true
  | _ => false
theorem ulaw_size {U : Univ} {n m : Nat} (h : (List.range m).all (fun id => (szC U n (.st id)).isSome) = true) (hz : ∀ id, m ≤ id → U.tys id = []) (id : Nat) : ∃ k, SzL U (U.tys id) k := by
  rcases Nat.lt_or_ge id m with hlt | hge
  · have h1 := List.all_eq_true.1 h id (List.mem_range.2 hlt)
    obtain ⟨k, hk⟩ := Option.isSome_iff_exists.1 h1
    cases szC_ok _ _ _ hk with
    | st h => exact ⟨k, h⟩
  · rw [hz id hge]
    exact ⟨0, .nil⟩
def ZAll (U : Univ) (l : List U.D) : Prop := ∀ d ∈ l, ∃ n, zeroD U n d.t = some d
theorem zall_nil : ZAll U [] := fun _ h => by cases h
theorem zall_cons {d : U.D} {l : List U.D} (n : Nat) (h : zeroD U n d.t = some d) (hl : ZAll U l) : ZAll U (d :: l) := fun _ hd => by
  cases hd with
  | head => exact ⟨n, h⟩
  | tail _ hd => exact hl _ hd
theorem as_ok {car : Nat → Type} {y : D car} {t : Ty} {z : t.den car} (h : y.as t = some z) : y = ⟨t, z⟩ := D.as_some h
def zOk (U : Univ) (t : Ty) (v : Value) (size : Nat) : Bool :=
  match t.isAgg, v with
  | true, .agg cs => (match zeroCells U deep t cs.toList with | some [] => true | _ => false) && cs.size == size
  | true, _ => false
  | false, v => (match zeroCells U deep t [v] with | some [] => true | _ => false) && v.cells.size == size
def infoChk (P : Program) (U : Univ) (T : TypeId) (t : Ty) : Bool :=
  match P.info? T with
  | some i => match P.underlying T with
    | some d => (aggD d == t.isAgg) && (szC U deep t == some i.size) && Nat.blt 0 i.size && (match i.zero with | some z => zOk U t z i.size | none => false)
    | none => false
  | none => false
theorem infoChk_ok {T : TypeId} {t : Ty} (h : infoChk P U T t = true) : Info P U T t := by
  unfold infoChk at h
  cases hi : P.info? T with
  | none => simp [hi] at h
  | some i => ?_
  cases hd : P.underlying T with
  | none => simp [hi, hd] at h
  | some d => ?_
  simp only [hi, hd, Bool.and_eq_true, beq_iff_eq, Nat.blt_eq] at h
  obtain ⟨⟨⟨h1, h2⟩, h3⟩, h4⟩ := h
  cases hz : i.zero with
  | none => simp [hz] at h4
  | some z => ?_
  simp only [hz] at h4
  unfold zOk at h4
  cases ha : t.isAgg with
  | true =>
    rw [ha] at h4
    cases z <;> simp only [Bool.false_eq_true, Bool.and_eq_true, beq_iff_eq] at h4
    rename_i cs
    obtain ⟨h4, h5⟩ := h4
    refine ⟨i, d, _, cs.toList, hi, hd, by rw [h1], szC_ok _ _ _ h2, h3, hz, by unfold VOf; rw [ha]; simp, ?_, h5⟩
    split at h4
    · assumption
    · cases h4
  | false =>
    rw [ha] at h4
    simp only [Bool.and_eq_true, beq_iff_eq] at h4
    obtain ⟨h4, h5⟩ := h4
    refine ⟨i, d, z, [z], hi, hd, by rw [h1], szC_ok _ _ _ h2, h3, hz, by unfold VOf; rw [ha]; simp, ?_, h5⟩
    split at h4
    · assumption
    · cases h4
def intChk (P : Program) (T : TypeId) (k : IntKind) : Bool :=
  match P.underlying T with
  | some (.int j) => decide (j = k)
  | _ => false
theorem intChk_ok {T : TypeId} {k : IntKind} (h : intChk P T k = true) : P.underlying T = some (.int k) := by
  unfold intChk at h
  split at h
  · rename_i j hj
    rw [hj, of_decide_eq_true h]
  · cases h
def fldChk (P : Program) (U : Univ) (chk : Field → Ty → Bool) : List Field → List Ty → Nat → Bool
  | [], [], _ => true
  | f :: fs, t :: ts, o => f.offset == o && infoChk P U f.type t && chk f t && (match szC U deep t with | some n => fldChk P U chk fs ts (o + n) | none => false)
  | _, _, _ => false
theorem szL_snoc : ∀ {ts : List Ty} {o n : Nat} {t : Ty}, SzL U ts o → Sz U t n → SzL U (ts ++ [t]) (o + n)
  | _, _, n, t, .nil, h => by simpa using SzL.cons h .nil
  | _, _, n, t, .cons (n := a) (m := b) h1 h2, h => by
    rw [Nat.add_assoc]
    exact .cons h1 (szL_snoc h2 h)
theorem fldChk_ok {chk : Field → Ty → Bool} : ∀ (fs : List Field) (ts pre : List Ty) (o : Nat), SzL U pre o → fldChk P U chk fs ts o = true →
    fs.length = ts.length ∧ ∀ j f, fs[j]? = some f → ∃ t, ts[j]? = some t ∧ SzL U (pre ++ ts.take j) f.offset ∧ Info P U f.type t ∧ chk f t = true
  | [], [], pre, o, hp, h => ⟨rfl, fun j f hj => by simp at hj⟩
  | [], _ :: _, pre, o, hp, h => by simp [fldChk] at h
  | _ :: _, [], pre, o, hp, h => by simp [fldChk] at h
  | f :: fs, t :: ts, pre, o, hp, h => by
    simp only [fldChk, Bool.and_eq_true, beq_iff_eq] at h
    obtain ⟨⟨⟨h1, h2⟩, h3⟩, h4⟩ := h
    cases hn : szC U deep t with
    | none => simp [hn] at h4
    | some n => ?_
    simp only [hn] at h4
    obtain ⟨g1, g2⟩ := fldChk_ok fs ts (pre ++ [t]) (o + n) (szL_snoc hp (szC_ok _ _ _ hn)) h4
    refine ⟨by simp [g1], fun j f' hj => ?_⟩
    cases j with
    | zero =>
      simp only [List.getElem?_cons_zero, Option.some.injEq] at hj
      subst hj
      exact ⟨t, rfl, by simpa [h1] using hp, infoChk_ok h2, h3⟩
    | succ j =>
      obtain ⟨u, q1, q2, q3, q4⟩ := g2 j f' (by simpa using hj)
      exact ⟨u, by simpa using q1, by simpa [List.append_assoc] using q2, q3, q4⟩
def shapeChk (P : Program) (U : Univ) (T : TypeId) : Ty → Bool
  | .int k => intChk P T k
  | .bool => (match P.underlying T with | some .bool => true | _ => false)
  | .str => (match P.underlying T with | some .string => true | _ => false)
  | .sl e => match P.underlying T with
    | some (.slice E) => infoChk P U E e && (match e with | .int k => intChk P E k | _ => true)
    | _ => false
  | .arr m e => match P.underlying T with
    | some (.array n E) => (n == m) && infoChk P U E e
    | _ => false
  | .st id => match P.underlying T with
    | some (.struct fs) => fldChk P U (fun _ _ => true) fs.toList (U.tys id) 0
    | _ => false
theorem shapeChk_ok {T : TypeId} {t : Ty} (h : shapeChk P U T t = true) : Shape P U T t := by
  cases t with
  | int k => exact intChk_ok h
  | bool => simp only [shapeChk] at h; split at h <;> first | assumption | cases h
  | str => simp only [shapeChk] at h; split at h <;> first | assumption | cases h
  | sl e =>
    simp only [shapeChk] at h
    split at h
    · rename_i E hE
      simp only [Bool.and_eq_true] at h
      refine ⟨E, hE, infoChk_ok h.1, fun k hk => ?_⟩
      subst hk
      exact intChk_ok h.2
    · cases h
  | arr m e =>
    simp only [shapeChk] at h
    split at h
    · rename_i n E hE
      simp only [Bool.and_eq_true, beq_iff_eq] at h
      obtain ⟨rfl, h⟩ := h
      exact ⟨E, hE, infoChk_ok h⟩
    · cases h
  | st id =>
    simp only [shapeChk] at h
    split at h
    · rename_i fs hfs
      obtain ⟨h1, h2⟩ := fldChk_ok _ _ [] 0 .nil h
      refine ⟨fs, hfs, by simpa using h1, fun j f hj => ?_⟩
      obtain ⟨t, q1, q2, q3, _⟩ := h2 j f (by simpa using hj)
      exact ⟨t, q1, by simpa using q2, q3⟩
    · cases h
def eqChk (P : Program) (U : Univ) : Nat → TypeId → Ty → Bool
  | 0, _, _ => false
  | n + 1, T, t => match t with
    | .int k => intChk P T k
    | .bool => (match P.underlying T with | some .bool => true | _ => false)
    | .str => (match P.underlying T with | some .string => true | _ => false)
    | .st id => !P.stoodInHeld T && match P.underlying T with
      | some (.struct fs) => fldChk P U (fun f t => f.name != "_" && eqChk P U n f.type t) fs.toList (U.tys id) 0
      | _ => false
    | _ => false
theorem eqChk_ok : ∀ (n : Nat) (T : TypeId) (t : Ty), eqChk P U n T t = true → EqOk P U n T t
  | 0, _, _, h => by simp [eqChk] at h
  | n + 1, T, t, h => by
    cases t with
    | int k => exact intChk_ok h
    | bool => simp only [eqChk] at h; simp only [EqOk]; split at h <;> first | assumption | cases h
    | str => simp only [eqChk] at h; simp only [EqOk]; split at h <;> first | assumption | cases h
    | sl e => simp [eqChk] at h
    | arr m e => simp [eqChk] at h
    | st id =>
      simp only [eqChk, Bool.and_eq_true, Bool.not_eq_true'] at h
      obtain ⟨h0, h⟩ := h
      simp only [EqOk]
      refine ⟨h0, ?_⟩
      split at h
      · rename_i fs hfs
        obtain ⟨h1, h2⟩ := fldChk_ok _ _ [] 0 .nil h
        refine ⟨fs, hfs, by simpa using h1, fun j f hj => ?_⟩
        obtain ⟨t, q1, q2, q3, q4⟩ := h2 j f (by simpa using hj)
        simp only [Bool.and_eq_true, bne_iff_ne, ne_eq] at q4
        exact ⟨q4.1, t, q1, by simpa using q2, q3, eqChk_ok n _ _ q4.2⟩
      · cases h
def bytesChk (P : Program) (T : TypeId) (n : Nat) : Bool :=
  match P.underlying T with
  | some (.slice E) => match P.info? E with
    | some i => i.bytes == n && Nat.blt 0 i.size && Nat.ble i.size 4096 && Nat.blt 0 n
    | none => false
  | _ => false
theorem bytesChk_ok {T : TypeId} {n : Nat} (h : bytesChk P T n = true) : ∃ E i, P.underlying T = some (.slice E) ∧ P.info? E = some i ∧ i.bytes = n ∧ 0 < i.size ∧ i.size ≤ 4096 ∧ 0 < n := by
  unfold bytesChk at h
  split at h
  · rename_i E hE
    split at h
    · rename_i i hi
      simp only [Bool.and_eq_true, beq_iff_eq, Nat.blt_eq, Nat.ble_eq] at h
      exact ⟨E, i, hE, hi, h.1.1.1, h.1.1.2, h.1.2, h.2⟩
    · cases h
  · cases h
theorem lk_mem {α : Type} : ∀ (l : List (Nat × α)) (n : Nat) (x : α), lk l n = some x → (n, x) ∈ l
  | [], n, x, h => by simp [lk, lookup] at h
  | (k, v) :: r, n, x, h => by
    simp only [lk, List.map_cons, lookup, beq_iff_eq] at h
    split at h
    · rename_i hk
      cases h
      subst hk
      exact List.mem_cons_self
    · exact List.mem_cons_of_mem _ (lk_mem r n x h)
def tyChk (P : Program) (U : Univ) (T : TypeId) (t : Ty) : Bool :=
  infoChk P U T t && shapeChk P U T t && (match t with
    | .st id => !eqTy U deep (.st id) || (!P.eqGuardType P.depth T && eqChk P U deep T (.st id))
    | _ => true)
theorem gOk {G : Ctx U} {tl : List (Nat × Ty)} {bl : List (Nat × Nat)} (ht : tl.all (fun p => tyChk P U p.1 p.2) = true) (hb : bl.all (fun p => bytesChk P p.1 p.2) = true) (h1 : G.ty = lk tl) (h2 : G.bytes = lk bl) : GOk P U G := by
  have hT : ∀ T t, G.ty T = some t → tyChk P U T t = true := fun T t h => List.all_eq_true.1 ht _ (lk_mem _ _ _ (h1 ▸ h))
  refine ⟨fun T t h => ?_, fun T n h => ?_, fun T id h he => ?_⟩
  · have := hT T t h
    simp only [tyChk, Bool.and_eq_true] at this
    exact ⟨infoChk_ok this.1.1, shapeChk_ok this.1.2⟩
  · exact bytesChk_ok (List.all_eq_true.1 hb _ (lk_mem _ _ _ (h2 ▸ h)))
  · have := hT T _ h
    simp only [tyChk, Bool.and_eq_true, he, Bool.not_true, Bool.false_or, Bool.not_eq_true'] at this
    exact ⟨this.2.1, eqChk_ok _ _ _ this.2.2⟩
def LoopOk (G : Ctx U) (H : Hint U) (q : Nat) (c : Code) : Prop :=
  (∀ L, H.loop q = some L → ∀ v x, L.imp v = some x → ∃ n, loopT G H c q L n v = some x) ∧ (∀ L, H.loop q = none → H.loopR q = some L → ∀ v x, L.imp v = some x → ∃ n, loopRT G H c q L n v = some x)
def LoopsAll (G : Ctx U) (H : Hint U) : List (Nat × Code) → Prop
  | [] => True
  | p :: ps => LoopOk G H p.1 p.2 ∧ LoopsAll G H ps
theorem LoopsAll.mem {G : Ctx U} {H : Hint U} : ∀ {l : List (Nat × Code)}, LoopsAll G H l → ∀ p ∈ l, LoopOk G H p.1 p.2
  | _ :: _, h, _, .head _ => h.1
  | _ :: _, h, _, .tail _ hp => LoopsAll.mem h.2 _ hp
def loopsOf (H : Nat → Bool) : Code → Nat → List (Nat × Code)
  | .seq a b, q => loopsOf H a (2 * q) ++ loopsOf H b (2 * q + 1)
  | .cond _ a b, q => loopsOf H a (2 * q) ++ loopsOf H b (2 * q + 1)
  | .block _ c, q => loopsOf H c (2 * q)
  | .scope c, q => loopsOf H c (2 * q)
  | .loop c, q => if H q then (q, c) :: loopsOf H c (2 * q) else loopsOf H c (2 * q)
  | _, _ => []
theorem loopsOk_of {G : Ctx U} {H : Hint U} {B : Nat → Bool} (hB : ∀ q, B q = false → H.loop q = none ∧ H.loopR q = none) : ∀ (c : Code) (q : Nat), (∀ p ∈ loopsOf B c q, LoopOk G H p.1 p.2) → LoopsOk G H c q
  | .seq a b, q, h => ⟨loopsOk_of hB a _ fun p hp => h p (List.mem_append_left _ hp), loopsOk_of hB b _ fun p hp => h p (List.mem_append_right _ hp)⟩
  | .cond _ a b, q, h => ⟨loopsOk_of hB a _ fun p hp => h p (List.mem_append_left _ hp), loopsOk_of hB b _ fun p hp => h p (List.mem_append_right _ hp)⟩
  | .block _ c, q, h => loopsOk_of hB c _ h
  | .scope c, q, h => loopsOk_of hB c _ h
  | .loop c, q, h => by
    simp only [loopsOf] at h
    cases hb : B q with
    | true =>
      rw [hb] at h
      exact ⟨loopsOk_of hB c _ fun p hp => h p (List.mem_cons_of_mem _ hp), h (q, c) List.mem_cons_self⟩
    | false =>
      rw [hb] at h
      obtain ⟨h1, h2⟩ := hB q hb
      exact ⟨loopsOk_of hB c _ h, fun L e => (by rw [h1] at e; cases e), fun L _ e => (by rw [h2] at e; cases e)⟩
  | .ret, _, _ => by unfold LoopsOk; trivial
  | .exit _, _, _ => by unfold LoopsOk; trivial
  | .region _ _ _, _, _ => by unfold LoopsOk; trivial
  | .skip, _, _ => by unfold LoopsOk; trivial
  | .rangeFunc .., _, _ => by unfold LoopsOk; trivial
  | .label _, _, _ => by unfold LoopsOk; trivial
  | .goto _, _, _ => by unfold LoopsOk; trivial
  | .refuse _, _, _ => by unfold LoopsOk; trivial
theorem loops_of {G : Ctx U} {H : Hint U} {c : Code} {ps : List (Nat × Code)} (h : loopsOf (fun q => (H.loop q).isSome || (H.loopR q).isSome) c 1 = ps) (hp : LoopsAll G H ps) : LoopsOk G H c 1 := by
  refine loopsOk_of (B := fun q => (H.loop q).isSome || (H.loopR q).isSome) (fun q hq => ?_) c 1 fun p hm => (h ▸ hp).mem p hm
  simpa using hq
theorem loopT_ok {G : Ctx U} {H : Hint U} {q : Nat} {c : Code} {L : ELoop U} (h1 : H.loop q = some L) (h : ∀ v x, L.imp v = some x → ∃ n, loopT G H c q L n v = some x) : LoopOk G H q c :=
  ⟨fun L' h' => by rw [h1] at h'; cases h'; exact h, fun L' h' => by rw [h1] at h'; cases h'⟩
theorem loopR_ok {G : Ctx U} {H : Hint U} {q : Nat} {c : Code} {L : ELoopR U} (h0 : H.loop q = none) (h1 : H.loopR q = some L) (h : ∀ v x, L.imp v = some x → ∃ n, loopRT G H c q L n v = some x) : LoopOk G H q c :=
  ⟨fun L' h' => (by rw [h0] at h'; cases h'), fun L' _ h' => (by rw [h1] at h'; cases h'; exact h)⟩
def CallC (P : Program) (U : Univ) (L : (Nat → Prop) → World → Prop) (A : Option (PRes U)) (f : FuncId) (xs : List (Arg U)) : Prop := ∀ R, A = some R → ∀ y, R.o = some y → CallOk P U L f xs R.owns (R.enc y)
def CallC2 (P : Program) (U : Univ) (L : (Nat → Prop) → World → Prop) (A : Option (PRes2 U)) (f : FuncId) (xs : List (Arg U)) : Prop :=
  ∀ R, A = some R → (∀ y, R.o = some (.go y) → CallOk P U L f xs R.owns (R.enc y)) ∧ ∀ y, R.o = some (.ret y) → CallOk P U L f xs R.owns (R.enc2 y)
section
variable {L : (Nat → Prop) → World → Prop} {xs : List (Arg U)} {f n : Nat}
theorem CallC.none : CallC P U L none f xs := fun _ h => by cases h
theorem CallC2.none : CallC2 P U L none f xs := fun _ h => by cases h
theorem CallC.ite {A B : Option (PRes U)} (hA : CallC P U L A n xs) (hB : CallC P U L B f xs) : CallC P U L (if f == n then A else B) f xs := by
  split
  · rename_i h
    have h := (beq_iff_eq).1 h
    subst h
    exact hA
  · exact hB
theorem CallC2.ite {A B : Option (PRes2 U)} (hA : CallC2 P U L A n xs) (hB : CallC2 P U L B f xs) : CallC2 P U L (if f == n then A else B) f xs := by
  split
  · rename_i h
    have h := (beq_iff_eq).1 h
    subst h
    exact hA
  · exact hB
def FnC (P : Program) (U : Univ) (L : (Nat → Prop) → World → Prop) (f : FuncId) (ps : List PM) (s : Sig) (F : Tup U.car (ptys ps) → Option (Tup U.car s.tys)) : Prop :=
  ∀ v y, F v = some y → CallOk P U L f (encA ps v) (s.boxes.map (·.2)) (s.enc y)
def FnC2 (P : Program) (U : Univ) (L : (Nat → Prop) → World → Prop) (f : FuncId) (ps : List PM) (s u : Sig) (F : Tup U.car (ptys ps) → Option (Fl (Tup U.car s.tys) (Tup U.car u.tys))) : Prop :=
  ∀ v y, F v = some y → CallOk P U L f (encA ps v) (s.boxes.map (·.2)) (match y with | .go y => s.enc y | .ret y => u.enc y)
theorem CallC.entry {ps : List PM} {s : Sig} {F : Tup U.car (ptys ps) → Option (Tup U.car s.tys)} (h : FnC P U L f ps s F) : CallC P U L (Ev.entry ps s F xs) f xs := fun _ hR => entry_ok h hR
theorem CallC2.entry {ps : List PM} {s u : Sig} {F : Tup U.car (ptys ps) → Option (Fl (Tup U.car s.tys) (Tup U.car u.tys))} (h : FnC2 P U L f ps s u F) : CallC2 P U L (entry2 ps s u F xs) f xs := fun _ hR => entry2_ok h hR
structure Fns (P : Program) (f : FuncId) (fn : Func) (ps : List PM) : Prop where
  hfn : P.funcs[f]? = some fn
  hchk : (!(fn.name == "runtime.NumGoroutine") && fn.body.isSome && dstsOk fn.ntmps (bxP ps) (bodyOf fn) && Nat.ble ps.length 100000 && Nat.ble ps.length fn.ntmps) = true
theorem Fns.ok {fn : Func} {ps : List PM} (h : Fns P f fn ps) : FnOk P f fn ps := by
  have := h.hchk
  simp only [Bool.and_eq_true, Bool.not_eq_true', Nat.ble_eq] at this
  exact ⟨h.hfn, this.1.1.1.1, this.1.1.1.2, this.1.1.2, this.1.2, this.2⟩
theorem fnC {G : Ctx U} {H : Hint U} (hL : LMono L) (hU : ULaw U) (hG : GOk P U G) (h1 : ∀ f xs, CallC P U L (G.call f xs) f xs) (h2 : ∀ f xs, CallC2 P U L (G.call2 f xs) f xs) {fn : Func} {ps : List PM} (hf : Fns P f fn ps) (hH : LoopsOk G H (bodyOf fn) 1) {s : Sig} {F : Tup U.car (ptys ps) → Option (Tup U.car s.tys)}
    (h : ∀ v, evFn G H s fn (encA ps v) = F v) : FnC P U L f ps s F := fun v _ hy =>
  evFn_call hL hU hG ⟨fun f xs => h1 f xs, fun f xs => h2 f xs⟩ hf.ok hH ((h v).trans hy)
end
end Go.Ev
end
section
namespace Go.Ev
variable {U : Univ} {P : Program}
def hasRd (tl : List (Nat × Ty)) (T : TypeId) (t : Ty) : Bool := tl.any fun p => p.1 == T && p.2.beq t
theorem hasRd_mem {tl : List (Nat × Ty)} {T : TypeId} {t : Ty} (h : hasRd tl T t = true) : (T, t) ∈ tl := by
  obtain ⟨p, hp, h⟩ := List.any_eq_true.1 h
  simp only [Bool.and_eq_true, beq_iff_eq] at h
  have := Ty.beq_eq h.2
  rwa [← h.1, ← this]
def rdChk (P : Program) (U : Univ) (tl : List (Nat × Ty)) (T : TypeId) : Ty → Bool
  | .sl e => (match P.underlying T with | some (.slice E) => hasRd tl E e | _ => false)
  | .arr _ e => (match P.underlying T with | some (.array _ E) => hasRd tl E e | _ => false)
  | .st id => (match P.underlying T with | some (.struct fs) => fldChk P U (fun f t => hasRd tl f.type t) fs.toList (U.tys id) 0 | _ => false)
  | _ => true
theorem Sz.of {t : Ty} {n m : Nat} (h : Sz U t n) (e : n = m) : Sz U t m := e ▸ h
theorem repL_of {F : Nat → Prop} {w : World} {cs : List Value} : ∀ (Q : Nat → U.D → Prop) (ts pre : List Ty) (o N : Nat), SzL U pre o →
    (∀ j t, ts[j]? = some t → ∃ off n, SzL U (pre ++ ts.take j) off ∧ Sz U t n ∧ ∃ x : t.den U.car, Rep U F w ⟨t, x⟩ ((cs.drop off).take n) ∧ Q j ⟨t, x⟩) → SzL U ts N → ∃ ds : List U.D, ds.map D.t = ts ∧ RepL U F w ds ((cs.drop o).take N) ∧ ∀ (j : Nat) d, ds[j]? = some d → Q j d
  | Q, [], pre, o, N, hp, h, hN => by
    cases hN
    exact ⟨[], rfl, by simpa using RepL.nil, fun j d h => by simp at h⟩
  | Q, t :: ts, pre, o, N, hp, h, hN => by
    cases hN with
    | cons h1 h2 =>
      rename_i n m
      obtain ⟨off, k, g1, g2, x, hx, hQ⟩ := h 0 t rfl
      have e1 : off = o := by simpa using g1.uniq (by simpa using hp)
      have e2 : k = n := g2.uniq h1
      subst e1 e2
      obtain ⟨ds, q1, q2, q3⟩ := repL_of (fun j d => Q (j + 1) d) ts (pre ++ [t]) (off + k) m (szL_snoc hp h1) (fun j u hj => by
        obtain ⟨of', n', r1, r2, r3⟩ := h (j + 1) u (by simpa using hj)
        exact ⟨of', n', by simpa [List.append_assoc] using r1, r2, r3⟩) h2
      refine ⟨⟨t, x⟩ :: ds, by simp [q1], ?_, fun j d hj => ?_⟩
      · rw [List.take_add, List.drop_drop]
        exact .cons hx q2
      · cases j with
        | zero =>
          simp only [List.getElem?_cons_zero, Option.some.injEq] at hj
          subst hj
          exact hQ
        | succ j => exact q3 j d (by simpa using hj)
theorem repeat_of {e : Ty} : ∀ (m : Nat) (ds : List U.D), ds.map D.t = List.replicate m e → ∃ l : List (e.den U.car), l.length = m ∧ ds = l.map (D.mk e)
  | 0, ds, h => by
    cases ds with
    | nil => exact ⟨[], rfl, rfl⟩
    | cons _ _ => simp at h
  | m + 1, ds, h => by
    cases ds with
    | nil => simp [List.replicate_succ] at h
    | cons d ds =>
      obtain ⟨t, x⟩ := d
      simp only [List.map_cons, List.replicate_succ, List.cons.injEq] at h
      obtain ⟨rfl, h⟩ := h
      obtain ⟨l, h1, rfl⟩ := repeat_of m ds h
      exact ⟨x :: l, by simp [h1], rfl⟩
theorem szL_replicate {e : Ty} {n : Nat} (h : Sz U e n) : ∀ m, SzL U (List.replicate m e) (m * n)
  | 0 => by simpa using SzL.nil
  | m + 1 => by
    rw [List.replicate_succ, Nat.succ_mul, Nat.add_comm]
    exact .cons h (szL_replicate h m)
theorem cellsOf_info {T : TypeId} {t : Ty} (h : Info P U T t) : Sz U t (P.cellsOf T) ∧ 0 < P.cellsOf T := by
  obtain ⟨i, d, z, cs, h1, h2, h3, h4, h5, _⟩ := h
  have : P.cellsOf T = i.size := by simp [Program.cellsOf, h1]
  rw [this]
  exact ⟨h4, h5⟩
mutual
inductive DB (U : Univ) : Nat → U.D → Prop
  | int {N : Nat} {k : IntKind} {n : Int} : fitInt k n → 1 ≤ N → DB U N ⟨.int k, n⟩
  | bool {N : Nat} {b : Bool} : 1 ≤ N → DB U N ⟨.bool, b⟩
  | str {N : Nat} {s : ByteArray} : s.size + 1 ≤ N → DB U N ⟨.str, s⟩
  | sl {M N : Nat} {e : Ty} {l : List (e.den U.car)} : DBL U M (l.map (D.mk e)) → M + 1 ≤ N → DB U N ⟨.sl e, l⟩
  | arr {M N m : Nat} {e : Ty} {l : List (e.den U.car)} : DBL U M (l.map (D.mk e)) → M + 1 ≤ N → DB U N ⟨.arr m e, l⟩
  | st {M N id : Nat} {x : U.car id} : DBL U M (U.get id x) → M + 1 ≤ N → DB U N ⟨.st id, x⟩
inductive DBL (U : Univ) : Nat → List U.D → Prop
  | nil {N : Nat} : DBL U N []
  | cons {a b N : Nat} {d : U.D} {ds : List U.D} : DB U a d → DBL U b ds → a + b ≤ N → DBL U N (d :: ds)
end
def sumB {H : Type} (B : DataW H → Nat) : List (DataW H) → Nat
  | [] => 0
  | d :: r => B d + sumB B r
structure BulkOk {H : Type} (B : DataW H → Nat) : Prop where
  lit : ∀ l, 1 ≤ B (.lit l)
  str : ∀ bytes : List UInt8, bytes.length + 1 ≤ B (.lit (.string bytes))
  nil : 1 ≤ B .nil
  slice : ∀ es rs, sumB B es + 1 ≤ B (.slice es rs)
  agg : ∀ es, sumB B es + 1 ≤ B (.agg es)
theorem dbl_of {H : Type} {B : DataW H → Nat} : ∀ (es : List (DataW H)) (ds : List U.D), ds.length = es.length → (∀ (j : Nat) d e, ds[j]? = some d → es[j]? = some e → DB U (B e) d) → DBL U (sumB B es) ds
  | _, [], _, _ => .nil
  | [], _ :: _, h, _ => by simp at h
  | e :: es, d :: ds, h, hd => .cons (hd 0 d e rfl rfl) (dbl_of es ds (by simpa using h) fun j d' e' h1 h2 => hd (j + 1) d' e' (by simpa using h1) (by simpa using h2)) (Nat.le_refl _)
structure RdOk (P : Program) (U : Univ) (tl : List (Nat × Ty)) : Prop where
  ty : tl.all (fun p => tyChk P U p.1 p.2 && rdChk P U tl p.1 p.2) = true
  build : ∀ id ds, ds.map D.t = U.tys id → U.tys id ≠ [] → ∃ x, U.get id x = ds
theorem RdOk.at {tl : List (Nat × Ty)} (h : RdOk P U tl) {T : TypeId} {t : Ty} (hm : (T, t) ∈ tl) : Info P U T t ∧ Shape P U T t ∧ rdChk P U tl T t = true := by
  have := List.all_eq_true.1 h.ty _ hm
  simp only [tyChk, Bool.and_eq_true] at this
  exact ⟨infoChk_ok this.1.1.1, shapeChk_ok this.1.1.2, this.2⟩
theorem add_add0 {a : Addr} (h : a.spot = none) (i j : Nat) : (a.add i).add j = a.add (i + j) := by
  unfold Addr.add
  by_cases hi : i = 0 <;> by_cases hj : j = 0 <;> simp [hi, hj, Nat.add_assoc]
section
variable {H : Type} {enc : TypeId × Value → H} {W : World} {sp : Nat → Bool} {held : Bool}
theorem trod_db {B : DataW H → Nat} (hB : BulkOk B) {tl : List (Nat × Ty)} (hR : RdOk P U tl) {F : Nat → Prop} (hF : ∀ b, b < W.heap.size → F b) : ∀ (fuel : Nat) (T : TypeId) (t : Ty) (cs : List Value) (x : DataW H × List MemPlace), (T, t) ∈ tl → DataW.trod enc P W 0 sp held fuel T cs = some x → ∃ y : t.den U.car, Rep U F W ⟨t, y⟩ cs ∧ DB U (B x.1) ⟨t, y⟩
  | 0, T, t, cs, x, _, h => by simp [DataW.trod] at h
  | fuel + 1, T, t, cs, x, hm, h => by
    obtain ⟨hi, hs, hc⟩ := hR.at hm
    cases t with
    | int k =>
      obtain ⟨n, rfl, rfl, hw⟩ := DataW.trod_int hs h
      have hw : fitInt k n := by simpa [Lit.wf, fitInt] using hw
      exact ⟨(n : Int), .int hw, .int hw (hB.lit _)⟩
    | bool =>
      obtain ⟨b, rfl, rfl⟩ := DataW.trod_bool hs h
      exact ⟨b, .bool, .bool (hB.lit _)⟩
    | str =>
      obtain ⟨s, rfl, rfl, hw⟩ := DataW.trod_string hs h
      exact ⟨s, .str hw, .str (by simpa using hB.str s.data.toList)⟩
    | sl e =>
      obtain ⟨E, hE, hIE, _⟩ := hs
      have hmE : (E, e) ∈ tl := by
        simp only [rdChk, hE] at hc
        exact hasRd_mem hc
      obtain ⟨hz, hpos⟩ := cellsOf_info hIE
      rcases DataW.trod_slice hE h with ⟨rfl, rfl⟩ | ⟨a, len, cap, elems, rest, n, hn, rfl, rfl, _, hl, hcap, hel, hat, _⟩
      · exact ⟨([] : List (e.den U.car)), rep_nil e, .sl (M := 0) .nil hB.nil⟩
      · cases hn
        generalize hcE : P.cellsOf E = c at *
        have hcell : ∀ i, i < len → ∃ ci y, W.cells? 0 (a.add (i * c)) c = some ci ∧ DataW.trod enc P W 0 sp held fuel E ci = some y ∧ elems[i]? = some y := by
          intro i hi
          have h1 := hat i hi
          rw [show elems[i]? = some elems[i] from List.getElem?_eq_getElem (by omega)] at h1
          obtain ⟨ci, h2, h3⟩ := Option.bind_eq_some_iff.1 h1
          exact ⟨ci, _, h2, h3, List.getElem?_eq_getElem (by omega)⟩
        have hspot : 0 < len → a.spot = none := by
          intro hp
          obtain ⟨ci, y, h1, _⟩ := hcell 0 hp
          unfold World.cells? at h1
          simp only [Nat.zero_le, if_true, Nat.zero_mul] at h1
          have := mapM_some_get h1 0 0 (by simp [hpos])
          rw [add_zero, add_zero] at this
          have hlen := mapM_some_length h1
          cases hsp : a.spot with
          | none => rfl
          | some q =>
            exfalso
            have hc0 : 0 < ci.length := by rw [hlen]; simpa using hpos
            rw [List.getElem?_eq_getElem hc0] at this
            unfold World.cell? at this
            rw [hsp] at this
            simp only [Option.isSome_some, if_true] at this
            split at this <;> cases this
        let all : List Value := (List.range (len * c)).map fun j => (W.cell? (a.add j)).getD Go.undef
        have hci : ∀ i, i < len → ∀ ci, W.cells? 0 (a.add (i * c)) c = some ci → ci.length = c ∧ ∀ j, j < c → ∃ v, ci[j]? = some v ∧ W.cell? (a.add (i * c + j)) = some v := by
          intro i hi ci h1
          unfold World.cells? at h1
          simp only [Nat.zero_le, if_true] at h1
          have hlen := mapM_some_length h1
          simp only [List.length_range] at hlen
          refine ⟨hlen, fun j hj => ?_⟩
          have h2 := mapM_some_get h1 j j (by simp [hj])
          rw [add_add0 (hspot (by omega))] at h2
          exact ⟨ci[j]'(by omega), List.getElem?_eq_getElem (by omega), by rw [h2]; exact List.getElem?_eq_getElem (by omega)⟩
        have hseg : ∀ i, i < len → ∀ ci, W.cells? 0 (a.add (i * c)) c = some ci → (all.drop (i * c)).take c = ci := by
          intro i hi ci h1
          obtain ⟨g1, g2⟩ := hci i hi ci h1
          refine List.ext_getElem? fun j => ?_
          rcases Nat.lt_or_ge j c with hj | hj
          · obtain ⟨v, e1, e2⟩ := g2 j hj
            rw [e1, List.getElem?_take_of_lt hj, List.getElem?_drop]
            have : i * c + j < len * c := by
              have : i * c + c ≤ len * c := by rw [← Nat.succ_mul]; exact Nat.mul_le_mul_right _ hi
              omega
            simp [all, this, e2]
          · rw [List.getElem?_eq_none (by simp; omega), List.getElem?_eq_none (by omega)]
        obtain ⟨ds, hd1, hd2, hd3⟩ := repL_of (U := U) (F := F) (w := W) (cs := all) (fun j d => ∀ y, (elems.map (·.1))[j]? = some y → DB U (B y) d) (List.replicate len e) [] 0 (len * c) .nil (fun j t hj => by
          obtain ⟨hjl, rfl⟩ : j < len ∧ e = t := by
            have := List.getElem?_replicate (n := len) (a := e) (i := j)
            rw [this] at hj
            split at hj
            · exact ⟨by assumption, Option.some.inj hj⟩
            · cases hj
          obtain ⟨ci, y, q1, q2, q3⟩ := hcell j hjl
          obtain ⟨x, hx, hxd⟩ := trod_db hB hR hF fuel E e ci y hmE q2
          refine ⟨j * c, c, ?_, hz, x, by rw [hseg j hjl ci q1]; exact hx, fun z hz => by
            rw [List.getElem?_map, q3] at hz
            cases hz
            exact hxd⟩
          simp only [List.nil_append, List.take_replicate]
          rw [Nat.min_eq_left (Nat.le_of_lt hjl)]
          exact szL_replicate hz j) (szL_replicate hz len)
        obtain ⟨l, hl1, rfl⟩ := repeat_of len ds hd1
        have hall : (all.drop 0).take (len * c) = all := by
          rw [List.drop_zero]
          exact List.take_of_length_le (by simp [all])
        rw [hall] at hd2
        subst hl1
        refine ⟨l, .sl (ad := a) hd2 (fun hne => ?_) hl hcap, .sl (dbl_of (elems.map (·.1)) _ (by simp [hel]) fun j d z h1 h2 => hd3 j d h1 z h2) (hB.slice _ _)⟩
        have hp : 0 < l.length := List.length_pos_iff.2 hne
        have hcells : Cells W a all := by
          intro j v hj
          have hlt : j < l.length * c := by
            have := getElem?_lt hj
            simpa [all] using this
          have hdiv : j / c < l.length := Nat.div_lt_of_lt_mul (by rwa [Nat.mul_comm])
          obtain ⟨ci, y, q1, _, _⟩ := hcell (j / c) hdiv
          obtain ⟨v', e1, e2⟩ := (hci _ hdiv ci q1).2 (j % c) (Nat.mod_lt _ hpos)
          have hjj : j / c * c + j % c = j := by rw [Nat.mul_comm]; exact Nat.div_add_mod j c
          rw [hjj] at e2
          simp [all, hlt, e2] at hj
          rw [e2, hj]
        refine ⟨rfl, hspot hp, hF _ ?_, hcells⟩
        have h0 : all[0]? ≠ none := by
          simp only [ne_eq, List.getElem?_eq_none_iff, all, List.length_map, List.length_range]
          have := Nat.mul_pos hp hpos
          omega
        obtain ⟨v, hv⟩ := Option.ne_none_iff_exists'.1 h0
        have := hcells 0 v hv
        rw [add_zero] at this
        unfold World.cell? at this
        cases hh : W.heap[a.block]? with
        | none => rw [hh] at this; cases this
        | some o => exact getElem?_lt (by simpa using hh)
    | arr m e =>
      obtain ⟨E, hE, hIE⟩ := hs
      have hmE : (E, e) ∈ tl := by
        simp only [rdChk, hE] at hc
        exact hasRd_mem hc
      obtain ⟨hz, _⟩ := cellsOf_info hIE
      obtain ⟨hzT, _⟩ := cellsOf_info hi
      obtain ⟨xs, n, hn, rfl, hcl, hxl, hat⟩ := DataW.trod_array hE h
      cases hn
      have hN : P.cellsOf T = m * P.cellsOf E := by
        generalize P.cellsOf T = N at hzT
        cases hzT with | arr h => rw [h.uniq hz]
      obtain ⟨ds, hd1, hd2, hd3⟩ := repL_of (U := U) (F := F) (w := W) (cs := cs) (fun j d => ∀ y, (xs.map (·.1))[j]? = some y → DB U (B y) d) (List.replicate m e) [] 0 (m * P.cellsOf E) .nil (fun j t hj => by
        obtain ⟨hjl, rfl⟩ : j < m ∧ e = t := by
          rw [List.getElem?_replicate] at hj
          split at hj
          · exact ⟨by assumption, Option.some.inj hj⟩
          · cases hj
        have hj' := hat j hjl
        rw [show xs[j]? = some xs[j] from List.getElem?_eq_getElem (by omega)] at hj'
        obtain ⟨x, hx, hxd⟩ := trod_db hB hR hF fuel E e _ _ hmE hj'
        refine ⟨j * P.cellsOf E, P.cellsOf E, ?_, hz, x, hx, fun z hz => by
          rw [List.getElem?_map, List.getElem?_eq_getElem (by omega)] at hz
          cases hz
          exact hxd⟩
        simp only [List.nil_append, List.take_replicate]
        rw [Nat.min_eq_left (Nat.le_of_lt hjl)]
        exact szL_replicate hz j) (szL_replicate hz m)
      obtain ⟨l, hl1, rfl⟩ := repeat_of m ds hd1
      refine ⟨l, .arr ?_ hl1, .arr (dbl_of (xs.map (·.1)) _ (by simp [hl1, hxl]) fun j d z h1 h2 => hd3 j d h1 z h2) (hB.agg _)⟩
      rw [List.drop_zero, List.take_of_length_le (by omega)] at hd2
      exact hd2
    | st id =>
      obtain ⟨fs, hfs, hlen, hflds⟩ := hs
      simp only [rdChk, hfs] at hc
      obtain ⟨_, hrd⟩ := fldChk_ok _ _ [] 0 .nil hc
      obtain ⟨hz, hpos⟩ := cellsOf_info hi
      obtain ⟨xs, n, hn, rfl, hcl, hxl, hat⟩ := DataW.trod_struct hfs h
      cases hn
      have hzl : SzL U (U.tys id) (P.cellsOf T) := by cases hz with | st h => exact h
      have hne : U.tys id ≠ [] := by
        intro e
        rw [e] at hzl
        have := hzl.uniq .nil
        omega
      obtain ⟨ds, hd1, hd2, hd3⟩ := repL_of (U := U) (F := F) (w := W) (cs := cs) (fun j d => ∀ y, (xs.map (·.1))[j]? = some y → DB U (B y) d) (U.tys id) [] 0 (P.cellsOf T) .nil (fun j t hj => by
        have hjl : j < fs.size := by rw [hlen]; exact getElem?_lt hj
        obtain ⟨u, q1, q2, q3, q4⟩ := hrd j fs[j] (by simp [hjl])
        have : u = t := by rw [hj] at q1; exact (Option.some.inj q1).symm
        subst this
        have hj' := hat j fs[j] (by simp [hjl])
        rw [show xs[j]? = some xs[j] from List.getElem?_eq_getElem (by omega)] at hj'
        obtain ⟨x, hx, hxd⟩ := trod_db hB hR hF fuel _ u _ _ (hasRd_mem q4) hj'
        exact ⟨_, _, q2, (cellsOf_info q3).1, x, hx, fun z hz => by
          rw [List.getElem?_map, List.getElem?_eq_getElem (by omega)] at hz
          cases hz
          exact hxd⟩) hzl
      obtain ⟨x, hx⟩ := hR.build id ds hd1 hne
      have hdl : ds.length = fs.size := by rw [hlen, ← hd1, List.length_map]
      refine ⟨x, .st ?_, .st (by rw [hx]; exact dbl_of (xs.map (·.1)) ds (by simp [hdl, hxl]) fun j d z h1 h2 => hd3 j d h1 z h2) (hB.agg _)⟩
      rw [hx]
      simpa [← hcl] using hd2
end
end Go.Ev
end
section
namespace Go.Ev
open Go.ChangeShapes Go.WideShapes Go.RowKit
variable {U : Univ} {P : Program}
section
variable {H : Type} {enc : TypeId × Value → H}
theorem trodAll_keep {W W' : World} (hl : laidOutB P = true) (hB : Below W.heap.size W W') {sp : Nat → Bool} : ∀ {ts : List TypeId} {vs : List Value} {ds : List (DataW H)} {p : List MemPlace}, (∀ t ∈ ts, P.readableRec t = true ∧ t < P.types.size) →
    DataW.TrodAll enc P W 0 (fun _ => true) true ts vs ds p → (∀ x ∈ p, x.block < W.heap.size) → (∀ x ∈ p, sp x.block = true) → DataW.TrodAll enc P W' 0 sp true ts vs ds p
  | [], vs, ds, p, _, h, _, _ => by
    obtain ⟨rfl, rfl, rfl⟩ := trodAll_nil h
    exact trodAll_mk0
  | t :: ts, vs, ds, p, ht, h, hlt, hsp => by
    obtain ⟨v, vs1, d, ds1, a, b, rfl, rfl, rfl, h1, h2⟩ := trodAll_cons h
    refine ⟨a, b, ?_, trodAll_keep hl hB (fun t ht' => ht t (List.mem_cons_of_mem _ ht')) h2 (fun x hx => hlt x (List.mem_append_right _ hx)) (fun x hx => hsp x (List.mem_append_right _ hx)), rfl⟩
    obtain ⟨g1, g2⟩ := ht t List.mem_cons_self
    exact WideElems.Trod_stays hl g1 g2 h1 (fun x hx => hB.same (hlt x (List.mem_append_left _ hx))) (fun x hx => hsp x (List.mem_append_left _ hx))
theorem post_true {f : Func} {s : ChangeSpec} {apart fresh handsOn again : Bool} {W W' : World} {args : Array Value} {ds gs : List (DataW H)} {before : List MemPlace} {bt : TypeId}
    (hl : laidOutB P = true) (hts : ∀ t ∈ f.params.toList, P.readableRec t = true ∧ t < P.types.size) (hv : s.vars = []) (hr : f.resultTypes = #[bt]) (hbt : P.underlying bt = some .bool)
    (hfn : s.fn H (ds ++ gs) = { results := [.lit (.bool true)], args := ds })
    (hW : DataW.Whole enc P f.params.toList s.vars apart W args.toList ds gs before) (hB : Below W.heap.size W W') :
    s.post enc P f apart fresh handsOn again W args (.bool true) W' := by
  have hlt := hW.lt
  have hW0 := hW
  obtain ⟨p, q, hA, hV, rfl, hz, hn⟩ := hW
  have hV' : DataW.TrodVars enc P W (fun _ => true) [] gs q := hv ▸ hV
  obtain ⟨rfl, rfl⟩ := trodVars_none hV'
  simp only [List.append_nil] at hlt hW0 hz hn hfn
  have hres : ∀ (b : Nat) (sp : Nat → Bool) (hd : Bool), DataW.TrodAll enc P W' b sp hd f.resultTypes.toList ((Value.bool true).resultList f.resultTypes.size) [.lit (.bool true)] [] := fun b sp hd => by
    rw [hr]
    exact trodAll_mk1 (shut_bool hbt true)
  have hargs : ∀ sp : Nat → Bool, (∀ x ∈ p, sp x.block = true) → DataW.TrodAll enc P W' 0 sp true f.params.toList args.toList ds p := fun sp hs => trodAll_keep hl hB hts hA hlt hs
  have hvars : ∀ sp : Nat → Bool, DataW.TrodVars enc P W' sp s.vars [] [] := fun sp => by rw [hv]; rfl
  have hold : ∀ x ∈ p, (fun b => decide (b < W.heap.size)) x.block = true := fun x hx => by simpa using hlt x hx
  refine ⟨ds, [], p, [], p, [], hW0, ?_, ?_, ?_, hB.frame _, fun _ => ⟨?_, _, [], ([] ++ p) ++ [], ⟨[] ++ p, [], trodAll_append (hargs _ fun _ _ => rfl) (hres _ _ _), hvars _, rfl, ?_, ?_⟩, ?_⟩⟩
  · rw [List.append_nil, hfn]; exact hres _ _ _
  · rw [List.append_nil, hfn]; exact hargs _ hold
  · rw [List.append_nil, hfn]; exact hvars _
  · exact ok_one hr rfl (okWide_bool_mk hbt true)
  · intro b off hp
    have hp' : MemPlace.cell b off ∈ p := by simpa using hp
    rw [hB.frozen (p := ⟨b, off, none⟩) (hlt _ hp')]
    exact hz b off hp'
  · intro ha
    simpa using hn ha
  · intro x hx _
    simpa using hx
end
noncomputable def outGh (W : World) : Gh := ⟨fun _ => 0, fun _ _ => (none, 0), fun b => if b < W.heap.size then .frz else .no⟩
def outEnv (W : World) : Env := ⟨W, fun b => b < W.heap.size, fun _ => False, 0, fun _ => none⟩
theorem outGh_F {W : World} {b : Nat} : (outGh W).F b ↔ b < W.heap.size := by
  unfold outGh Gh.F
  simp only
  split <;> simp_all
theorem outFrm (W : World) : Frm (outEnv W) (outGh W) W := by
  refine ⟨fun bn => ?_, fun bn k p h => ?_, fun bn h => .inl (outGh_F.1 h), fun bn h => outGh_F.2 h, Nat.le_refl _, fun _ _ _ => rfl, rfl, rfl, rfl⟩
  · unfold outGh
    simp only
    by_cases h : bn < W.heap.size
    · exact .inr h
    · exact .inl (by simp [h])
  · unfold outGh at h
    simp only at h
    split at h <;> cases h
inductive Args (U : Univ) (W : World) : List U.D → List Value → Prop
  | nil : Args U W [] []
  | cons {x : U.D} {v : Value} {xs : List U.D} {vs : List Value} : RepV U (fun b => b < W.heap.size) W x v → Args U W xs vs → Args U W (x :: xs) (v :: vs)
theorem Args.hand {W : World} : ∀ {xs : List U.D} {vs : List Value}, Args U W xs vs → ∀ i, Hand U (outEnv W) (outGh W) W i (xs.map .d) [] vs
  | _, _, .nil, _ => .nil
  | _, _, .cons h hs, i => .d (by
      obtain ⟨cs, h1, h2⟩ := h
      exact ⟨cs, h1.mono fun b hb => ⟨outGh_F.2 hb, rfl⟩, h2⟩) (hs.hand (i + 1))
theorem Args.enters {W : World} {xs : List U.D} {vs : List Value} (h : Args U W xs vs) : Enters U (outEnv W) (outGh W) (xs.map .d) [] vs :=
  ⟨h.hand 0, outFrm W, fun _ _ h => h, fun _ h => h, fun k h => absurd rfl h⟩
theorem law_calls {L : (Nat → Prop) → World → Prop} {f : FuncId} {fn : Func} {ps : List PM} {F : Tup U.car (ptys ps) → Option (Tup U.car [.bool])} (hC : FnC P U L f ps ⟨[.d .bool], []⟩ F) (hf : Fns P f fn ps) {v : Tup U.car (ptys ps)} (hF : F v = some true) {W : World} {xs : List U.D} {vs : List Value} (hx : encA ps v = xs.map .d)
    (hA : Args U W xs vs) (hL : L (fun b => b < W.heap.size) W) : Calls P f vs.toArray W fun e W' => e = .returned (.bool true) ∧ Below W.heap.size W W' := by
  have h := hC v true hF
  rw [hx] at h
  have h := h (outEnv W) (outGh W) vs hA.enters hL
  unfold Invokes at h
  have hk := hf.ok
  rw [run_callFunc hk.hfn hk.hname hk.hbody] at h
  refine Calls.mono h fun e w' hr => ?_
  cases e with
  | returned v =>
    obtain ⟨gh', vs', hfr, _, hvs, rfl⟩ := hr
    have hvs : RepRVs U gh' w' (List.map Arg.d xs).length [.d ⟨.bool, true⟩] vs' := hvs
    cases hvs with
    | cons h1 h2 =>
      cases h2
      cases h1 with
      | d h1 =>
        obtain ⟨cs, g1, g2⟩ := h1
        cases g1
        have g2 : [Value.bool true] = [_] := g2
        cases g2
        exact ⟨rfl, hfr.os, hfr.tape, hfr.output, hfr.grown, fun k hk => hfr.kept k hk fun h => h⟩
  | _ => exact hr.elim
end Go.Ev
end
