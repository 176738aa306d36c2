/- A part of the proof in YtbncpcdooinpjaaGreatDoorTypes12: lemmas and contracts; nothing is claimed here. -/
import Derived.Test.YtbncpcdooinpjaaGreatDoorTypes4
import Derived.Lib.Bytealg
import Derived.Laws.Externs
import Derived.KernelRfl
set_option linter.unusedVariables false
set_option linter.unusedSimpArgs false
section
namespace Go.Ew
open Go
variable {P : Program} {T : Tab} {φ : Phi}
theorem tdOf_ok (d : TypeDesc) : match tdOf d with
    | .int k => d = .int k
    | .bool => d = .bool
    | .str => d = .string
    | .slice e => d = .slice e
    | .arr n e => d = .array n e
    | .struct fs => ∃ fields, d = .struct fields ∧ fields.toList.map (fun f => (f.offset, f.type)) = fs
    | .map k e => d = .map k e
    | .ptr e => d = .pointer e
    | .func => ∃ ps rs v, d = .func ps rs v
    | .iface => ∃ ms, d = .interface ms
    | .other => True := by
  cases d <;> simp [tdOf]
theorem tdOf_agg (d : TypeDesc) (t : TI) (h : t.d = tdOf d) : Ev.aggD d = t.agg := by
  unfold TI.agg
  rw [h]
  cases d <;> rfl
theorem tyOf_ok (P : Program) (T : Tab) (h : T.ty = tyOf P) : TOk P T := by
  intro t i hi
  rw [h] at hi
  unfold tyOf at hi
  split at hi
  · rename_i f d hf hd
    split at hi
    · rename_i z hz
      split at hi
      · rename_i hc
        cases hi
        simp only [Bool.and_eq_true, Bool.or_eq_true, List.all_eq_true] at hc
        obtain ⟨⟨h1, h2⟩, h3⟩ := hc
        have h1 := Nat.eq_of_beq_eq_true h1
        refine ⟨⟨f, z, hf, rfl, rfl, hz, rfl, h1, fun v hv => ⟨(h2 v hv).1, fun φ => closed_refl (h2 v hv).2⟩, fun ha => ?_⟩, d, hd, tdOf_agg d _ rfl, tdOf_ok d⟩
        rcases h3 with h3 | h3
        · rw [tdOf_agg d ⟨tdOf d, f.size, cellsOf z, f.bytes⟩ rfl, ha] at h3
          cases h3
        · exact Nat.eq_of_beq_eq_true h3
      · cases hi
    · cases hi
  · cases hi
theorem eqI_eq {n m : Int} (h : eqI n m = true) : n = m := by
  unfold eqI at h
  split at h
  · rw [Nat.eq_of_beq_eq_true h]
  · rw [Nat.eq_of_beq_eq_true h]
  · cases h
theorem eqC_eq : ∀ {l r : List Value}, eqC l r = true → l = r ∧ ∀ v ∈ l, scal v = true
  | [], [], _ => ⟨rfl, fun v h => by cases h⟩
  | v :: l, r, h => by
    unfold eqC at h
    split at h
    · rename_i e
      cases e
    · rename_i k n l' j m r' e
      cases e
      simp only [Bool.and_eq_true, decide_eq_true_eq] at h
      obtain ⟨⟨rfl, h2⟩, h3⟩ := h
      obtain ⟨rfl, h4⟩ := eqC_eq h3
      rw [eqI_eq h2]
      exact ⟨rfl, fun v hv => by cases hv with | head => rfl | tail _ hv => exact h4 v hv⟩
    · rename_i a l' b r' e
      cases e
      split at h
      · obtain ⟨rfl, h4⟩ := eqC_eq h
        exact ⟨rfl, fun v hv => by cases hv with | head => rfl | tail _ hv => exact h4 v hv⟩
      · obtain ⟨rfl, h4⟩ := eqC_eq h
        exact ⟨rfl, fun v hv => by cases hv with | head => rfl | tail _ hv => exact h4 v hv⟩
      · cases h
    · rename_i s l' t r' e
      cases e
      simp only [Bool.and_eq_true] at h
      obtain ⟨h1, h2⟩ := h
      rw [eqB_eq] at h1
      obtain ⟨rfl, h4⟩ := eqC_eq h2
      have : s = t := by
        apply ByteArray.ext
        apply Array.ext'
        simpa using h1
      subst this
      exact ⟨rfl, fun v hv => by cases hv with | head => rfl | tail _ hv => exact h4 v hv⟩
    · cases h
  | [], _ :: _, h => by cases h
theorem agg_closed {a : Array Value} (h : ∀ v ∈ a.toList, scal v = true) : closed (.agg a) = true := by
  show a.toList.all (closedN 4) = true
  rw [List.all_eq_true]
  intro v hv
  have := h v hv
  cases v <;> first | rfl | cases this
theorem eqA_eq : ∀ {l r : List Value}, eqA l r = true → l = r ∧ l.all closed = true
  | [], [], _ => ⟨rfl, rfl⟩
  | v :: l, r, h => by
    unfold eqA at h
    split at h
    · rename_i e
      cases e
    · rename_i a l' b r' e
      cases e
      simp only [Bool.and_eq_true] at h
      obtain ⟨h1, h2⟩ := eqC_eq h.1
      obtain ⟨rfl, h4⟩ := eqA_eq h.2
      have : a = b := by
        apply Array.ext'
        exact h1
      subst this
      refine ⟨rfl, ?_⟩
      rw [List.all_cons, h4, agg_closed h2]
      rfl
    · rename_i v' l' u r' hne e
      cases e
      simp only [Bool.and_eq_true] at h
      obtain ⟨h1, h2⟩ := eqC_eq h.1
      cases h1
      obtain ⟨rfl, h4⟩ := eqA_eq h.2
      refine ⟨rfl, ?_⟩
      rw [List.all_cons, h4, scal_closed (h2 _ List.mem_cons_self)]
      rfl
    · cases h
  | [], _ :: _, h => by cases h
theorem scal_N {v : Value} (h : scal v = true) (n : Nat) : closedN (n + 1) v = true := by cases v <;> first | rfl | cases h
theorem eqA_N : ∀ {l r : List Value}, eqA l r = true → ∀ v ∈ l, closedN 4 v = true
  | [], _, _, _, h => by cases h
  | v :: l, [], h, _, _ => by
    unfold eqA at h
    split at h <;> first | contradiction | cases h
  | v :: l, u :: r, h, x, hx => by
    unfold eqA at h
    split at h
    · rename_i e
      cases e
    · rename_i a l' b r' e e2
      cases e
      cases e2
      simp only [Bool.and_eq_true] at h
      cases hx with
      | head =>
        show a.toList.all (closedN 3) = true
        rw [List.all_eq_true]
        exact fun v hv => scal_N ((eqC_eq h.1).2 v hv) 2
      | tail _ hx => exact eqA_N h.2 x hx
    · rename_i v' l' u' r' hne e e2
      cases e
      cases e2
      simp only [Bool.and_eq_true] at h
      cases hx with
      | head => exact scal_N ((eqC_eq h.1).2 _ List.mem_cons_self) 3
      | tail _ hx => exact eqA_N h.2 x hx
    · cases h
def statB (P : Program) (f : FuncId) : Bool :=
  match P.funcs[f]? with
  | some fn => (match fn.body with
    | some code => dstsOk fn.ntmps code && toposOk code
    | none => true)
  | none => true
theorem memN_mem' {k : Nat} : ∀ {l : List Nat}, memN k l = true → k ∈ l
  | [], h => by cases h
  | x :: l, h => by
    have h : @Bool.rec (fun _ => Bool) (memN k l) true (Nat.beq x k) = true := h
    cases hb : Nat.beq x k with
    | true =>
      rw [Nat.eq_of_beq_eq_true hb]
      exact List.mem_cons_self
    | false =>
      rw [hb] at h
      exact List.mem_cons_of_mem _ (memN_mem' (l := l) h)
theorem runOk_of (l : List Nat) (hr : ∀ f, T.run f = memN f l) (h : l.all (statB P) = true) : RunOk P T := by
  intro f fn code hf hfn hb
  rw [hr] at hf
  have := List.all_eq_true.1 h f (memN_mem' hf)
  unfold statB at this
  rw [hfn] at this
  simp only [hb, Bool.and_eq_true] at this
  exact this
theorem idxB_eq (c : UInt8) : ∀ (l : List UInt8) (i : Nat), idxB c.toNat l i = if Lib.indexByte l c == -1 then -1 else (i : Int) + Lib.indexByte l c
  | [], _ => rfl
  | b :: l, i => by
    have e : idxB c.toNat (b :: l) i = @Bool.rec (fun _ => Int) (idxB c.toNat l (Nat.succ i)) (Int.ofNat i) (Nat.beq b.toNat c.toNat) := rfl
    have hi : Lib.indexByte (b :: l) c = if b == c then 0 else if Lib.indexByte l c == -1 then -1 else Lib.indexByte l c + 1 := rfl
    rw [e, hi]
    by_cases hbc : b = c
    · subst hbc
      have h1 : Nat.beq b.toNat b.toNat = true := Nat.beq_refl _
      rw [h1]
      have h2 : (b == b) = true := by simp
      rw [h2]
      simp
    · have h1 : Nat.beq b.toNat c.toNat = false := by
        cases hb : Nat.beq b.toNat c.toNat with
        | false => rfl
        | true => exact absurd (UInt8.toNat_inj.1 (Nat.eq_of_beq_eq_true hb)) hbc
      have h2 : (b == c) = false := by simpa using hbc
      rw [h1, h2]
      show idxB c.toNat l (Nat.succ i) = _
      rw [idxB_eq c l (Nat.succ i)]
      have hge := Lib.indexByte_ge l c
      simp only [Bool.false_eq_true, if_false]
      by_cases h3 : Lib.indexByte l c = -1
      · simp [h3]
      · have h4 : (Lib.indexByte l c == -1) = false := by simpa using h3
        have h5 : (Lib.indexByte l c + 1 == -1) = false := by
          have : Lib.indexByte l c + 1 ≠ -1 := by omega
          simpa using this
        rw [h4]
        simp only [Bool.false_eq_true, if_false, h5]
        omega
theorem extIndex_ok {args : List Value} {v : Value} (w : World) (h : extIndex args = some v) : (Extern.BytealgIndexByte.indexByte args.toArray).run P w = .ok v w := by
  unfold extIndex at h
  split at h
  · rename_i s c
    cases h
    rw [show [Value.string s, .int .u8 c].toArray = #[.string s, .int .u8 c] from rfl, Lib.run_indexByteString, idxB_eq]
    congr 2
    have hge := Lib.indexByte_ge s.data.toList c.toNat.toUInt8
    split
    · rename_i h3
      simpa using h3
    · simp
  · cases h
theorem extAdd_ok {args : List Value} {v : Value} (w : World) (h : extAdd args = some v) : (add64Entry args.toArray).run P w = .ok v w := by
  unfold extAdd at h
  split at h
  · rename_i x y c
    split at h
    · rename_i hc
      cases h
      have hc := Nat.le_of_ble_eq_true hc
      have := run_add64 (P := P) (x : Int) (y : Int) (c : Int) (by omega) (by omega) (by omega) (by omega) w
      refine this.trans ?_
      have e1 : ((x : Int) + y + c) % 18446744073709551616 = Int.ofNat (Nat.mod (x + y + c) 18446744073709551616) := by
        show _ = (((x + y + c) % 18446744073709551616 : Nat) : Int)
        omega
      have e2 : ((x : Int) + y + c) / 18446744073709551616 = Int.ofNat (Nat.div (x + y + c) 18446744073709551616) := by
        show _ = (((x + y + c) / 18446744073709551616 : Nat) : Int)
        omega
      rw [e1, e2]
    · cases h
  · cases h
noncomputable def extTab (i a : FuncId) (f : FuncId) : Option (List Value → Option Value) :=
  @Bool.rec (fun _ => Option (List Value → Option Value)) (@Bool.rec (fun _ => Option (List Value → Option Value)) none (some extAdd) (Nat.beq f a)) (some extIndex) (Nat.beq f i)
theorem extOk_of {i a : FuncId} (h : T.ext = extTab i a) {fn ga : Func} (hf : P.funcs[i]? = some fn) (h1 : Extern.findNext fn = none) (h2 : Extern.find fn = some Extern.BytealgIndexByte.indexByte)
    (hg : P.funcs[a]? = some ga) (g1 : Extern.findNext ga = none) (g2 : Extern.find ga = some add64Entry) : ExtOk P T := by
  intro f g hgf fn' hf'
  rw [h] at hgf
  unfold extTab at hgf
  cases hb : Nat.beq f i with
  | false =>
    rw [hb] at hgf
    have hgf : @Bool.rec (fun _ => Option (List Value → Option Value)) none (some extAdd) (Nat.beq f a) = some g := hgf
    cases ha : Nat.beq f a with
    | false => rw [ha] at hgf; cases hgf
    | true =>
      rw [ha] at hgf
      cases hgf
      have := Nat.eq_of_beq_eq_true ha
      subst this
      rw [hg] at hf'
      cases hf'
      exact ⟨g1, _, g2, fun args v w hv => extAdd_ok w hv⟩
  | true =>
    rw [hb] at hgf
    cases hgf
    have := Nat.eq_of_beq_eq_true hb
    subst this
    rw [hf] at hf'
    cases hf'
    exact ⟨h1, _, h2, fun args v w hv => extIndex_ok w hv⟩
noncomputable def closedRun (P : Program) (T : Tab) (f : FuncId) (args : List Value) : Option ((Value × Nat) × Hm) :=
  (evFn P T 100000 60 (Value × Nat) f args 1 fun v c => .ret (v, c)).run (Mp.empty 16)
noncomputable def chkG (P : Program) (T : Tab) (x : Giv) : Bool :=
  match closedRun P T x.f x.args with
  | some ((.tuple a, _), _) => (match x.v with
    | .tuple b => eqA a.toList b.toList
    | _ => false)
  | some ((v, _), _) => eqA [v] [x.v]
  | none => false
theorem chkG_some {x : Giv} (h : chkG P T x = true) : ∃ c hm, closedRun P T x.f x.args = some ((x.v, c), hm) ∧ closed x.v = true := by
  unfold chkG at h
  split at h
  · rename_i a c hm hr
    split at h
    · rename_i b hb
      obtain ⟨h1, h2⟩ := eqA_eq h
      have : a = b := by apply Array.ext'; exact h1
      subst this
      rw [hb]
      refine ⟨c, hm, hr, ?_⟩
      show a.toList.all (closedN 4) = true
      rw [List.all_eq_true]
      intro v hv
      exact eqA_N (by assumption) v hv
    · cases h
  · rename_i v c hm hne hr
    obtain ⟨h1, h2⟩ := eqA_eq h
    cases h1
    refine ⟨c, hm, hr, ?_⟩
    simpa using h2
  · cases h
theorem closed_call (hT : TOk P T) (hE : ExtOk P T) (hR : RunOk P T) (hG : GivenOk P T) {f : FuncId} {args : List Value} {v : Value} {c : Nat} {hm : Hm} (h : closedRun P T f args = some ((v, c), hm)) (hc : args.all closed = true) (hv : closed v = true) (w : World) :
    Calls P f args.toArray w fun e w' => match e with
      | .returned u => u = v ∧ ∃ φ hp, HSim w φ hp w'
      | _ => False := by
  obtain ⟨hp', h1, h2⟩ := Pg.run_list _ (hp := []) (fun k => Mp.at_empty 16 k) h
  have hH : HSim w (fun _ => none) [] w := by
    refine ⟨fun k o hk => ?_, fun k b hk => (by cases hk), fun k k' o o' b b' hk => ?_, Nat.le_refl _, fun _ _ => rfl, rfl, rfl, rfl⟩
    · simp [Heap.at, Ev.lookup] at hk
    · simp [Heap.at, Ev.lookup] at hk
  refine (evFn_ok hT hE hR hG 60 w (Value × Nat) f args 1 _ [] _ h1 _ w args.toArray hH ?_).mono fun e w' he => ?_
  · rw [List.all_eq_true] at hc
    have : ∀ l : List Value, (∀ v ∈ l, closed v = true) → VRs (fun _ => none) l l := by
      intro l
      induction l with
      | nil => intro _; exact .nil
      | cons x l ih => intro h; exact .cons (closed_refl (h x List.mem_cons_self)) (ih fun v hv => h v (List.mem_cons_of_mem _ hv))
    simpa using this args hc
  · cases e with
    | returned u =>
      obtain ⟨φ', hp2, u', c', _, g1, g2, g3⟩ := he
      cases g1
      exact ⟨closed_eq hv g3, φ', hp', g2⟩
    | panicked c => exact he.elim
    | outgrown => exact he.elim
theorem HSim.over {W w w' : World} {hp : Heap} {ψ : Phi} {hq : Heap} (H : HSim W φ hp w) (H' : HSim w ψ hq w') : HSim W φ hp w' := by
  refine ⟨fun k o hk => ?_, fun k b hb => ?_, H.inj, Nat.le_trans H.size H'.size, fun b hb => ?_, H'.os.trans H.os, H'.tape.trans H.tape, H'.output.trans H.output⟩
  · obtain ⟨b, hb, hr⟩ := H.live k o hk
    exact ⟨b, hb, hr.mono (Phi.le_refl φ) (H'.old b.1 (H.dom k b hb).2.1)⟩
  · obtain ⟨h1, h2, h3⟩ := H.dom k b hb
    exact ⟨h1, Nat.lt_of_lt_of_le h2 H'.size, h3⟩
  · rw [H'.old b (Nat.lt_of_lt_of_le hb H.size), H.old b hb]
noncomputable def tabOf (P : Program) (i a : FuncId) (run : List Nat) (l : List Giv) : Tab := ⟨tyOf P, extTab i a, fun f args => giv f args l, fun f => memN f run⟩
theorem given_nil {i a : FuncId} {run : List Nat} : GivenOk P (tabOf P i a run []) := by
  intro f args v h
  cases h
theorem given_cons {i a : FuncId} {run : List Nat} {l : List Giv} (hE : ExtOk P (tabOf P i a run l)) (hR : RunOk P (tabOf P i a run l)) (hG : GivenOk P (tabOf P i a run l)) {x : Giv} (h : chkG P (tabOf P i a run l) x = true) : GivenOk P (tabOf P i a run (x :: l)) := by
  intro f args v hg W φ hp w args' H hr
  have hg : @Bool.rec (fun _ => Option Value) (giv f args l) (@Bool.rec (fun _ => Option Value) (giv f args l) (some x.v) (eqA args x.args)) (Nat.beq f x.f) = some v := hg
  cases hf : Nat.beq f x.f with
  | false => rw [hf] at hg; exact hG f args v hg W φ hp w args' H hr
  | true =>
    rw [hf] at hg
    have hg : @Bool.rec (fun _ => Option Value) (giv f args l) (some x.v) (eqA args x.args) = some v := hg
    cases ha : eqA args x.args with
    | false => rw [ha] at hg; exact hG f args v hg W φ hp w args' H hr
    | true =>
      rw [ha] at hg
      cases hg
      have hf := Nat.eq_of_beq_eq_true hf
      obtain ⟨h1, h2⟩ := eqA_eq ha
      subst hf
      rw [h1] at h2 hr
      obtain ⟨c, hm, hrun, hcv⟩ := chkG_some h
      have he := closeds_eq h2 hr
      have he : args' = x.args.toArray := by rw [← he]
      subst he
      refine (closed_call (tyOf_ok P _ rfl) hE hR hG hrun h2 hcv w).mono fun e w' he => ?_
      cases e with
      | returned u =>
        obtain ⟨rfl, ψ, hq, H'⟩ := he
        exact ⟨φ, Phi.le_refl φ, closed_refl hcv, H.over H'⟩
      | panicked c => exact he.elim
      | outgrown => exact he.elim
end Go.Ew
end
