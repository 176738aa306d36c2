/- A part of the proof in YtbncpcdooinpjaaGreatDoorTypes12: lemmas and contracts; nothing is claimed here. -/
import Derived.Test.YtbncpcdooinpjaaGreatDoorTypes1
import Derived.Laws.BytesArg
import Derived.Lib.ConvBytes
import Derived.Laws.StructEq
import Derived.Orders
set_option linter.unusedVariables false
set_option linter.unusedSimpArgs false
section
namespace Go.Ev
variable {U : Univ} {P : Program}
theorem madeCells_list (zc : List Value) (h0 : 0 < zc.length) : ∀ k, (madeCells zc.toArray (k * zc.length)).toList = (List.replicate k zc).flatten
  | 0 => by simp [madeCells]
  | k + 1 => by
    have ih := madeCells_list zc h0 k
    simp only [madeCells, Array.toList_map, Array.toList_range, List.size_toArray] at ih ⊢
    rw [Nat.add_mul, Nat.one_mul, Nat.add_comm, List.range_add, List.map_append, List.map_map, List.replicate_succ, List.flatten_cons, ← ih]
    congr 1
    · apply List.ext_getElem?
      intro j
      simp only [List.getElem?_map]
      by_cases hj : j < zc.length
      · simp [hj, Nat.mod_eq_of_lt hj]
      · simp [hj]
    · apply List.map_congr_left
      intro j _
      simp
theorem made_rep {F : Nat → Prop} {w : World} {e : Ty} {x : e.den U.car} {zc : List Value} (hr : Rep U F w ⟨e, x⟩ zc) (h0 : 0 < zc.length) (k : Nat) : RepL U F w ((List.replicate k x).map (D.mk e)) (madeCells zc.toArray (k * zc.length)).toList := by
  rw [madeCells_list zc h0 k]
  induction k with
  | zero => exact .nil
  | succ k ih =>
    simp only [List.replicate_succ, List.map_cons, List.flatten_cons]
    exact .cons hr ih
section
variable {E : Env} {gh : Gh} {σ : St U} {a : Act} {w : World} {o : Oper}
theorem grown_alloc (ob : Obj) : Grown w (w.alloc ob) none := ⟨rfl, rfl, rfl, by simp, fun bn h _ => heap_alloc_old w ob bn h⟩
theorem opMake_step {G : Ctx U} (hU : ULaw U) (hG : GOk P U G) (S : Sim U E gh σ a w) (hd : InN E o.dst) {T : TypeId} {n c : Operand} (ho : o.op = .makeSlice T n c) {EB : Nat} (hB : G.bytes T = some EB) {nv cv : AV U} (hn : RepAV U gh σ w nv (a.eval n)) (hc : RepAV U gh σ w cv (a.eval c))
    {us : List (Upd U)} (h : (opMake G o.dst T EB nv cv : Out U).run σ = some us) : StepOk P U E o σ a w us := by
  unfold opMake at h
  split at h
  case h_2 => simp at h
  rename_i e hT
  replace h := intOf_some h
  obtain ⟨kn, n0, rfl, h⟩ := h
  replace h := intOf_some h
  obtain ⟨kc, c0, rfl, h⟩ := h
  obtain ⟨hne, _⟩ := hn.int_inv
  obtain ⟨hce, _⟩ := hc.int_inv
  split at h
  case h_2 => simp at h
  rename_i z hz
  split at h
  case h_2 => simp at h
  rename_i x hx
  have hx := D.as_some hx
  subst hx
  simp only [run_chk] at h
  split at h
  case isFalse => cases h
  rename_i hcond
  obtain ⟨h0, h1, hroom⟩ := hcond
  have hcase : ∃ d L wn, o.dst = some d ∧ σ.blk d = none ∧ us = [.blk d (some (newBlk ⟨.sl e, L⟩ false [[]])), .slot d (.row d 0 [] wn)] ∧ ((wn = .all ∧ L = List.replicate n0.toNat x) ∨ (wn = .full n0 ∧ L = List.replicate c0.toNat x)) := by
    unfold madeRow at h
    split at h
    · split at h
      case h_2 => simp at h
      rename_i d hdst
      obtain ⟨hno, h⟩ := fresh_some h
      simp only [run_ret, Option.some.injEq] at h
      exact ⟨d, _, _, hdst, hno, h.symm, .inr ⟨rfl, rfl⟩⟩
    · unfold Ev.newRow at h
      split at h
      case h_2 => simp at h
      rename_i d hdst
      obtain ⟨hno, h⟩ := fresh_some h
      simp only [run_ret, Option.some.injEq] at h
      exact ⟨d, _, _, hdst, hno, h.symm, .inl ⟨rfl, rfl⟩⟩
  clear h
  obtain ⟨d, L, wn, hdst, hno, rfl, hcase⟩ := hcase
  obtain ⟨EE, i, hu, hi, hib, hisz, _, hB0⟩ := hG.bytes T EB hB
  obtain ⟨EE', hu', hI, _⟩ := (hG.ty T _ hT).2
  rw [hu] at hu'
  cases hu'
  have hI' := hI
  obtain ⟨i', dd, z0, zs, hi', _, _, hsz, _, _, _, _, hzs⟩ := hI'
  rw [hi] at hi'
  cases hi'
  obtain ⟨i2, v, zc, hi2, hzv, hvo, hvc, hrep, _⟩ := hI.zero hU hz gh.F w
  rw [hi] at hi2
  cases hi2
  have hzl : zc.length = i.size := hrep.length hU hsz
  rw [room_iff] at hroom
  have hcb : (c0.toNat : Int) = c0 := Int.toNat_of_nonneg (Int.le_trans h0 h1)
  have hbytes : (i.bytes : Int) * c0 ≤ 281474976710656 := by
    rw [hib, ← hcb, ← Int.natCast_mul, Nat.mul_comm]
    omega
  have hc63 : c0.toNat ≤ 140737488355328 := Nat.le_trans (Nat.le_mul_of_pos_right _ hB0) hroom
  have hrun := run_make (P := P) w T EE i v hu hi hzv kn kc n0 c0 h0 h1 hbytes (by omega)
  rw [hvc] at hrun
  have hnc : n0.toNat ≤ c0.toNat := Int.toNat_le_toNat h1
  have hrow : (w.alloc (.cells (madeCells zc.toArray (c0.toNat * i.size)) EE)).ownsRow 0 EE i.size (.slice (some ⟨w.heap.size, 0, none⟩) c0.toNat c0.toNat) c0.toNat (madeCells zc.toArray (c0.toNat * i.size)).toList :=
    World.ownsRow_lit w _ _ (Nat.zero_le _) (by simp only [maxLen]; omega) (size_madeCells _ _)
  have hrow' := ownsRow_pre hrow hnc
  have hlen : (List.replicate n0.toNat x).length = n0.toNat := List.length_replicate ..
  have hrl : RepL U gh.F w ((List.replicate n0.toNat x).map (D.mk e)) ((madeCells zc.toArray (c0.toNat * i.size)).toList.take (n0.toNat * i.size)) := by
    have h9 := (made_rep hrep (by omega) c0.toNat).take hU hsz n0.toNat
    rw [hzl, List.take_replicate, Nat.min_eq_left hnc] at h9
    exact h9
  have hfin : ∃ gh', Sim U E gh' ((σ.put (.blk d (some (newBlk ⟨.sl e, L⟩ false [[]])))).put (.slot d (.row d 0 [] wn))) (a.put (some d) (.slice (some ⟨w.heap.size, 0, none⟩) n0.toNat c0.toNat)) (w.alloc (.cells (madeCells zc.toArray (c0.toNat * i.size)) EE)) := by
    rcases hcase with ⟨rfl, rfl⟩ | ⟨rfl, rfl⟩
    · obtain ⟨gh', S'⟩ := S.grown hno (hd d hdst) (ad := none) (l := List.replicate n0.toNat x) hsz hrl (by rw [hlen]; exact hrow') (grown_alloc _) (fun c h => by cases h) (fun c' hc' => .inr (by cases hc'; simp))
      rw [hlen] at S'
      exact ⟨gh', S'⟩
    · have hlen2 : (List.replicate c0.toNat x).length = c0.toNat := List.length_replicate ..
      exact S.grownW hno (hd d hdst) (ad := none) (l := List.replicate c0.toNat x) hsz (made_rep hrep (by omega) c0.toNat) (by rw [hlen2, hzl]; exact hrow) (grown_alloc _) (fun c h => by cases h) (fun c' hc' => .inr (by cases hc'; simp)) (wn := .full n0) ⟨h0, by rw [hlen2]; exact hnc, rfl, hlen2.symm⟩
  obtain ⟨gh', S'⟩ := hfin
  intro K Q hK
  unfold Oper.wp
  have hex : (execOp a.eval o).run P w = .ok (.value (.slice (some ⟨w.heap.size, 0, none⟩) n0.toNat c0.toNat)) (w.alloc (.cells (madeCells zc.toArray (c0.toNat * i.size)) EE)) := by
    unfold execOp
    rw [ho]
    simp only [Sem.run_bind, hne, hce, hrun, Result.andThen_ok, Sem.run_pure]
  rw [hex]
  refine hK gh' _ _ ?_
  rw [hdst]
  exact S'
end
end Go.Ev
end
section
namespace Go.Ev
variable {U : Univ} {P : Program}
section
variable {E : Env} {gh : Gh} {σ : St U} {a : Act} {w : World} {o : Oper}
theorem Sim.rowRep (hU : ULaw U) (S : Sim U E gh σ a w) {k : Nat} {b : Blk U} {q : List Nat} {e : Ty} {l : List (e.den U.car)} (hb : σ.blk k = some b) (ho : b.own.contains q = false) (hd : b.dead.contains q = false)
    (hg : getQ U q b.x = some ⟨.sl e, l⟩) : Rep U gh.F w ⟨.sl e, l⟩ [.slice (gh.hdr k q).1 l.length (gh.hdr k q).2] := by
  have hr := S.blks k b hb
  rw [getQ_eq] at hg
  have key : ∀ {cs : List Value}, RepO U gh.F w (gh.hdr k) b.own b.dead b.x cs → Rep U gh.F w ⟨.sl e, l⟩ [.slice (gh.hdr k q).1 l.length (gh.hdr k q).2] := by
    intro cs hr
    obtain ⟨oo, hoo⟩ := At.ofGet hU q _ _ hg
    obtain ⟨_, c1, c, c2, _, _, h3, _⟩ := RepO.at hU hoo hr hg
    have h4 := h3 q (flds_map q)
    cases h4 with
    | dead e1 _ _ _ => rw [subQ_contains, List.append_nil, hd] at e1; cases e1
    | leaf e1 _ _ => simp [Ty.isSl] at e1
    | frz _ _ e3 e4 =>
      simp only [List.append_nil] at e4
      rw [e4]
      exact e3
    | row e1 _ _ _ _ _ => rw [subQ_contains, List.append_nil, ho] at e1; cases e1
  cases hm : b.mem with
  | true =>
    obtain ⟨cs, tag, _, h⟩ := (RepBlk.of_mem hm).1 hr
    exact key h
  | false =>
    obtain ⟨_, v, h⟩ := (RepBlk.of_not hm).1 hr
    exact key h
theorem Rep.win {F : Nat → Prop} (hU : ULaw U) {e : Ty} {l l' : List (e.den U.car)} {h : Option Addr × Nat} (R : Rep U F w ⟨.sl e, l⟩ [.slice h.1 l.length h.2]) {n : Nat} (hz : Sz U e n) {wn : Win} {v : Value} (hv : RowVal h l.length n wn v)
    (hw : win (U := U) ⟨.sl e, l⟩ wn = some ⟨.sl e, l'⟩) : RepV U F w ⟨.sl e, l'⟩ v := by
  obtain ⟨h1, h2⟩ := h
  simp only at R
  cases R with
  | sl r4 r5 r1 r2 =>
  rename_i ad xs
  cases wn with
  | all =>
    simp only [Ev.win, Option.some.injEq, D.mk.injEq, heq_eq_eq, true_and] at hw
    subst hw
    cases hv
    exact ⟨_, .sl r4 r5 r1 r2, rfl⟩
  | pre m =>
    simp only [Ev.win, Option.some.injEq, D.mk.injEq, heq_eq_eq, true_and] at hw
    subst hw
    obtain ⟨g1, g2, g3⟩ := hv
    subst g3
    have hlen : (l.take m.toNat).length = m.toNat := by simp [Nat.min_eq_left g2]
    have := Rep.sl (U := U) (F := F) (w := w) (l := l.take m.toNat) (a := h1) (cap := h2) (ad := ad) (r4.take hU hz m.toNat) (fun hl => by
      obtain ⟨a1, a2, a3, a4⟩ := r5 (fun e => hl (by rw [e]; simp))
      exact ⟨a1, a2, a3, a4.take _⟩) (by omega) r2
    rw [hlen] at this
    exact ⟨_, this, rfl⟩
  | full m =>
    simp only [Ev.win, Option.some.injEq, D.mk.injEq, heq_eq_eq, true_and] at hw
    subst hw
    obtain ⟨g1, g2, g3, _⟩ := hv
    subst g3
    have hlen : (l.take m.toNat).length = m.toNat := by simp [Nat.min_eq_left g2]
    have := Rep.sl (U := U) (F := F) (w := w) (l := l.take m.toNat) (a := h1) (cap := h2) (ad := ad) (r4.take hU hz m.toNat) (fun hl => by
      obtain ⟨a1, a2, a3, a4⟩ := r5 (fun e => hl (by rw [e]; simp))
      exact ⟨a1, a2, a3, a4.take _⟩) (by omega) r2
    rw [hlen] at this
    exact ⟨_, this, rfl⟩
  | mid o m =>
    simp only [Ev.win, Option.some.injEq, D.mk.injEq, heq_eq_eq, true_and] at hw
    subst hw
    obtain ⟨g0, g1, g2, a, c, g3, g4, g5, g6⟩ := hv
    subst g3
    have hlen : (sub l o (o + m)).length = m.toNat := by simp [sub]; omega
    have hsub : (o + m - o).toNat = m.toNat := by omega
    have := Rep.sl (U := U) (F := F) (w := w) (l := sub l o (o + m)) (a := a) (cap := c) (ad := ad.add (o.toNat * n)) (xs := (xs.drop (o.toNat * n)).take (m.toNat * n)) (by
        unfold sub
        rw [hsub]
        exact (r4.drop hU hz o.toNat).take hU hz m.toNat) (fun hl => by
      have hm : 0 < m.toNat := by
        rcases Nat.eq_zero_or_pos m.toNat with h0 | h0
        · exact absurd (List.eq_nil_of_length_eq_zero (hlen.trans h0)) hl
        · exact h0
      obtain ⟨a1, a2, a3, a4⟩ := r5 (fun e => by rw [e] at g2; simp at g2; omega)
      exact ⟨g6 hm ad a1, add_spot _ a2, by rw [add_block]; exact a3, (a4.drop a2 _).take _⟩) (by omega) g5
    rw [hlen] at this
    exact ⟨_, this, rfl⟩
end
end Go.Ev
end
section
namespace Go.Ev
variable {U : Univ} {P : Program}
theorem contains_app (l m : List (List Nat)) (r : List Nat) : (l ++ m).contains r = (l.contains r || m.contains r) := by
  induction l with
  | nil => rfl
  | cons x l ih => simp only [List.cons_append, List.contains_cons, ih, Bool.or_assoc]
theorem contains_mapq (q : List Nat) : ∀ (l : List (List Nat)) (r : List Nat), (l.map (q ++ ·)).contains (q ++ r) = l.contains r
  | [], _ => rfl
  | x :: l, r => by
    simp only [List.map_cons, List.contains_cons, contains_mapq q l r]
    congr 1
    by_cases h : r = x
    · subst h; simp
    · have h1 : (r == x) = false := by simpa using h
      rw [h1]
      simpa using h
theorem contains_mapq_no (q : List Nat) : ∀ (l : List (List Nat)) (r : List Nat), pre q r = false → (l.map (q ++ ·)).contains r = false
  | [], _, _ => rfl
  | x :: l, r, h => by
    simp only [List.map_cons, List.contains_cons, contains_mapq_no q l r h, Bool.or_false]
    cases hc : (r == q ++ x) with
    | false => rfl
    | true =>
      have := (beq_iff_eq).1 hc
      rw [this, pre_app] at h
      cases h
theorem pre_drop : ∀ (q r : List Nat), pre q r = true → q ++ r.drop q.length = r
  | [], r, _ => rfl
  | a :: q, [], h => by simp [pre] at h
  | a :: q, b :: r, h => by
    simp only [pre, Bool.and_eq_true, beq_iff_eq] at h
    obtain ⟨rfl, h⟩ := h
    simp [pre_drop q r h]
section
variable {E : Env} {gh : Gh} {σ : St U} {a : Act} {w : World} {o : Oper}
theorem Sim.storeQ (hU : ULaw U) (S : Sim U E gh σ a w) {k : Nat} {b : Blk U} (hb : σ.blk k = some b) (hm : b.mem = true) {q : List Nat} {y z : U.D} (hset : setV U (q.map .fld) b.x y = some z) {off n : Nat} {t' : Ty} (hat : At U b.x.t (q.map .fld) off t') (hz : Sz U t' n)
    {η : Hdr} {ownN : List (List Nat)} {c' : List Value} (hnew : RepO U gh.F w η ownN [] y c') (hcl : c'.length = n) (hst : ∀ r ad cap, ownN.contains r = true → η r = (some ad, cap) → gh.st ad.block = .own k (some (q ++ r))) :
    ∃ (gh' : Gh) (cs : List Value) (tag : TypeId), w.heap[gh.base k]? = some (.cells cs.toArray tag (0, 0)) ∧ off + n ≤ cs.length ∧
      Sim U E gh' (σ.put (.blk k (some (b.cut q z (ownN.map (q ++ ·)))))) a (w.setRow (gh.base k) (cs.take off ++ c' ++ cs.drop (off + n)).toArray) := by
  obtain ⟨cs, tag, hh, hr⟩ := (RepBlk.of_mem hm).1 (S.blks k b hb)
  let hdr' : Hdr := fun r => if pre q r = true then η (r.drop q.length) else gh.hdr k r
  have hq : ∀ r, hdr' (q ++ r) = η r := by
    intro r
    simp only [hdr', pre_app, if_true, List.drop_left]
  let own' := ownN.map (q ++ ·) ++ b.own.filter (fun o => !pre q o)
  let dd' := b.dead.filter (fun o => !pre q o)
  have ho1 : ∀ r, own'.contains (q ++ r) = ownN.contains r := by
    intro r
    rw [contains_app, contains_mapq, contains_filter, pre_app]
    simp
  have ho2 : ∀ r, pre q r = false → own'.contains r = b.own.contains r := by
    intro r h
    rw [contains_app, contains_mapq_no q _ r h, contains_filter, h]
    simp
  have hd1 : ∀ r, dd'.contains (q ++ r) = false := by
    intro r
    rw [contains_filter, pre_app]
    simp
  obtain ⟨e0, e1, c1, c, c2, e2, e3, e4, e5⟩ := RepO.putQ hU (q := q) (η' := hdr') (own' := own') (dd' := dd') hat hz hr hset (fun r h => ⟨ho2 r h, by rw [contains_filter, h]; simp, by simp only [hdr', h, Bool.false_eq_true, if_false]⟩)
  have hfin := e5 c' (RepO.congr (fun r => ⟨by rw [subQ_contains, ho1], by rw [subQ_contains, hd1]; rfl, hq r⟩) hnew)
  have hcs : cs.take off ++ c' ++ cs.drop (off + n) = c1 ++ (c' ++ c2) := by
    rw [e2, ← e3, ← e4, List.take_left, List.append_assoc]
    congr 2
    rw [← List.append_assoc, ← List.length_append, List.drop_left]
  have hlen : off + n ≤ cs.length := by rw [e2, ← e3, ← e4]; simp
  let gh' : Gh := ⟨gh.base, upd gh.hdr k hdr', gh.st⟩
  have hbase : gh.st (gh.base k) = .own k none := S.owns k b hb _ none ⟨hm, rfl⟩
  have hoth : ∀ bn, bn ≠ gh.base k → (w.setRow (gh.base k) (c1 ++ (c' ++ c2)).toArray).heap[bn]? = w.heap[bn]? := fun bn h => setRow_other w (gh.base k) bn _ h
  refine ⟨gh', cs, tag, hh, hlen, ?_⟩
  rw [hcs]
  refine S.step (fun j => j = k) rfl rfl (fun bn _ hbn => hoth bn fun e => hbn k none (e ▸ hbase) rfl) (fun bn => .inl rfl) (by simp [World.setRow]) rfl rfl rfl (fun j c0 hj hc => ?_) (fun j c0 hj hc => ?_) (fun j c0 hc => ?_) (fun n => .inl ⟨rfl, rfl⟩)
  · rw [St.blk_put_ne σ _ (fun e => hj e.symm)] at hc
    exact ⟨hc, rfl, upd_ne _ _ hj⟩
  · subst hj
    simp only [St.blk_put_same, Option.some.injEq] at hc
    subst hc
    have hstq : ∀ r ad cap, own'.contains r = true → hdr' r = (some ad, cap) → gh.st ad.block = .own j (some r) := by
      intro r ad cap h1 h2
      cases hp : pre q r with
      | true =>
        have e := pre_drop q r hp
        rw [← e] at h1 h2 ⊢
        rw [ho1] at h1
        rw [hq] at h2
        exact hst _ ad cap h1 h2
      | false =>
        rw [ho2 r hp] at h1
        simp only [hdr', hp, Bool.false_eq_true, if_false] at h2
        exact S.owns j b hb ad.block (some r) ⟨ad, cap, h1, h2, rfl⟩
    refine ⟨(RepBlk.of_mem (by exact hm)).2 ⟨c1 ++ (c' ++ c2), tag, setRow_heap w (gh.base j) cs.toArray _ tag _ hh, ?_⟩, fun bn p hp => ?_⟩
    · show RepO U gh'.F _ (upd gh.hdr j hdr' j) own' dd' z _
      rw [upd_same]
      refine hfin.mono (fun bn hbn => ⟨hbn, hoth bn fun e => ?_⟩) fun r ad cap h1 h2 => hoth _ fun e => ?_
      · rw [Gh.F, e, hbase] at hbn; cases hbn
      · have := hstq r ad cap h1 h2
        rw [e, hbase] at this
        cases this
    · cases p with
      | none => exact S.owns j b hb bn none ⟨hm, hp.2⟩
      | some r =>
        obtain ⟨ad, cap, h1, h2, h3⟩ := hp
        have h2 : upd gh.hdr j hdr' j r = (some ad, cap) := h2
        rw [upd_same] at h2
        rw [← h3]
        exact hstq r ad cap h1 h2
  · by_cases hj : j = k
    · subst hj
      cases hb.symm.trans hc
      exact ⟨_, St.blk_put_same .., e0, rfl, rfl, .inr (Nat.lt_succ_self _)⟩
    · exact ⟨c0, by rw [St.blk_put_ne σ _ (fun e => hj e.symm)]; exact hc, LaterB.same c0 rfl (upd_ne _ _ hj)⟩
end
end Go.Ev
end
section
namespace Go.Ev
variable {U : Univ} {P : Program}
section
variable {E : Env} {gh : Gh} {σ : St U} {a : Act} {w : World} {o : Oper}
theorem store_fin {G : Ctx U} (hU : ULaw U) (hG : GOk P U G) (S : Sim U E gh σ a w) {T : TypeId} {xa xv : Operand} (ho : o.op = .store T xa xv) {t : Ty} (hT : G.ty T = some t) {ad : Addr} (hea : a.eval xa = .pointer (some ad)) {k : Nat} {b : Blk U} {q : List Nat} {t' : Ty}
    (hb : σ.blk k = some b) (hp : PtrAt gh k b (q.map .fld) t' ad) {y z : U.D} (hset : setV U (q.map .fld) b.x y = some z) (hyt : y.t = t) {η : Hdr} {ownN : List (List Nat)} {c' : List Value} (hnew : RepO U gh.F w η ownN [] y c') (hvo : VOf t c' (a.eval xv))
    (hst : ∀ r ad cap, ownN.contains r = true → η r = (some ad, cap) → gh.st ad.block = .own k (some (q ++ r))) :
    ∃ gh' g cur tag cur', w.heap[g]? = some (.cells cur tag (0, 0)) ∧ (∀ w' : World, w'.heap[g]? = some (.cells cur tag (0, 0)) → (execOp a.eval o).run P w' = .ok .skip (w'.setRow g cur')) ∧ gh.st g = .own k none ∧
      Sim U E gh' (σ.put (.blk k (some (b.cut q z (ownN.map (q ++ ·)))))) a (w.setRow g cur') := by
  obtain ⟨hm, off, hat, rfl⟩ := hp.flat (hasIx_flds q)
  obtain ⟨cs0, tag0, hh0, hr0⟩ := (RepBlk.of_mem hm).1 (S.blks k b hb)
  obtain ⟨n, hn⟩ := hasSize hU t'
  obtain ⟨_, e1, _⟩ := RepO.putQ hU (η' := gh.hdr k) (own' := b.own) (dd' := b.dead) hat hn hr0 hset (fun r _ => ⟨rfl, rfl, rfl⟩)
  have htt : t' = t := e1.symm.trans hyt
  subst htt
  have hcl : c'.length = n := hnew.length hU (by rw [hyt]; exact hn)
  obtain ⟨gh', cs, tag, hh, hlen, S'⟩ := S.storeQ hU hb hm hset hat hn hnew hcl hst
  refine ⟨gh', gh.base k, cs.toArray, tag, _, hh, fun w' hw' => ?_, S.owns k b hb _ none ⟨hm, rfl⟩, S'⟩
  have hrun := run_storeVar (hG.ty T _ hT).1 (w := w') (g := gh.base k) (o := off) hn hcl hvo hnew.one hw' (by simpa using hlen)
  unfold execOp
  rw [ho]
  simp only [Sem.run_bind, Instr.storeAt, hea, Instr.sureAddr, Sem.run_pure, Result.andThen_ok, hrun]
def StoreOk (P : Program) (U : Univ) (E : Env) (o : Oper) (gh : Gh) (σ : St U) (a : Act) (w : World) (us : List (Upd U)) : Prop :=
  ∃ gh' g cur tag cur' j p, w.heap[g]? = some (.cells cur tag (0, 0)) ∧ (∀ w' : World, w'.heap[g]? = some (.cells cur tag (0, 0)) → (execOp a.eval o).run P w' = .ok .skip (w'.setRow g cur')) ∧ gh.st g = .own j p ∧
    (∃ b, Upd.blk j b ∈ us) ∧ Sim U E gh' (σ.puts us) a (w.setRow g cur')
theorem StoreOk.step {us : List (Upd U)} (hd : o.dst = none) (h : StoreOk P U E o gh σ a w us) : StepOk P U E o σ a w us := by
  obtain ⟨gh', g, cur, tag, cur', j, p, h1, h2, _, _, S'⟩ := h
  intro K Q hK
  unfold Oper.wp
  rw [h2 w h1]
  simp only [Oper.upon_skip, hd]
  exact hK gh' a _ S'
theorem StepOk.skip {us : List (Upd U)} (hd : o.dst = none) {w' : World} (h : (execOp a.eval o).run P w = .ok .skip w') {gh' : Gh} (S' : Sim U E gh' (σ.puts us) a w') : StepOk P U E o σ a w us := by
  intro K Q hK
  unfold Oper.wp
  rw [h]
  simp only [Oper.upon_skip, hd]
  exact hK gh' a w' S'
end
end Go.Ev
end
section
namespace Go.Ev
variable {U : Univ} {P : Program}
section
variable {E : Env} {gh : Gh} {σ : St U} {a : Act} {w : World} {o : Oper}
theorem Sim.reown (S : Sim U E gh σ a w) {ad : Option Addr} (k : Nat) (p : Option (List Nat)) (hfree : ∀ c, ad = some c → (∃ k p, gh.st c.block = .own k p) ∧ ∀ k b, σ.blk k = some b → ∀ bn p, Ow gh k b bn p → bn ≠ c.block) :
    Sim U E ⟨gh.base, gh.hdr, stAt gh.st ad (.own k p)⟩ σ a w := by
  refine S.world (fun bn => ∃ c, ad = some c ∧ bn = c.block) (fun k b hb bn p ho ⟨c, hc, e⟩ => (hfree c hc).2 k b hb bn p ho e) (fun bn ⟨c, hc, e⟩ => .inl (e ▸ (hfree c hc).1)) rfl rfl (fun bn => ?_) (fun _ _ _ => rfl) (Nat.le_refl _) rfl rfl rfl
  cases had : ad with
  | none => exact .inl rfl
  | some c =>
    show upd gh.st c.block (.own k p) bn = _ ∨ _
    by_cases hb : bn = c.block
    · subst hb
      refine .inr ⟨⟨c, rfl, rfl⟩, ?_, k, p, upd_same _ _ _⟩
      obtain ⟨⟨k', p', h⟩, _⟩ := hfree c had
      rcases S.frm.bound c.block with h' | h'
      · rw [h'] at h; cases h
      · exact h'
    · exact .inl (upd_ne _ _ hb)
end
end Go.Ev
end
section
namespace Go.Ev
variable {U : Univ} {P : Program}
section
variable {E : Env} {gh : Gh} {σ : St U} {a : Act} {w : World} {o : Oper}
mutual
theorem Rep.toRepO {F : Nat → Prop} {w : World} : ∀ {x : U.D} {cs : List Value}, Rep U F w x cs → ∃ η : Hdr, RepO U F w η [] [] x cs
  | _, _, .int h => ⟨fun _ => (none, 0), .leaf rfl rfl (.int h)⟩
  | _, _, .bool => ⟨fun _ => (none, 0), .leaf rfl rfl .bool⟩
  | _, _, .str h => ⟨fun _ => (none, 0), .leaf rfl rfl (.str h)⟩
  | _, _, .sl (a := a) (cap := cap) h1 h2 h3 h4 => ⟨fun _ => (a, cap), .frz rfl rfl (.sl h1 h2 h3 h4) rfl⟩
  | _, _, .arr h1 h2 => ⟨fun _ => (none, 0), .leaf rfl rfl (.arr h1 h2)⟩
  | _, _, .st h => let ⟨η, h'⟩ := RepL.toRepO 0 h; ⟨η, .st h'⟩
theorem RepL.toRepO {F : Nat → Prop} {w : World} : ∀ (j : Nat) {xs : List U.D} {cs : List Value}, RepL U F w xs cs → ∃ η : Hdr, RepOL U F w η [] [] j xs cs
  | _, _, _, .nil => ⟨fun _ => (none, 0), .nil⟩
  | j, _, _, .cons h hs => by
    obtain ⟨η1, h1⟩ := Rep.toRepO h
    obtain ⟨η2, h2⟩ := RepL.toRepO (j + 1) hs
    let η : Hdr := fun q => match q with
      | k :: r => if k = j then η1 r else η2 (k :: r)
      | [] => η2 []
    have e1 : (fun q => η (j :: q)) = η1 := by funext q; simp [η]
    refine ⟨η, .cons (by rw [e1]; exact h1) ?_⟩
    have aux : ∀ {xs : List U.D} {cs : List Value} (k : Nat), j < k → RepOL U F w η2 [] [] k xs cs → RepOL U F w η [] [] k xs cs := by
      intro xs
      induction xs with
      | nil => intro cs k _ h; cases h; exact .nil
      | cons y ys ih =>
        intro cs k hk h
        cases h with
        | cons g1 g2 =>
          have e2 : (fun q => η (k :: q)) = fun q => η2 (k :: q) := by funext q; simp [η, Nat.ne_of_gt hk]
          exact .cons (by rw [e2]; exact g1) (ih (k + 1) (by omega) g2)
    exact aux (j + 1) (by omega) h2
end
end
end Go.Ev
end
section
namespace Go.Ev
variable {U : Univ} {P : Program}
section
variable {E : Env} {gh : Gh} {σ : St U} {a : Act} {w : World} {o : Oper}
theorem run_setP_ret {p : List Step} {d y : U.D} {f : U.D → List (Upd U)} {us : List (Upd U)} (h : (setP p d y fun z => .ret (f z) : Out U).run σ = some us) : ∃ z, setV U p d y = some z ∧ us = f z := by
  rw [run_setP] at h
  simp only [Option.bind_eq_some_iff, run_ret, Option.some.injEq] at h
  obtain ⟨z, hz, rfl⟩ := h
  exact ⟨z, hz, rfl⟩
theorem storeF_new {G : Ctx U} (hU : ULaw U) (hG : GOk P U G) (S : Sim U E gh σ a w) {T : TypeId} {xa xv : Operand} (ho : o.op = .store T xa xv) {t : Ty} (hT : G.ty T = some t) {ad : Addr} (hea : a.eval xa = .pointer (some ad)) {k : Nat} {b : Blk U} {q : List Nat} {t' : Ty}
    (hb : σ.blk k = some b) (hp : PtrAt gh k b (q.map .fld) t' ad) {xw : AV U} (hx : RepAV U gh σ w xw (a.eval xv)) (hnr : ∀ k v q wn, xw ≠ .row k v q wn) {us : List (Upd U)} (h : (storeF k b (q.map .fld) q t xw : Out U).run σ = some us) : StoreOk P U E o gh σ a w us := by
  unfold storeF at h
  split at h
  · rename_i y
    split at h
    · rename_i hy
      obtain ⟨z, hz, rfl⟩ := run_setP_ret h
      cases hx with
      | d hx =>
        obtain ⟨cs, h1, h2⟩ := hx
        obtain ⟨η, h3⟩ := h1.toRepO
        obtain ⟨gh', g, cur, tag', cur', hh, hr, hst, S'⟩ := store_fin (P := P) hU hG S ho hT hea hb hp hz (Ty.beq_eq hy) (ownN := []) h3 (by rw [← Ty.beq_eq hy]; exact h2) (fun r ad cap h => by cases h)
        exact ⟨gh', g, cur, tag', cur', k, none, hh, hr, hst, ⟨_, List.mem_cons_self⟩, S'⟩
    · simp at h
  · rename_i cs
    unfold plainOf at h
    simp only at h
    split at h
    · rename_i y hag hzc hzd
      obtain ⟨z, hz, rfl⟩ := run_setP_ret h
      generalize hev : a.eval xv = vv at hx
      cases hx with
      | cagg =>
        obtain ⟨c, hc, h1, h2⟩ := zero_rep hU (F := gh.F) (w := w) deep t cs [] hzc deep y hzd
        rw [List.append_nil] at hc
        subst hc
        have hyt := zeroD_t hzd
        obtain ⟨gh', g, cur, tag', cur', hh, hr, hst, S'⟩ := store_fin (P := P) hU hG S ho hT hea hb hp hz hyt (h2 (fun _ => (none, 0)) (slP U deep t) [] (fun _ => rfl) (fun _ => rfl)) (by unfold VOf; rw [hag, if_pos rfl]; exact hev) (fun r ad cap _ h => by cases h)
        exact ⟨gh', g, cur, tag', cur', k, none, hh, hr, hst, ⟨_, List.mem_cons_self⟩, S'⟩
    · simp at h
  · rename_i y ns
    split at h
    · rename_i hy
      obtain ⟨z, hz, rfl⟩ := run_setP_ret h
      generalize hev : a.eval xv = vv at hx
      cases hx with
      | dz h1 h0 h2 =>
        have hyt := Ty.beq_eq hy
        obtain ⟨gh', g, cur, tag', cur', hh, hr, hst, S'⟩ := store_fin (P := P) hU hG S ho hT hea hb hp hz hyt h2 (by
          unfold VOf
          rw [← hyt]
          obtain ⟨yt, y⟩ := y
          cases yt <;> simp [Ty.isSt] at h1
          exact hev) (fun r ad cap hq h => by rw [h0 r hq] at h; cases h)
        exact ⟨gh', g, cur, tag', cur', k, none, hh, hr, hst, ⟨_, List.mem_cons_self⟩, S'⟩
    · simp at h
  · split at h
    · rename_i e
      obtain ⟨z, hz, rfl⟩ := run_setP_ret h
      generalize hev : a.eval xv = vv at hx
      cases hx with
      | nilsl =>
        obtain ⟨gh', g, cur, tag', cur', hh, hr, hst, S'⟩ := store_fin (P := P) hU hG S ho hT hea hb hp hz rfl (ownN := [[]]) (repO_nil hU (η := fun _ => (none, 0)) e rfl rfl) (by rw [hev]; rfl) (fun r ad cap _ h => by cases h)
        simp only [List.map_cons, List.map_nil, List.append_nil] at S'
        exact ⟨gh', g, cur, tag', cur', k, none, hh, hr, hst, ⟨_, List.mem_cons_self⟩, S'⟩
    · simp at h
  · rename_i k v q wn
    exact absurd rfl (hnr _ _ _ _)
  · simp at h
end
end Go.Ev
end
section
namespace Go.Ev
variable {U : Univ} {P : Program}
section
variable {E : Env} {gh : Gh} {σ : St U} {a : Act} {w : World} {o : Oper}
theorem win_ty {y : U.D} {wn : Win} {e : Ty} {l : List (e.den U.car)} (h : win y wn = some ⟨.sl e, l⟩) : ∃ l0, y = ⟨.sl e, l0⟩ := by
  obtain ⟨yt, y⟩ := y
  unfold win at h
  split at h
  · rename_i e' l' heq
    cases heq
    cases wn <;> simp only [Option.some.injEq, D.mk.injEq] at h <;> (obtain ⟨h, _⟩ := h; injection h with h; subst h; exact ⟨_, rfl⟩)
  · cases h
theorem Sim.ownHead (hU : ULaw U) (S : Sim U E gh σ a w) {k v : Nat} {b : Blk U} {q : List Nat} {e : Ty} {l0 l : List (e.den U.car)} {wn : Win} {u : Value} (hb : σ.blk k = some b) (ho : b.own.contains q = true) (hd : b.dead.contains q = false) (hver : v = b.ver)
    (hg : getQ U q b.x = some ⟨.sl e, l0⟩) (hw : win (U := U) ⟨.sl e, l0⟩ wn = some ⟨.sl e, l⟩) (hh : wn.head = true) (hx : RepAV U gh σ w (.row k v q wn) u) :
    ∃ ad cap tag n xs, u = .slice ad l.length cap ∧ Sz U e n ∧ RepL U gh.F w (l.map (D.mk e)) xs ∧ w.ownsRow 0 tag n (.slice ad l.length cap) l.length xs ∧ ∀ c, ad = some c → gh.st c.block = .own k (some q) := by
  obtain ⟨ad, cap, tag, n, xs, h1, h2, h3, h4, h5⟩ := S.ownRow hU hb ho hd hg
  cases hx with
  | row _ hr =>
    obtain ⟨b', hb', _, hr⟩ := hr
    cases hb.symm.trans hb'
    obtain ⟨m, hm, hr⟩ := hr hver e l0 hg
    cases wn with
    | all =>
      simp only [win, Option.some.injEq, D.mk.injEq, heq_eq_eq, true_and] at hw
      subst hw
      have hr : u = .slice (gh.hdr k q).1 l0.length (gh.hdr k q).2 := hr
      rw [h1] at hr
      exact ⟨ad, cap, tag, n, xs, hr, h2, h3, h4, h5⟩
    | pre j =>
      simp only [win, Option.some.injEq, D.mk.injEq, heq_eq_eq, true_and] at hw
      subst hw
      obtain ⟨s0, s1, s2⟩ := hr
      rw [h1] at s2
      have hlen : (l0.take j.toNat).length = j.toNat := by rw [List.length_take]; omega
      rw [hlen]
      exact ⟨ad, cap, tag, n, _, s2, h2, h3.take hU h2 _, ownsRow_pre h4 s1, h5⟩
    | full j =>
      simp only [win, Option.some.injEq, D.mk.injEq, heq_eq_eq, true_and] at hw
      subst hw
      obtain ⟨s0, s1, s2, _⟩ := hr
      rw [h1] at s2
      have hlen : (l0.take j.toNat).length = j.toNat := by rw [List.length_take]; omega
      rw [hlen]
      exact ⟨ad, cap, tag, n, _, s2, h2, h3.take hU h2 _, ownsRow_pre h4 s1, h5⟩
    | mid _ _ => cases hh
end
end Go.Ev
end
section
namespace Go.Ev
variable {U : Univ} {P : Program}
section
variable {E : Env} {gh : Gh} {σ : St U} {a : Act} {w : World} {o : Oper}
theorem storeF_row {G : Ctx U} (hU : ULaw U) (hG : GOk P U G) (S : Sim U E gh σ a w) {T : TypeId} {xa xv : Operand} (ho : o.op = .store T xa xv) {t : Ty} (hT : G.ty T = some t) {ad : Addr} (hea : a.eval xa = .pointer (some ad)) {k : Nat} {b : Blk U} {q : List Nat} {t' : Ty}
    (hb : σ.blk k = some b) (hp : PtrAt gh k b (q.map .fld) t' ad) {k' v' : Nat} {q' : List Nat} {wn : Win} (hx : RepAV U gh σ w (.row k' v' q' wn) (a.eval xv)) {us : List (Upd U)} (h : (storeF k b (q.map .fld) q t (.row k' v' q' wn) : Out U).run σ = some us) : StoreOk P U E o gh σ a w us := by
  simp only [storeF] at h
  replace h := rowOf_some h
  obtain ⟨b', y0, hb', hdead, hver, hg, h⟩ := h
  split at h
  case h_2 => simp at h
  rename_i y hy
  split at h
  · simp at h
  rename_i hyt
  simp only [Bool.not_eq_true', Bool.not_eq_false] at hyt
  rw [run_setP] at h
  simp only [Option.bind_eq_some_iff] at h
  obtain ⟨z, hz, h⟩ := h
  obtain ⟨yt, y⟩ := y
  have hsl : ∃ e, yt = .sl e := by
    unfold win at hy
    split at hy
    · cases wn <;> simp only [Option.some.injEq, D.mk.injEq] at hy <;> exact ⟨_, hy.1.symm⟩
    · cases hy
  obtain ⟨e, rfl⟩ := hsl
  have hte := Ty.beq_eq hyt
  simp only at hte
  subst hte
  obtain ⟨l0, rfl⟩ := win_ty hy
  split at h
  · rename_i hcond
    simp only [Bool.and_eq_true] at hcond
    obtain ⟨rad, cap, tag, n, xs, hu, hn, hr, hown, hst⟩ := S.ownHead hU hb' hcond.1 (dead_no hdead) hver hg hy hcond.2 hx
    split at h
    · rename_i hkk
      have hkk := (beq_iff_eq).1 hkk
      subst hkk
      split at h
      · rename_i hqq
        have hqq := (beq_iff_eq).1 hqq
        subst hqq
        simp only [run_ret, Option.some.injEq] at h
        subst h
        obtain ⟨gh', g, cur, tag', cur', hh, hr, hst, S'⟩ := store_fin (P := P) hU hG S ho hT hea hb hp hz rfl (ownN := [[]]) (η := fun _ => (rad, cap)) (.row rfl rfl hn hr hown rfl) (by rw [hu]; rfl) (fun r ad cap' h1 h2 => by
          have hr0 : r = [] := by simpa using h1
          subst hr0
          cases h2
          rw [List.append_nil]
          exact hst _ rfl)
        simp only [List.map_cons, List.map_nil, List.append_nil] at S'
        exact ⟨gh', g, cur, tag', cur', _, none, hh, hr, hst, ⟨_, List.mem_cons_self⟩, S'⟩
      · simp at h
    · rename_i hkk
      have hkk : k' ≠ k := by simpa using hkk
      simp only [run_ret, Option.some.injEq] at h
      subst h
      have S1 := S.kill hU hb' hg rfl
      have S2 := S1.reown (ad := rad) k (some q) (fun c hc => ⟨⟨k', some q', hst c hc⟩, fun k1 b1 hb1 bn p ho1 => S.killed (hst c hc) hb1 hb' ho1⟩)
      have hF : ∀ bn, gh.F bn → stAt gh.st rad (.own k (some q)) bn = .frz := by
        intro bn hbn
        cases hrad : rad with
        | none => exact hbn
        | some c =>
          show upd gh.st c.block _ bn = _
          rw [upd_ne]
          · exact hbn
          · intro e1
            have := hst c hrad
            rw [← e1] at this
            rw [Gh.F, this] at hbn
            cases hbn
      obtain ⟨gh', g, cur, tag', cur', hh, hrx, hstx, S'⟩ := store_fin (P := P) hU hG S2 ho hT hea (b := b) (by rw [St.blk_put_ne σ _ hkk]; exact hb) (PtrAt.congr (gh := gh) (b := b) rfl rfl rfl rfl hp) hz rfl (ownN := [[]]) (η := fun _ => (rad, cap)) (.row rfl rfl hn (hr.mono fun bn hbn => ⟨hF bn hbn, rfl⟩) hown rfl) (by rw [hu]; rfl) (fun r ad cap' h1 h2 => by
        have hr0 : r = [] := by simpa using h1
        subst hr0
        cases h2
        rw [List.append_nil]
        exact upd_same _ _ _)
      simp only [List.map_cons, List.map_nil, List.append_nil] at S'
      refine ⟨gh', g, cur, tag', cur', k, none, hh, hrx, ?_, ⟨_, List.mem_cons_of_mem _ List.mem_cons_self⟩, S'⟩
      have hstx : stAt gh.st rad (.own k (some q)) g = .own k none := hstx
      cases hrad : rad with
      | none => rw [hrad] at hstx; exact hstx
      | some c =>
        rw [hrad] at hstx
        have hstx : upd gh.st c.block (.own k (some q)) g = .own k none := hstx
        by_cases e : g = c.block
        · rw [e, upd_same] at hstx
          cases hstx
        · rw [upd_ne _ _ e] at hstx
          exact hstx
  · split at h
    · simp at h
    · split at h
      · simp at h
      · rename_i hno
        simp only [run_ret, Option.some.injEq] at h
        subst h
        have R := S.rowRep hU hb' (by simpa using hno) (dead_no hdead) hg
        generalize hev : a.eval xv = vv at hx
        cases hx with
        | row _ hr =>
          obtain ⟨b2, hb2, _, hr⟩ := hr
          cases hb'.symm.trans hb2
          obtain ⟨n, hn, hr⟩ := hr hver e l0 hg
          obtain ⟨cs, h1, h2⟩ := Rep.win hU R hn hr hy
          obtain ⟨η, h3⟩ := h1.toRepO
          obtain ⟨gh', g, cur, tag', cur', hh, hr, hst, S'⟩ := store_fin (P := P) hU hG S ho hT hea hb hp hz rfl (ownN := []) h3 (by rw [hev]; exact h2) (fun r ad cap h => by cases h)
          exact ⟨gh', g, cur, tag', cur', k, none, hh, hr, hst, ⟨_, List.mem_cons_self⟩, S'⟩
end
end Go.Ev
end
section
namespace Go.Ev
variable {U : Univ} {P : Program}
theorem setV_t : ∀ {p : List Step} {d y d' : U.D}, setV U p d y = some d' → d'.t = d.t
  | [], d, y, d', h => by
    simp only [setV] at h
    split at h
    · rename_i hb
      cases h
      exact Ty.beq_eq hb
    · cases h
  | .fld j :: p, ⟨t, x⟩, y, d', h => by
    cases t <;> simp only [setV] at h <;> first | cases h | skip
    split at h
    · simp only [Option.bind_eq_some_iff] at h
      obtain ⟨z', _, h⟩ := h
      split at h
      · cases h; rfl
      · cases h
    · cases h
  | .ix i :: p, ⟨t, x⟩, y, d', h => by
    cases t <;> simp only [setV] at h <;> first | cases h | skip
    all_goals
      simp only [Option.bind_eq_some_iff] at h
      obtain ⟨z, _, z', _, h⟩ := h
      split at h
      · cases h; rfl
      · cases h
theorem setV_front : ∀ (q : List Nat) (r : List Step) (x y z : U.D), setV U (q.map .fld ++ r) x y = some z → ∃ u u', getV U (q.map .fld) x = some u ∧ setV U r u y = some u' ∧ setV U (q.map .fld) x u' = some z
  | [], r, x, y, z, h => ⟨x, z, rfl, h, by
      have ht := setV_t h
      simp only [List.map_nil, setV]
      rw [if_pos (by rw [ht]; exact Ty.beq_self _)]⟩
  | j :: q, r, ⟨t, x⟩, y, z, h => by
    cases t <;> simp only [List.map_cons, List.cons_append, setV] at h <;> first | cases h | skip
    rename_i id
    cases hj : (U.get id x)[j]? with
    | none => simp [hj] at h
    | some x1 =>
      simp only [hj, Option.bind_eq_some_iff] at h
      obtain ⟨z', hz', h⟩ := h
      obtain ⟨u, u', h1, h2, h3⟩ := setV_front q r x1 y z' hz'
      refine ⟨u, u', ?_, h2, ?_⟩
      · simp only [List.map_cons, getV, hj, h1]
      · simp only [List.map_cons, setV, hj, h3, Option.bind_some]
        exact h
theorem setV_len (hU : ULaw U) : ∀ {p : List Step} {x y z : U.D}, hasIx p = true → setV U p x y = some z → ∀ q e l, getQ U q z = some ⟨.sl e, l⟩ → ∃ l', getQ U q x = some ⟨.sl e, l'⟩ ∧ l.length = l'.length
  | [], x, y, z, hi, h, q, e, l, hg => by simp [hasIx] at hi
  | .fld j :: p, ⟨t, x⟩, y, z, hi, h, q, e, l, hg => by
    cases t <;> simp only [setV] at h <;> first | cases h | skip
    rename_i id
    cases hj : (U.get id x)[j]? with
    | none => simp [hj] at h
    | some x1 =>
      simp only [hj, Option.bind_eq_some_iff] at h
      obtain ⟨z', hz', h⟩ := h
      cases hp : U.put id ((U.get id x).set j z') with
      | none => simp [hp] at h
      | some x2 =>
        simp only [hp, Option.some.injEq] at h
        subst h
        cases q with
        | nil => simp [getQ] at hg
        | cons i q =>
          simp only [getQ] at hg ⊢
          rw [hU.put id _ _ hp] at hg
          by_cases hij : i = j
          · subst hij
            have hlt := getElem?_lt hj
            simp only [List.getElem?_set_self hlt] at hg
            obtain ⟨l', h1, h2⟩ := setV_len hU (p := p) (by exact hi) hz' q e l hg
            exact ⟨l', by simp only [hj, h1], h2⟩
          · rw [List.getElem?_set_ne (fun e => hij e.symm)] at hg
            exact ⟨l, hg, rfl⟩
  | .ix i :: p, ⟨t, x⟩, y, z, hi, h, q, e, l, hg => by
    cases t <;> simp only [setV] at h <;> first | cases h | skip
    · simp only [Option.bind_eq_some_iff] at h
      obtain ⟨x1, _, z', _, h⟩ := h
      split at h
      · cases h
        cases q with
        | nil =>
          simp only [getQ, Option.some.injEq] at hg ⊢
          cases hg
          exact ⟨x, rfl, by simp⟩
        | cons j q => simp [getQ] at hg
      · cases h
    · simp only [Option.bind_eq_some_iff] at h
      obtain ⟨x1, _, z', _, h⟩ := h
      split at h
      · cases h
        cases q with
        | nil => simp [getQ] at hg
        | cons j q => simp [getQ] at hg
      · cases h
theorem RepO.putA {F : Nat → Prop} {w : World} (hU : ULaw U) : ∀ {p : List Step} {η : Hdr} {own dd : List (List Nat)} {x y' x' : U.D} {o n : Nat} {t' : Ty} {cs : List Value}, At U x.t p o t' → Sz U t' n → hasIx p = true → RepO U F w η own dd x cs → setV U p x y' = some x' →
    x'.t = x.t ∧ y'.t = t' ∧ ∃ c1 c c2, cs = c1 ++ (c ++ c2) ∧ c1.length = o ∧ c.length = n ∧ ∀ c', Rep U F w y' c' → RepO U F w η own dd x' (c1 ++ (c' ++ c2)) := by
  intro p
  induction p with
  | nil =>
    intro η own dd x y' x' o n t' cs ha hz hi
    simp [hasIx] at hi
  | cons s p ih =>
    intro η own dd x y' x' o n t' cs ha hz hi hr hg
    obtain ⟨t, x⟩ := x
    change At U t (s :: p) o t' at ha
    cases ha with
    | fld h1 h2 h3 =>
      rename_i id j o o' u
      simp only [setV] at hg
      have hr := hr.st_inv
      cases hj : (U.get id x)[j]? with
      | none => simp [hj] at hg
      | some z =>
        simp only [hj] at hg
        cases hsv : setV U p z y' with
        | none => simp [hsv] at hg
        | some z' =>
          simp only [hsv, Option.bind_some] at hg
          cases hp : U.put id ((U.get id x).set j z') with
          | none => simp [hp] at hg
          | some x2 =>
            simp only [hp, Option.some.injEq] at hg
            subst hg
            have hzt : z.t = u := by
              have e := hU.tys id x
              have : ((U.get id x).map D.t)[j]? = some z.t := by simp [hj]
              rw [e, h1] at this
              simpa using this.symm
            obtain ⟨c1, c, c2, rfl, g1, g2, g3⟩ := hr.get hU hj
            simp only [Nat.zero_add] at g1 g3
            have hl : c1.length = o := g2 _ (by rw [hU.tys id x]; exact h2)
            obtain ⟨e0, e1, d1, d, d2, rfl, e2, e3, e4⟩ := ih (by rw [hzt]; exact h3) hz hi g1 hsv
            refine ⟨rfl, e1, c1 ++ d1, d, d2 ++ c2, by simp [List.append_assoc], by simp [hl, e2], e3, fun c' hc => .st ?_⟩
            rw [hU.put id _ _ hp]
            have := g3 η own dd z' _ (fun k r hk => ⟨rfl, rfl, rfl⟩) (e4 c' hc)
            simpa [List.append_assoc] using this
    | ix h1 h2 h3 h4 =>
      have hr := hr.arr_inv
      obtain ⟨e0, e1, c1, c, c2, e2, e3, e4, e5⟩ := Rep.put hU (At.ix h1 h2 h3 h4) hz hr hg
      refine ⟨e0, e1, c1, c, c2, e2, e3, e4, fun c' hc => .leaf (by rw [e0]; rfl) (by rw [e0]; rfl) (e5 c' hc)⟩
section
variable {E : Env} {gh : Gh} {σ : St U} {a : Act} {w : World} {o : Oper}
theorem Sim.storeA (hU : ULaw U) (S : Sim U E gh σ a w) {k : Nat} {b : Blk U} (hb : σ.blk k = some b) (hm : b.mem = true) {p : List Step} {y z : U.D} (hset : setV U p b.x y = some z) (hix : hasIx p = true) {off n : Nat} {t' : Ty} (hat : At U b.x.t p off t') (hz : Sz U t' n)
    {c' : List Value} (hnew : Rep U gh.F w y c') :
    ∃ (cs : List Value) (tag : TypeId), w.heap[gh.base k]? = some (.cells cs.toArray tag (0, 0)) ∧ off + n ≤ cs.length ∧
      Sim U E gh (σ.put (.blk k (some { b with x := z }))) a (w.setRow (gh.base k) (cs.take off ++ c' ++ cs.drop (off + n)).toArray) := by
  obtain ⟨cs, tag, hh, hr⟩ := (RepBlk.of_mem hm).1 (S.blks k b hb)
  have hbase : gh.st (gh.base k) = .own k none := S.owns k b hb _ none ⟨hm, rfl⟩
  have hoth : ∀ (l : Array Value) bn, bn ≠ gh.base k → (w.setRow (gh.base k) l).heap[bn]? = w.heap[bn]? := fun l bn h => setRow_other w (gh.base k) bn _ h
  have hFm : ∀ (l : Array Value) bn, gh.F bn → gh.F bn ∧ (w.setRow (gh.base k) l).heap[bn]? = w.heap[bn]? := fun l bn hbn => ⟨hbn, hoth l bn fun e => by rw [Gh.F, e, hbase] at hbn; cases hbn⟩
  have hr' : ∀ l : Array Value, RepO U gh.F (w.setRow (gh.base k) l) (gh.hdr k) b.own b.dead b.x cs := fun l => hr.mono (hFm l) fun r ad cap h1 h2 => hoth l _ fun e => by
    have := S.owns k b hb ad.block (some r) ⟨ad, cap, h1, h2, rfl⟩
    rw [e, hbase] at this
    cases this
  obtain ⟨e0, e1, c1, c, c2, e2, e3, e4, _⟩ := RepO.putA hU hat hz hix hr hset
  have hcs : cs.take off ++ c' ++ cs.drop (off + n) = c1 ++ (c' ++ c2) := by
    rw [e2, ← e3, ← e4, List.take_left, List.append_assoc]
    congr 2
    rw [← List.append_assoc, ← List.length_append, List.drop_left]
  have hlen : off + n ≤ cs.length := by rw [e2, ← e3, ← e4]; simp
  refine ⟨cs, tag, hh, hlen, ?_⟩
  rw [hcs]
  obtain ⟨_, _, d1, d, d2, f2, f3, f4, f5⟩ := RepO.putA hU hat hz hix (hr' (c1 ++ (c' ++ c2)).toArray) hset
  have hfin := f5 c' (hnew.mono (hFm _))
  have hdd : d1 ++ (c' ++ d2) = c1 ++ (c' ++ c2) := by
    have h12 : d1 ++ (d ++ d2) = c1 ++ (c ++ c2) := f2.symm.trans e2
    have hl : d1.length = c1.length := f3.trans e3.symm
    obtain ⟨g1, g2⟩ := List.append_inj h12 hl
    obtain ⟨_, g4⟩ := List.append_inj g2 (f4.trans e4.symm)
    rw [g1, g4]
  rw [hdd] at hfin
  refine S.step (fun j => j = k) rfl rfl (fun bn _ hbn => hoth _ bn fun e => hbn k none (e ▸ hbase) rfl) (fun bn => .inl rfl) (by simp [World.setRow]) rfl rfl rfl (fun j c0 hj hc => ?_) (fun j c0 hj hc => ?_) (fun j c0 hc => ?_) (fun n => .inl ⟨rfl, rfl⟩)
  · rw [St.blk_put_ne σ _ (fun e => hj e.symm)] at hc
    exact ⟨hc, rfl, rfl⟩
  · subst hj
    simp only [St.blk_put_same, Option.some.injEq] at hc
    subst hc
    refine ⟨(RepBlk.of_mem (by exact hm)).2 ⟨c1 ++ (c' ++ c2), tag, setRow_heap w (gh.base j) cs.toArray _ tag _ hh, hfin⟩, fun bn p hp => ?_⟩
    refine S.owns j b hb bn p ?_
    cases p with
    | none => exact hp
    | some r => exact hp
  · by_cases hj : j = k
    · subst hj
      cases hb.symm.trans hc
      exact ⟨_, St.blk_put_same .., e0, rfl, rfl, .inl ⟨rfl, fun _ => rfl, setV_len hU hix hset⟩⟩
    · exact ⟨c0, by rw [St.blk_put_ne σ _ (fun e => hj e.symm)]; exact hc, LaterB.same c0 rfl rfl⟩
theorem Sim.storeR (hU : ULaw U) (S : Sim U E gh σ a w) {k : Nat} {b : Blk U} {q : List Nat} {e : Ty} {l : List (e.den U.car)} {i : Nat} {v0 v' : e.den U.car} {p : List Step} {y z : U.D} (hb : σ.blk k = some b) (ho : b.own.contains q = true) (hd : b.dead.contains q = false)
    (hg : getQ U q b.x = some ⟨.sl e, l⟩) (hi : l[i]? = some v0) (hs : setV U p ⟨e, v0⟩ y = some ⟨e, v'⟩) (hset : setV U (q.map .fld) b.x ⟨.sl e, l.set i v'⟩ = some z) {o n m cap : Nat} {t' : Ty} {ad : Addr} (hat : At U e p o t') (hz : Sz U t' n) (hm : Sz U e m) (hh : gh.hdr k q = (some ad, cap))
    {c' : List Value} (hnew : Rep U gh.F w y c') (hlater : ∀ r e l, getQ U r z = some ⟨.sl e, l⟩ → ∃ l', getQ U r b.x = some ⟨.sl e, l'⟩ ∧ l.length = l'.length) :
    ∃ (cur : Array Value) (tag : TypeId), ad = ⟨ad.block, 0, none⟩ ∧ w.heap[ad.block]? = some (.cells cur tag (0, 0)) ∧ i * m + o + n ≤ cur.size ∧
      Sim U E gh (σ.put (.blk k (some { b with x := z }))) a (w.setRow ad.block (cur.toList.take (i * m + o) ++ c' ++ cur.toList.drop (i * m + o + n)).toArray) := by
  obtain ⟨ad0, cap0, tag, m', xs, h1, h2, h3, h4, h5⟩ := S.ownRow hU hb ho hd hg
  rw [hh] at h1
  cases h1
  cases hm.uniq h2
  have hlt : i < l.length := getElem?_lt hi
  obtain ⟨hxl, hrow⟩ := h4
  rcases hrow with ⟨h6, _⟩ | ⟨g, cap', cur, h6, _, h7, h8, h9, h10, h11⟩
  · cases h6
  cases h6
  have hi' : (l.map (D.mk e) : List U.D)[i]? = some ⟨e, v0⟩ := by simp [hi]
  obtain ⟨c1, c, c2, e2, g1, g2, g3⟩ := h3.get hi'
  have hl1 : c1.length = i * m := by
    have g1' := g1
    rw [← List.map_take] at g1'
    rw [g1'.length_map hU hm, List.length_take]
    congr 1
    omega
  obtain ⟨_, hyt, d1, d, d2, f1, f2, f3, _⟩ := Rep.put hU (x := ⟨e, v0⟩) hat hz g2 hs
  obtain ⟨rest, hrest⟩ : ∃ rest, cur.toList = xs ++ rest := ⟨cur.toList.drop (l.length * m), by rw [← h11, List.take_append_drop]⟩
  have hcl : c'.length = n := hnew.length hU (by rw [hyt]; exact hz)
  have hst : gh.st g = .own k (some q) := h5 _ rfl
  have hcur : cur.toList.take (i * m + o) ++ c' ++ cur.toList.drop (i * m + o + n) = (c1 ++ (d1 ++ (c' ++ d2) ++ c2)) ++ rest := by
    have e9 : cur.toList = (c1 ++ d1) ++ (d ++ (d2 ++ c2 ++ rest)) := by rw [hrest, e2, f1]; simp [List.append_assoc]
    have el : (c1 ++ d1).length = i * m + o := by simp [hl1, f2]
    rw [e9, ← el, List.take_left, ← f3]
    have e10 : (c1 ++ d1).length + d.length = ((c1 ++ d1) ++ d).length := by simp [Nat.add_assoc]
    rw [e10, ← List.append_assoc (c1 ++ d1) d, List.drop_left]
    simp [List.append_assoc]
  have hfit : i * m + o + n ≤ cur.size := by
    have : cur.toList.length = (c1 ++ d1).length + (d.length + (d2 ++ c2 ++ rest).length) := by rw [hrest, e2, f1]; simp [List.append_assoc]; omega
    simp only [Array.length_toList, List.length_append, hl1, f2, f3] at this
    omega
  refine ⟨cur, tag, rfl, h7, hfit, ?_⟩
  rw [hcur]
  generalize hcur' : ((c1 ++ (d1 ++ (c' ++ d2) ++ c2)) ++ rest).toArray = cur'
  have hcsz : cur'.size = cur.size := by
    rw [← hcur', ← Array.length_toList (xs := cur), hrest, e2, f1]
    simp [hcl, f3]
  have hoth : ∀ bn, bn ≠ g → (w.setRow g cur').heap[bn]? = w.heap[bn]? := fun bn h => setRow_other w g bn _ h
  have hsame : (w.setRow g cur').heap[g]? = some (.cells cur' tag (0, 0)) := setRow_heap w g cur _ tag _ h7
  have hFm : ∀ bn, gh.F bn → gh.F bn ∧ (w.setRow g cur').heap[bn]? = w.heap[bn]? := fun bn hbn => ⟨hbn, hoth bn fun e => by rw [Gh.F, e, hst] at hbn; cases hbn⟩
  have hpre : ∀ {bn : Nat} {r : Option (List Nat)}, Ow gh k b bn r → r ≠ some q → bn ≠ g := by
    intro bn r hr hne e
    have := S.owns k b hb bn r hr
    rw [e, hst] at this
    cases this
    exact hne rfl
  have key : ∀ {cs : List Value}, RepO U gh.F w (gh.hdr k) b.own b.dead b.x cs → RepO U gh.F (w.setRow g cur') (gh.hdr k) b.own b.dead z cs := by
    intro cs hr
    have hk := RepO.kill hU hg rfl (fun r => contains_filter b.own q r) (fun r => contains_cons q r b.dead) hr
    have hk' := hk.mono hFm fun r ad cap r1 r2 => hoth _ (by
      have r1' : (b.own.contains r && !pre q r) = true := by rw [← contains_filter]; exact r1
      simp only [Bool.and_eq_true, Bool.not_eq_true'] at r1'
      refine hpre (r := some r) ⟨ad, cap, r1'.1, r2, rfl⟩ fun e => ?_
      cases e
      rw [pre_self] at r1'
      cases r1'.2)
    have hg' := hg
    rw [getQ_eq] at hg'
    obtain ⟨off0, hoo⟩ := At.ofGet hU q _ _ hg'
    obtain ⟨_, a1, a0, a2, ea, la, ha, _⟩ := RepO.at hU hoo hr hg'
    obtain ⟨e0', _, b1, b0, b2, eb, lb, lb0, hbb⟩ := RepO.putQ hU (η' := gh.hdr k) (own' := b.own) (dd' := b.dead) hoo .sl hk' hset (fun r hr => ⟨by rw [contains_filter, hr]; simp, by
      rw [contains_cons]
      have : (r == q) = false := by
        cases hrq : (r == q) with
        | false => rfl
        | true =>
          have := (beq_iff_eq).1 hrq
          rw [this, pre_self] at hr
          cases hr
      rw [this, Bool.false_or], rfl⟩)
    have ha := ha q (flds_map q)
    have ha0 : a0 = [.slice (some ⟨g, 0, none⟩) l.length cap] := by
      cases ha with
      | dead q1 _ _ _ => rw [subQ_contains, List.append_nil, hd] at q1; cases q1
      | leaf q1 _ _ => simp [Ty.isSl] at q1
      | frz q1 _ _ _ => rw [subQ_contains, List.append_nil, ho] at q1; cases q1
      | row _ _ _ _ _ q7 =>
        simp only [List.append_nil, hh] at q7
        cases q7
        rfl
    have h12 : a1 ++ (a0 ++ a2) = b1 ++ (b0 ++ b2) := ea.symm.trans eb
    obtain ⟨i1, i2⟩ := List.append_inj h12 (la.trans lb.symm)
    obtain ⟨i3, i4⟩ := List.append_inj i2 (by rw [ha0, lb0]; rfl)
    have hlen : (l.set i v').length = l.length := by simp
    have hnewrow : RepO U gh.F (w.setRow g cur') (fun r => gh.hdr k (q ++ r)) (subQ q b.own) (subQ q b.dead) ⟨.sl e, l.set i v'⟩ [.slice (some ⟨g, 0, none⟩) (l.set i v').length cap] := by
      refine .row (tag := tag) (n := m) (xs := c1 ++ (d1 ++ (c' ++ d2) ++ c2)) (by rw [subQ_contains, List.append_nil]; exact ho) (by rw [subQ_contains, List.append_nil]; exact hd) hm ?_ ?_ (by simp only [List.append_nil, hh])
      · have hput := Rep.put hU (x := ⟨e, v0⟩) hat hz (g2.mono hFm) hs
        obtain ⟨_, _, k1, k0, k2, kk1, kk2, kk3, kk4⟩ := hput
        have kk := kk4 c' (hnew.mono hFm)
        have h13 : d1 ++ (d ++ d2) = k1 ++ (k0 ++ k2) := f1.symm.trans kk1
        obtain ⟨j1, j2⟩ := List.append_inj h13 (f2.trans kk2.symm)
        obtain ⟨j3, j4⟩ := List.append_inj j2 (f3.trans kk3.symm)
        rw [← j1, ← j4] at kk
        have := RepL.sets hi' (g1.mono hFm) kk (g3.mono hFm)
        rw [List.map_set]
        exact this
      · rw [hlen]
        refine ⟨by rw [← hxl, e2, f1]; simp [hcl, f3], .inr ⟨g, cap, cur', rfl, Nat.zero_le _, hsame, h8, h9, hcsz.trans h10, ?_⟩⟩
        rw [← hcur']
        have : l.length * m = (c1 ++ (d1 ++ (c' ++ d2) ++ c2)).length := by rw [← hxl, e2, f1]; simp [hcl, f3]
        simp only [this, List.take_left]
    rw [hlen] at hnewrow
    have hfin := hbb _ hnewrow
    rw [eb, ← i3, ha0]
    exact hfin
  refine S.step (fun j => j = k) rfl rfl (fun bn _ hbn => hoth bn fun e => hbn k (some q) (e ▸ hst) rfl) (fun bn => .inl rfl) (by simp [World.setRow]) rfl rfl rfl (fun j c0 hj hc => ?_) (fun j c0 hj hc => ?_) (fun j c0 hc => ?_) (fun n => .inl ⟨rfl, rfl⟩)
  · rw [St.blk_put_ne σ _ (fun e => hj e.symm)] at hc
    exact ⟨hc, rfl, rfl⟩
  · subst hj
    simp only [St.blk_put_same, Option.some.injEq] at hc
    subst hc
    refine ⟨?_, fun bn p hp => S.owns j b hb bn p (by cases p with | none => exact hp | some r => exact hp)⟩
    have hr := S.blks j b hb
    cases hmm : b.mem with
    | true =>
      obtain ⟨cs, tag', hcs, hr⟩ := (RepBlk.of_mem hmm).1 hr
      refine (RepBlk.of_mem rfl).2 ⟨cs, tag', ?_, key hr⟩
      rw [hoth _ (hpre (r := none) ⟨hmm, rfl⟩ (by simp))]
      exact hcs
    | false =>
      obtain ⟨hsl, v, hr⟩ := (RepBlk.of_not hmm).1 hr
      refine (RepBlk.of_not rfl).2 ⟨?_, v, key hr⟩
      show z.t.isSl = true
      rw [setV_t hset]
      exact hsl
  · by_cases hj : j = k
    · subst hj
      cases hb.symm.trans hc
      exact ⟨_, St.blk_put_same .., setV_t hset, rfl, rfl, .inl ⟨rfl, fun _ => rfl, hlater⟩⟩
    · exact ⟨c0, by rw [St.blk_put_ne σ _ (fun e => hj e.symm)]; exact hc, LaterB.same c0 rfl rfl⟩
end
end Go.Ev
end
section
namespace Go.Ev
variable {U : Univ} {P : Program}
section
variable {E : Env} {gh : Gh} {σ : St U} {a : Act} {w : World} {o : Oper}
theorem Sim.ext {σ' : St U} (S : Sim U E gh σ a w) (h1 : ∀ n, σ'.slot n = σ.slot n) (h2 : ∀ k, σ'.blk k = σ.blk k) : Sim U E gh σ' a w :=
  S.step (fun _ => False) rfl rfl (fun _ _ _ => rfl) (fun _ => .inl rfl) (Nat.le_refl _) rfl rfl rfl (fun k _ _ h => ⟨(h2 k).symm.trans h, rfl, rfl⟩) (fun _ _ h => h.elim)
    (fun k b h => ⟨b, (h2 k).trans h, LaterB.refl gh k b⟩) fun n => .inl ⟨h1 n, rfl⟩
def FrzOk (σ : St U) (y : Nat × Blk U) : Prop := ∃ b q, σ.blk y.1 = some b ∧ y.2 = b.frozen q
def KeysApart : List (Nat × Blk U) → Prop
  | [] => True
  | y :: fs => (∀ z ∈ fs, z.1 ≠ y.1) ∧ KeysApart fs
theorem slot_frz (σ : St U) : ∀ (fs : List (Nat × Blk U)) (n : Nat), (σ.puts (frz fs)).slot n = σ.slot n
  | [], _ => rfl
  | y :: fs, n => by
    show ((σ.put _).puts (frz fs)).slot n = _
    rw [slot_frz]
    rfl
theorem blk_frz_no : ∀ (fs : List (Nat × Blk U)) (σ : St U) (k : Nat), (∀ y ∈ fs, y.1 ≠ k) → (σ.puts (frz fs)).blk k = σ.blk k
  | [], _, _, _ => rfl
  | y :: fs, σ, k, h => by
    show ((σ.put (.blk y.1 (some y.2))).puts (frz fs)).blk k = _
    rw [blk_frz_no fs _ k fun z hz => h z (List.mem_cons_of_mem _ hz), St.blk_put_ne σ _ (h y List.mem_cons_self)]
theorem blk_frz_yes : ∀ (fs : List (Nat × Blk U)) (σ : St U) (y : Nat × Blk U), KeysApart fs → y ∈ fs → (σ.puts (frz fs)).blk y.1 = some y.2
  | [], _, _, _, h => by cases h
  | z :: fs, σ, y, hk, h => by
    show ((σ.put (.blk z.1 (some z.2))).puts (frz fs)).blk y.1 = _
    cases h with
    | head => rw [blk_frz_no fs _ _ hk.1, St.blk_put_same]
    | tail _ h => exact blk_frz_yes fs _ y hk.2 h
theorem blk_frz (fs : List (Nat × Blk U)) (hk : KeysApart fs) (hf : ∀ y ∈ fs, FrzOk σ y) {k : Nat} {b : Blk U} (hb : σ.blk k = some b) :
    ∃ b2, (σ.puts (frz fs)).blk k = some b2 ∧ (b2 = b ∨ ∃ q, b2 = b.frozen q) := by
  by_cases h : ∃ y ∈ fs, y.1 = k
  · obtain ⟨y, hy, rfl⟩ := h
    obtain ⟨b', q, h1, h2⟩ := hf y hy
    cases hb.symm.trans h1
    exact ⟨y.2, blk_frz_yes fs σ y hk hy, .inr ⟨q, h2⟩⟩
  · exact ⟨b, by rw [blk_frz_no fs σ k fun y hy e => h ⟨y, hy, e⟩]; exact hb, .inl rfl⟩
theorem freeze_F (gh : Gh) (k : Nat) (b : Blk U) (q : List Nat) (bn : Nat) (h : gh.F bn) : (gh.freeze k b q).F bn := by
  unfold Gh.F Gh.freeze
  simp only
  split
  · rfl
  · exact h
theorem freeze_own {gh : Gh} {k : Nat} {b : Blk U} {q : List Nat} {bn j : Nat} {p : Option (List Nat)} (h : (gh.freeze k b q).st bn = .own j p) : gh.st bn = .own j p := by
  unfold Gh.freeze at h
  simp only at h
  split at h
  · cases h
  · exact h
theorem Sim.freezes : ∀ (fs : List (Nat × Blk U)) {gh : Gh} {σ : St U}, Sim U E gh σ a w → KeysApart fs → (∀ y ∈ fs, FrzOk σ y) → ∃ gh', Sim U E gh' (σ.puts (frz fs)) a w ∧ gh'.base = gh.base ∧ gh'.hdr = gh.hdr ∧ (∀ bn, gh.F bn → gh'.F bn) ∧ ∀ bn k p, gh'.st bn = .own k p → gh.st bn = .own k p
  | [], gh, σ, S, _, _ => ⟨gh, S, rfl, rfl, fun _ h => h, fun _ _ _ h => h⟩
  | y :: fs, gh, σ, S, hk, hf => by
    obtain ⟨b, q, h1, h2⟩ := hf y List.mem_cons_self
    have S1 := S.freezeAt h1 q
    rw [← h2] at S1
    obtain ⟨gh', S', e1, e2, e3, e4⟩ := Sim.freezes fs S1 hk.2 fun z hz => by
      obtain ⟨b', q', g1, g2⟩ := hf z (List.mem_cons_of_mem _ hz)
      exact ⟨b', q', by rw [St.blk_put_ne σ _ (fun e => hk.1 z hz e.symm)]; exact g1, g2⟩
    exact ⟨gh', S', e1, e2, fun bn h => e3 bn (freeze_F gh _ b q bn h), fun bn k p h => freeze_own (e4 bn k p h)⟩
theorem win_sl {x y : U.D} {wn : Win} (h : win x wn = some y) : ∃ e l l', x = ⟨.sl e, l⟩ ∧ y = ⟨.sl e, l'⟩ := by
  obtain ⟨xt, x⟩ := x
  unfold win at h
  split at h
  · rename_i e' l' heq
    cases heq
    cases wn <;> simp only [Option.some.injEq] at h <;> exact ⟨_, _, _, rfl, h.symm⟩
  · cases h
theorem RepV.mono' {F F' : Nat → Prop} {x : U.D} {v : Value} (hF : ∀ b, F b → F' b) (h : RepV U F w x v) : RepV U F' w x v := h.mono fun b hb => ⟨hF b hb, rfl⟩
def Stays (U : Univ) (E : Env) (gh : Gh) (σ : St U) (a : Act) (w : World) (f : Option (Nat × Blk U)) (x : U.D) (u : Value) : Prop :=
  ∀ fs gh2, KeysApart fs → (∀ y ∈ fs, FrzOk σ y) → (∀ y, f = some y → y ∈ fs) → Sim U E gh2 (σ.puts (frz fs)) a w → gh2.hdr = gh.hdr → (∀ bn, gh.F bn → gh2.F bn) → RepV U gh2.F w x u
theorem plainF_some {α : Type} (hU : ULaw U) (S : Sim U E gh σ a w) {t : Ty} {v : AV U} {u : Value} {K : U.D → Option (Nat × Blk U) → Rd U α} {r : α} (hv : RepAV U gh σ w v u) (h : (plainF t v K).run σ = some r) :
    ∃ (x : U.D) (f : Option (Nat × Blk U)), x.t = t ∧ (K x f).run σ = some r ∧ (∀ y, f = some y → FrzOk σ y) ∧ Stays U E gh σ a w f x u := by
  by_cases hrow : ∃ k ver q wn, v = .row k ver q wn
  · obtain ⟨k, ver, q, wn, rfl⟩ := hrow
    simp only [plainF] at h
    replace h := rowOf_some h
    obtain ⟨b, x, hb, hd, hver, hg, h⟩ := h
    split at h
    case h_2 => simp at h
    rename_i y hy
    split at h
    case isFalse => simp at h
    rename_i hyt
    have hyt := Ty.beq_eq hyt
    obtain ⟨e, l, l', rfl, rfl⟩ := win_sl hy
    simp only at hyt
    subst hyt
    cases hv with
    | row _ hr =>
      obtain ⟨b', hb', _, hr⟩ := hr
      cases hb.symm.trans hb'
      obtain ⟨n, hn, hr⟩ := hr hver e l hg
      have fin : ∀ fs gh2, KeysApart fs → (∀ y ∈ fs, FrzOk σ y) → (∀ b2, (σ.puts (frz fs)).blk k = some b2 → b2.own.contains q = false) → Sim U E gh2 (σ.puts (frz fs)) a w → gh2.hdr = gh.hdr → RepV U gh2.F w ⟨.sl e, l'⟩ u := by
        intro fs gh2 hk hf hno S2 hh
        obtain ⟨b2, hb2, hbb⟩ := blk_frz fs hk hf hb
        have hx : b2.x = b.x ∧ b2.dead = b.dead := by
          rcases hbb with rfl | ⟨q', rfl⟩
          · exact ⟨rfl, rfl⟩
          · exact ⟨rfl, rfl⟩
        have R := S2.rowRep hU hb2 (hno b2 hb2) (by rw [hx.2]; exact dead_no hd) (by rw [hx.1]; exact hg)
        rw [hh] at R
        obtain ⟨cs, h1, h2⟩ := Rep.win hU R hn hr hy
        exact ⟨cs, h1, h2⟩
      split at h
      · rename_i hown
        refine ⟨_, _, rfl, h, fun y hy => ?_, fun fs gh2 hk hf hin S2 hh hF => fin fs gh2 hk hf (fun b2 hb2 => ?_) S2 hh⟩
        · cases hy
          exact ⟨b, q, hb, rfl⟩
        · have h3 := blk_frz_yes fs σ (k, b.frozen q) hk (hin _ rfl)
          cases hb2.symm.trans h3
          show (b.own.filter _).contains q = false
          rw [contains_filter, pre_self]
          simp
      · rename_i hown
        refine ⟨_, _, rfl, h, (fun y hy => by cases hy), fun fs gh2 hk hf _ S2 hh hF => fin fs gh2 hk hf (fun b2 hb2 => ?_) S2 hh⟩
        have hq : b.own.contains q = false := by
          cases hc : b.own.contains q with
          | false => rfl
          | true =>
            refine absurd (List.any_eq_true.2 ⟨q, by simpa using hc, pre_self q⟩) hown
        obtain ⟨b3, hb3, hbb⟩ := blk_frz fs hk hf hb
        cases hb2.symm.trans hb3
        rcases hbb with rfl | ⟨q', rfl⟩
        · exact hq
        · show (b.own.filter _).contains q = false
          rw [contains_filter, hq]
          rfl
  · have h' : (plainOf t v fun x => K x none).run σ = some r := by
      unfold plainF at h
      split at h
      · exact absurd ⟨_, _, _, _, rfl⟩ hrow
      · exact h
    obtain ⟨x, hx, hK, hR, _⟩ := plainOf_some hU S hv h'
    exact ⟨x, none, hx, hK, (fun y hy => by cases hy), fun fs gh2 _ _ _ _ _ hF => (hR fun k ver q wn e => hrow ⟨k, ver, q, wn, e⟩).mono' hF⟩
end
end Go.Ev
end
section
namespace Go.Ev
variable {U : Univ} {P : Program}
section
variable {E : Env} {gh : Gh} {σ : St U} {a : Act} {w : World} {o : Oper}
theorem puts_append : ∀ (us vs : List (Upd U)) (σ : St U), σ.puts (us ++ vs) = (σ.puts us).puts vs
  | [], _, _ => rfl
  | u :: us, vs, σ => puts_append us vs (σ.put u)
theorem front_row : ∀ (q : List Nat) (i : Int) (p : List Step), front (q.map .fld ++ .ix i :: p) = q
  | [], _, _ => rfl
  | j :: q, i, p => by
    simp only [List.map_cons, List.cons_append, front]
    rw [front_row q i p]
theorem wrOk_row {own : List (List Nat)} {i : Int} {p : List Step} {e : Ty} {inner : Bool} : ∀ (q : List Nat) {t : Ty} {q0 : List Nat} {o : Nat}, At U t (q.map .fld) o (.sl e) → wrOk U own t q0 inner (q.map .fld ++ .ix i :: p) = true → own.contains (q0 ++ q) = true
  | [], t, q0, o, ha, h => by
    obtain ⟨_, ht⟩ := At.nil_inv ha
    subst ht
    simp only [List.map_nil, List.nil_append, wrOk, Bool.and_eq_true] at h
    rw [List.append_nil]
    exact h.1.2
  | j :: q, t, q0, o, ha, h => by
    simp only [List.map_cons] at ha
    cases ha with
    | fld h1 h2 h3 =>
      simp only [List.map_cons, List.cons_append, wrOk, h1] at h
      have := wrOk_row q h3 h
      simpa using this
theorem KeysApart.one (f : Option (Nat × Blk U)) : KeysApart f.toList := by
  cases f with
  | none => exact True.intro
  | some y => exact ⟨fun z hz => (by cases hz), True.intro⟩
theorem storeI_step {G : Ctx U} (hU : ULaw U) (hG : GOk P U G) (S : Sim U E gh σ a w) {T : TypeId} {xa xv : Operand} (ho : o.op = .store T xa xv) {t : Ty} (hT : G.ty T = some t) {ad : Addr} (hea : a.eval xa = .pointer (some ad)) {k v : Nat} {b : Blk U} {p : List Step} {t' : Ty}
    (hb : σ.blk k = some b) (hix : hasIx p = true) (hp : PtrAt gh k b p t' ad) {xw : AV U} (hx : RepAV U gh σ w xw (a.eval xv)) {us : List (Upd U)} (h : (storeI U k v b p t xw : Out U).run σ = some us) : StoreOk P U E o gh σ a w us := by
  unfold storeI at h
  obtain ⟨y, f, hyt, h, hfr, hst⟩ := plainF_some hU S hx h
  split at h
  case isFalse => simp at h
  rename_i hcond
  simp only [Bool.and_eq_true] at hcond
  obtain ⟨hfit, hwr⟩ := hcond
  rw [run_setP] at h
  simp only [Option.bind_eq_some_iff] at h
  obtain ⟨z, hz, h⟩ := h
  have hus : us = frz f.toList ++ [.blk k (some { b with x := z })] ∧ ∀ y ∈ f.toList, y.1 ≠ k := by
    cases f with
    | none =>
      simp only [run_ret, Option.some.injEq] at h
      exact ⟨h.symm, fun y hy => by cases hy⟩
    | some jc =>
      obtain ⟨j, c⟩ := jc
      simp only at h
      split at h
      · simp at h
      · rename_i hjk
        simp only [run_ret, Option.some.injEq] at h
        refine ⟨h.symm, fun y hy => ?_⟩
        simp only [Option.toList_some, List.mem_singleton] at hy
        subst hy
        simpa using hjk
  obtain ⟨hus, hne⟩ := hus
  have hK := KeysApart.one f
  have hf : ∀ y ∈ f.toList, FrzOk σ y := fun y hy => hfr y (by cases f <;> simp_all)
  obtain ⟨gh2, S2, e1, e2, e3, _⟩ := S.freezes f.toList hK hf
  have hrep := hst f.toList gh2 hK hf (fun y hy => by simp [hy]) S2 e2 e3
  obtain ⟨c', hc1, hc2⟩ := hrep
  have hb2 : (σ.puts (frz f.toList)).blk k = some b := by rw [blk_frz_no _ _ _ hne]; exact hb
  have hp2 : PtrAt gh2 k b p t' ad := PtrAt.congr (by rw [e1]) (by rw [e2]) rfl rfl hp
  obtain ⟨n, hn⟩ := hasSize hU t'
  have fin : ∀ {cur : Array Value} {tag : TypeId} {g off : Nat} {p : Option (List Nat)}, t' = t → ad = ⟨g, off, none⟩ → w.heap[g]? = some (.cells cur tag (0, 0)) → off + n ≤ cur.size → gh.st g = .own k p →
      Sim U E gh2 ((σ.puts (frz f.toList)).put (.blk k (some { b with x := z }))) a (w.setRow g (cur.toList.take off ++ c' ++ cur.toList.drop (off + n)).toArray) → StoreOk P U E o gh σ a w us := by
    intro cur tag g off pp htt had hh hfit2 hst9 S3
    subst htt
    subst had
    have hcl : c'.length = n := hc1.length hU (by rw [hyt]; exact hn)
    refine ⟨gh2, g, cur, tag, (cur.toList.take off ++ c' ++ cur.toList.drop (off + n)).toArray, k, pp, hh, fun w' hw' => ?_, hst9, ⟨_, by rw [hus]; exact List.mem_append_right _ List.mem_cons_self⟩, ?_⟩
    · have hrun := run_storeVar (hG.ty T _ hT).1 (w := w') (g := g) (o := off) hn hcl (by rw [← hyt]; exact hc2) hc1.one hw' hfit2
      unfold execOp
      rw [ho]
      simp only [Sem.run_bind, Instr.storeAt, hea, Instr.sureAddr, Sem.run_pure, Result.andThen_ok, hrun]
    · rw [hus, puts_append]
      exact S3
  cases hp2 with
  | mem hm hat =>
    obtain ⟨cs, tag, hh, hlen, S3⟩ := S2.storeA hU hb2 hm hz hix hat hn hc1
    obtain ⟨csr, tag2, hh2, hr2⟩ := (RepBlk.of_mem hm).1 (S2.blks k b hb2)
    obtain ⟨_, hyt', _⟩ := RepO.putA hU hat hn hix hr2 hz
    exact fin (hyt'.symm.trans hyt) rfl hh (by simpa using hlen) (p := none) (by rw [e1]; exact S.owns k b hb _ none ⟨hm, rfl⟩) S3
  | row hq hhd hsp hi hm hat =>
    rename_i q p' i e o o' m cap ad
    obtain ⟨u, u', h1, h2, h3⟩ := setV_front q (.ix i :: p') b.x y z hz
    have hut := At.getV_t hU hq h1
    obtain ⟨ut, u⟩ := u
    simp only at hut
    subst hut
    simp only [setV, Option.bind_eq_some_iff] at h2
    obtain ⟨v0, hv0, z', hz', h2⟩ := h2
    split at h2
    case h_2 => cases h2
    rename_i v' hv'
    have := D.as_some hv'
    subst this
    cases h2
    obtain ⟨_, hi0⟩ := idx_some hv0
    have hwr' := wrOk_row q hq hwr
    rw [List.nil_append] at hwr'
    have hdead : b.dead.contains q = false := by
      unfold Blk.fit at hfit
      simp only [Bool.and_eq_true] at hfit
      have hfr : front (q.map .fld ++ .ix i :: p') = q := front_row q i p'
      rw [hfr] at hfit
      refine dead_no fun o ho => ?_
      have := List.all_eq_true.1 hfit.2 o ho
      simp only [Bool.not_eq_true', Bool.or_eq_false_iff] at this
      exact ⟨this.1, this.2⟩
    obtain ⟨cur, tag, had, hh, hfit2, S3⟩ := S2.storeR hU hb2 hwr' hdead (by rw [getQ_eq]; exact h1) hi0 hz' h3 hat hn hm hhd hc1 (setV_len hU hix hz)
    obtain ⟨c0, hc0⟩ : ∃ c0, Rep U gh2.F w ⟨e, v0⟩ c0 := by
      obtain ⟨_, _, _, _, xs, _, _, r3, _, _⟩ := S2.ownRow hU hb2 hwr' hdead (by rw [getQ_eq]; exact h1)
      obtain ⟨_, c, _, _, _, r4, _⟩ := r3.get (i := i.toNat) (d := ⟨e, v0⟩) (by simp [hi0])
      exact ⟨c, r4⟩
    obtain ⟨_, hyt', _⟩ := Rep.put hU (x := ⟨e, v0⟩) hat hn hc0 hz'
    refine fin (hyt'.symm.trans hyt) (off := i.toNat * m + o) ?_ hh hfit2 (p := some q) (S.owns k b hb _ (some q) ⟨_, _, hwr', by rw [← e2]; exact hhd, rfl⟩) S3
    rw [had]
    simp
end
end Go.Ev
end
section
namespace Go.Ev
variable {U : Univ} {P : Program}
theorem flds_none : ∀ {p : List Step}, flds p = none → hasIx p = true
  | [], h => by simp [flds] at h
  | .ix _ :: _, _ => rfl
  | .fld j :: p, h => by
    simp only [flds, Option.map_eq_none_iff] at h
    exact flds_none (p := p) h
section
variable {E : Env} {gh : Gh} {σ : St U} {a : Act} {w : World} {o : Oper}
theorem opStore_ok {G : Ctx U} (hU : ULaw U) (hG : GOk P U G) (S : Sim U E gh σ a w) {T : TypeId} {xa xv : Operand} (ho : o.op = .store T xa xv) {av xw : AV U} (ha : RepAV U gh σ w av (a.eval xa)) (hx : RepAV U gh σ w xw (a.eval xv))
    {us : List (Upd U)} (h : (opStore G T av xw : Out U).run σ = some us) : StoreOk P U E o gh σ a w us := by
  unfold opStore at h
  split at h
  case h_2 => simp at h
  rename_i t k v p t' hT
  simp only [run_blk] at h
  cases hb : σ.blk k with
  | none => simp [hb] at h
  | some b =>
    simp only [hb] at h
    generalize hev : a.eval xa = va at ha
    cases ha with
    | ptr hp =>
      obtain ⟨b', hb', _, hp⟩ := hp
      cases hb.symm.trans hb'
      split at h
      · simp at h
      · rename_i hver
        have hver : hasIx p = false ∨ v = b.ver := by
          cases hix : hasIx p with
          | false => exact .inl rfl
          | true =>
            rw [hix] at hver
            simp only [Bool.true_and, Bool.not_eq_true', Bool.not_eq_false, beq_iff_eq] at hver
            exact .inr hver
        have hp := hp hver
        split at h
        · rename_i hfl
          exact storeI_step hU hG S ho hT hev hb (flds_none hfl) hp hx h
        · rename_i q hfl
          obtain ⟨_, rfl⟩ := flds_front hfl
          split at h
          · simp at h
          · by_cases hrow : ∃ k v q wn, xw = .row k v q wn
            · obtain ⟨k', v', q', wn, rfl⟩ := hrow
              exact storeF_row hU hG S ho hT hev hb hp hx h
            · exact storeF_new hU hG S ho hT hev hb hp hx (fun k v q wn e => hrow ⟨k, v, q, wn, e⟩) h
theorem opStore_step {G : Ctx U} (hU : ULaw U) (hG : GOk P U G) (S : Sim U E gh σ a w) (hd : o.dst = none) {T : TypeId} {xa xv : Operand} (ho : o.op = .store T xa xv) {av xw : AV U} (ha : RepAV U gh σ w av (a.eval xa)) (hx : RepAV U gh σ w xw (a.eval xv))
    {us : List (Upd U)} (h : (opStore G T av xw : Out U).run σ = some us) : StepOk P U E o σ a w us := (opStore_ok hU hG S ho ha hx h).step hd
theorem plains_some {α : Type} (hU : ULaw U) (S : Sim U E gh σ a w) {ts : Nat → Option Ty} : ∀ (ps : List (Nat × Operand)) {K : List (Nat × U.D) → List (Nat × Blk U) → Rd U α} {r : α}, (plains ts ps K).run σ = some r →
    ∃ l fs, (K l fs).run σ = some r ∧ KeysApart fs ∧ (∀ y ∈ fs, FrzOk σ y) ∧ l.map (·.1) = ps.map (·.1) ∧ (∀ y ∈ l, ts y.1 = some y.2.t) ∧
      ∀ fs' gh2, KeysApart fs' → (∀ y ∈ fs', FrzOk σ y) → (∀ y ∈ fs, y ∈ fs') → Sim U E gh2 (σ.puts (frz fs')) a w → gh2.hdr = gh.hdr → (∀ bn, gh.F bn → gh2.F bn) → RepParts U gh2.F w l (ps.map fun p => (p.1, a.eval p.2))
  | [], K, r, h => ⟨[], [], h, True.intro, (fun y hy => by cases hy), rfl, (fun y hy => by cases hy), fun _ _ _ _ _ _ _ _ => .nil⟩
  | (i, x) :: ps, K, r, h => by
    simp only [plains] at h
    obtain ⟨v, hv, h⟩ := bind_some' h
    have hv := opd_rep S hv
    split at h
    case h_2 => simp at h
    rename_i t ht
    obtain ⟨y, f, hyt, h, hfr, hst⟩ := plainF_some hU S hv h
    obtain ⟨l, fs, h, hk, hf, hm, hts, hparts⟩ := plains_some hU S ps h
    cases f with
    | none =>
      refine ⟨(i, y) :: l, fs, h, hk, hf, by simp [hm], fun z hz => ?_, fun fs' gh2 k1 k2 k3 S2 k4 k5 => ?_⟩
      · cases hz with
        | head => simp only [hyt, ht]
        | tail _ hz => exact hts z hz
      · exact .cons (hst fs' gh2 k1 k2 (fun _ hy => by cases hy) S2 k4 k5) (hparts fs' gh2 k1 k2 k3 S2 k4 k5)
    | some kb =>
      obtain ⟨k, b⟩ := kb
      simp only at h
      split at h
      · simp at h
      · rename_i hany
        have hne : ∀ z ∈ fs, z.1 ≠ k := fun z hz e => hany (List.any_eq_true.2 ⟨z, hz, by simpa using e⟩)
        refine ⟨(i, y) :: l, (k, b) :: fs, h, ⟨hne, hk⟩, fun z hz => ?_, by simp [hm], fun z hz => ?_, fun fs' gh2 k1 k2 k3 S2 k4 k5 => ?_⟩
        · cases hz with
          | head => exact hfr _ rfl
          | tail _ hz => exact hf z hz
        · cases hz with
          | head => simp only [hyt, ht]
          | tail _ hz => exact hts z hz
        · exact .cons (hst fs' gh2 k1 k2 (fun z hz => by cases hz; exact k3 _ List.mem_cons_self) S2 k4 k5) (hparts fs' gh2 k1 k2 (fun z hz => k3 z (List.mem_cons_of_mem _ hz)) S2 k4 k5)
end
theorem pre_one (i : Nat) (q : List Nat) : pre [i] (i :: q) = true := by simp [pre]
theorem pre_one_ne {i j : Nat} (q : List Nat) (h : i ≠ j) : pre [i] (j :: q) = false := by simp [pre, h]
theorem contains_filt (own : List (List Nat)) (f : List Nat → Bool) (r : List Nat) : (own.filter f).contains r = (own.contains r && f r) := by
  induction own with
  | nil => rfl
  | cons x l ih =>
    simp only [List.filter_cons]
    by_cases h : r = x
    · subst h
      cases hf : f r with
      | true => simp
      | false => simp [ih, hf]
    · have h' : (r == x) = false := by simpa using h
      cases hf : f x with
      | true => simp only [if_true, List.contains_cons, h', Bool.false_or, ih]
      | false => simp only [Bool.false_eq_true, if_false, List.contains_cons, h', Bool.false_or, ih]
theorem fill_repO {F : Nat → Prop} {w : World} (hU : ULaw U) {ts : List Ty} {place : Nat → Option (Nat × Nat)} (hp : ∀ i t, ts[i]? = some t → ∃ off sz, place i = some (off, sz) ∧ SzL U (ts.take i) off ∧ Sz U t sz) :
    ∀ (l : List (Nat × U.D)) (vs : List (Nat × Value)) (ds ds' : List U.D) (cells : Array Value) (η : Hdr) (own : List (List Nat)), ds.map D.t = ts → RepOL U F w η own [] 0 ds cells.toList → RepParts U F w l vs → (∀ q, own.contains q = true → η q = (none, 0)) → fillD ds l = some ds' →
      ∃ cells' η' own', Instr.fill place cells vs = some cells' ∧ RepOL U F w η' own' [] 0 ds' cells'.toList ∧ (∀ q, own'.contains q = (own.contains q && !(l.any fun p => pre [p.1] q))) ∧ (∀ q, own'.contains q = true → η' q = (none, 0)) ∧ ds'.map D.t = ts
  | [], vs, ds, ds', cells, η, own, ht, hr, hv, hη, h => by
    cases hv
    simp only [fillD, Option.some.injEq] at h
    subst h
    exact ⟨cells, η, own, rfl, hr, fun q => by simp, hη, ht⟩
  | (i, x) :: l, vs, ds, ds', cells, η, own, ht, hr, hv, hη, h => by
    cases hv with
    | cons hx hv =>
      rename_i v vs
      obtain ⟨cs, hcs, hvo⟩ := hx
      simp only [fillD] at h
      split at h
      · rename_i z hz
        split at h
        · rename_i hzt
          have hzt := Ty.beq_eq hzt
          have hti : ts[i]? = some z.t := by rw [← ht]; simp [hz]
          obtain ⟨off, sz, hpl, ho, hs⟩ := hp i z.t hti
          obtain ⟨c1, c, c2, e2, g1, g2, g3⟩ := hr.get hU hz
          simp only [Nat.zero_add] at g1 g3
          have hl1 : c1.length = off := g2 _ (by rw [ht]; exact ho)
          have hl2 : c.length = sz := g1.length hU hs
          have hvc := hvo.cells hcs.one
          have hl3 : cs.length = sz := hcs.length hU (by rw [hzt]; exact hs)
          have hsize : cells.size = c1.length + (c.length + c2.length) := by rw [← Array.length_toList, e2]; simp
          have hov := overlay off cs.toArray cells (by simp; omega)
          have e3 : (cs.toArray.zipIdx.foldl (fun cs (x : Value × Nat) => cs.setIfInBounds (off + x.2) x.1) cells).toList = c1 ++ (cs ++ c2) := by
            rw [hov, e2, ← hl1]
            simp only [List.take_left, List.size_toArray, hl3, ← hl2, List.append_assoc]
            congr 2
            rw [List.drop_append, List.drop_append]
            simp
          obtain ⟨η1, hη1⟩ := hcs.toRepO
          let η2 : Hdr := fun q => match q with
            | k :: r => if k = i then η1 r else η (k :: r)
            | [] => η []
          let own2 := own.filter fun q => !pre [i] q
          have hown2 : ∀ q, own2.contains q = (own.contains q && !pre [i] q) := contains_filt own _
          have hr' : RepOL U F w η2 own2 [] 0 (ds.set i x) (cs.toArray.zipIdx.foldl (fun cs (x : Value × Nat) => cs.setIfInBounds (off + x.2) x.1) cells).toList := by
            rw [e3]
            refine g3 η2 own2 [] x cs (fun k r hk => ⟨by rw [hown2, pre_one_ne r (fun e => hk e.symm)]; simp, rfl, by simp [η2, hk]⟩) ?_
            have e1 : (fun q => η2 (i :: q)) = η1 := by funext q; simp [η2]
            rw [e1]
            refine hη1.congr fun r => ⟨?_, ?_, rfl⟩
            · rw [subP_contains, hown2, pre_one]
              simp
            · rfl
          have hη' : ∀ q, own2.contains q = true → η2 q = (none, 0) := by
            intro q hq
            rw [hown2] at hq
            simp only [Bool.and_eq_true, Bool.not_eq_true'] at hq
            have := hη q hq.1
            cases q with
            | nil => exact this
            | cons k r =>
              by_cases hk : k = i
              · subst hk
                rw [pre_one] at hq
                cases hq.2
              · simp only [η2, hk, if_false]
                exact this
          obtain ⟨cells', η', own', f1, f2, f3, f4, f5⟩ := fill_repO hU hp l vs (ds.set i x) ds' _ η2 own2 (by
            rw [List.map_set, hzt, ht]
            exact RepO.kill.list_set_self hti) hr' hv hη' h
          refine ⟨cells', η', own', ?_, f2, fun q => ?_, f4, f5⟩
          · unfold Instr.fill
            simp only [hpl, hvc, List.size_toArray, hl3]
            rw [if_neg]
            · exact f1
            · simp
              omega
          · rw [f3, hown2]
            simp only [List.any_cons, Bool.not_or, Bool.and_assoc]
        · cases h
      · cases h
end Go.Ev
end
section
namespace Go.Ev
variable {U : Univ} {P : Program}
theorem mapM_get {α β : Type} {g : α → Option β} : ∀ {L : List α}, (∀ x ∈ L, ∃ y, g x = some y) → ∃ r, L.mapM g = some r ∧ ∀ (i : Nat) (x : α), L[i]? = some x → ∃ y, g x = some y ∧ r[i]? = some y
  | [], _ => ⟨[], rfl, fun i x h => by simp at h⟩
  | x :: L, h => by
    obtain ⟨y, hy⟩ := h x List.mem_cons_self
    obtain ⟨r, hr, hg⟩ := mapM_get (L := L) fun z hz => h z (List.mem_cons_of_mem _ hz)
    refine ⟨y :: r, by simp [List.mapM_cons, hy, hr], fun i z hi => ?_⟩
    cases i with
    | zero =>
      simp at hi
      subst hi
      exact ⟨y, hy, rfl⟩
    | succ i =>
      simp at hi
      simpa using hg i z hi
theorem asAll_eq {e : Ty} : ∀ {l : List (Nat × U.D)} {l' : List (Nat × e.den U.car)}, asAll e l = some l' → l = l'.map fun p => (p.1, ⟨e, p.2⟩)
  | [], l', h => by simp [asAll] at h; subst h; rfl
  | (i, x) :: l, l', h => by
    simp only [asAll] at h
    split at h
    · rename_i y r hy hr
      cases h
      have := D.as_some hy
      subst this
      simp [← asAll_eq hr]
    · cases h
theorem fillL_fillD {e : Ty} : ∀ {l : List (Nat × e.den U.car)} {z r : List (e.den U.car)}, fillL z l = some r → fillD (z.map (D.mk e) : List U.D) (l.map fun p => (p.1, ⟨e, p.2⟩)) = some (r.map (D.mk e))
  | [], z, r, h => by simp [fillL] at h; subst h; rfl
  | (i, x) :: l, z, r, h => by
    simp only [fillL] at h
    split at h
    · rename_i hi
      simp only [decide_eq_true_eq] at hi
      simp only [List.map_cons, fillD, List.getElem?_map, List.getElem?_eq_getElem hi, Option.map_some, Ty.beq_self, if_true]
      rw [← List.map_set]
      exact fillL_fillD h
    · cases h
theorem fillL_length {α : Type} : ∀ {l : List (Nat × α)} {z r : List α}, fillL z l = some r → r.length = z.length
  | [], z, r, h => by simp [fillL] at h; subst h; rfl
  | (i, x) :: l, z, r, h => by
    simp only [fillL] at h
    split at h
    · rw [fillL_length h]; simp
    · cases h
theorem SzL.rep {e : Ty} {n : Nat} (h : Sz U e n) : ∀ k, SzL U (List.replicate k e) (k * n)
  | 0 => by simpa using SzL.nil
  | k + 1 => by
    rw [List.replicate_succ, Nat.add_mul, Nat.one_mul, Nat.add_comm]
    exact .cons h (SzL.rep h k)
theorem rep_place {e : Ty} {n k : Nat} (h : Sz U e n) (i : Nat) (t : Ty) (hi : (List.replicate k e)[i]? = some t) : ∃ off sz, (fun i => some (i * n, n)) i = some (off, sz) ∧ SzL U ((List.replicate k e).take i) off ∧ Sz U t sz := by
  have hlt := getElem?_lt hi
  simp only [List.length_replicate] at hlt
  have : t = e := by
    rw [List.getElem?_replicate, if_pos hlt] at hi
    exact (Option.some.inj hi).symm
  subst this
  refine ⟨i * n, n, rfl, ?_, h⟩
  rw [List.take_replicate, Nat.min_eq_left (Nat.le_of_lt hlt)]
  exact SzL.rep h i
section
variable {E : Env} {gh : Gh} {σ : St U} {a : Act} {w : World} {o : Oper}
theorem StepOk.frzValue (S : Sim U E gh σ a w) {fs : List (Nat × Blk U)} {gh2 : Gh} (S2 : Sim U E gh2 (σ.puts (frz fs)) a w) (hd : InN E o.dst) {x : AV U} {v : Value} (hx : RepAV U gh2 (σ.puts (frz fs)) w x v) (h : (execOp a.eval o).run P w = .ok (.value v) w) : StepOk P U E o σ a w (frz fs ++ put o.dst x) := by
  intro K Q hK
  unfold Oper.wp
  rw [h]
  refine hK gh2 _ _ ?_
  rw [puts_append]
  exact S2.pure hd hx
theorem parts_toList (ρ : Operand → Value) (ps : Array (Nat × Operand)) : (ps.map fun (x : Nat × Operand) => (x.1, ρ x.2)).toList = ps.toList.map fun p => (p.1, ρ p.2) := by simp
theorem opBuild_step {G : Ctx U} (hU : ULaw U) (hG : GOk P U G) (S : Sim U E gh σ a w) (hd : InN E o.dst) {T : TypeId} {ps : Array (Nat × Operand)} (ho : o.op = .build T ps) {us : List (Upd U)} (h : (opBuild G o.dst T ps.toList : Out U).run σ = some us) : StepOk P U E o σ a w us := by
  unfold opBuild at h
  split at h
  · rename_i id hT
    split at h
    case h_2 => simp at h
    rename_i z hz
    obtain ⟨l, fs, h, hk, hf, hm, hts, hparts⟩ := plains_some hU S ps.toList h
    split at h
    case h_2 => simp at h
    rename_i ds hds
    split at h
    case h_2 => simp at h
    rename_i x hx
    simp only [run_ret, Option.some.injEq] at h
    subst h
    obtain ⟨hI, fl, hu, hfl, hfld⟩ := hG.ty T _ hT
    obtain ⟨gh2, S2, e1, e2, e3, _⟩ := S.freezes fs hk hf
    have hP := hparts fs gh2 hk hf (fun _ h => h) S2 e2 e3
    obtain ⟨i, v, c, hi, hzv, hvo, hvc, _, hrO⟩ := hI.zero hU (z := ⟨.st id, z⟩) (m := 1) (by simp [zeroD, hz]) gh2.F w
    obtain ⟨places, hpl, hplg⟩ := mapM_get (g := fun (f : Field) => (P.info? f.type).map fun i => (f.offset, i.size)) (L := fl.toList) (fun f hf => by
      obtain ⟨j, hj⟩ := List.getElem?_of_mem hf
      obtain ⟨t, _, _, i, _, _, _, hi, _⟩ := hfld j f (by simpa using hj)
      exact ⟨(f.offset, i.size), by simp [hi]⟩)
    have hplace : ∀ i t, (U.tys id)[i]? = some t → ∃ off sz, places.toArray[i]? = some (off, sz) ∧ SzL U ((U.tys id).take i) off ∧ Sz U t sz := by
      intro j t hj
      have hlt : j < fl.size := by rw [hfl]; exact getElem?_lt hj
      obtain ⟨f, hf⟩ : ∃ f, fl[j]? = some f := ⟨fl[j], by simp [hlt]⟩
      obtain ⟨t', ht', hoff, i, _, _, _, hi, _, _, hsz, _⟩ := hfld j f hf
      rw [hj] at ht'
      cases ht'
      obtain ⟨y, hy, hry⟩ := hplg j f (by simpa using hf)
      simp only [hi, Option.map_some, Option.some.injEq] at hy
      subst hy
      exact ⟨_, _, by simpa using hry, hoff, hsz⟩
    have hO := (hrO (fun _ => (none, 0)) (slP U deep (.st id)) [] (fun _ => rfl) (fun _ => rfl)).st_inv
    obtain ⟨cells', η', own', f1, f2, f3, f4, _⟩ := fill_repO hU hplace l _ (U.get id z) ds c.toArray _ _ (hU.tys id z) (by simpa using hO) hP (fun _ _ => rfl) hds
    have hrun := run_build (P := P) w T (ps.map fun (x : Nat × Operand) => (x.1, a.eval x.2)) cells' (by
      unfold Program.built
      simp only [hi, hu, hzv, hpl]
      rw [parts_toList, hvc]
      exact f1)
    have hex : (execOp a.eval o).run P w = .ok (.value (.agg cells')) w := by
      unfold execOp
      rw [ho]
      simp only [Sem.run_bind, hrun, Result.andThen_ok, Sem.run_pure]
    have hany : ∀ q, (l.any fun p => pre [p.1] q) = ps.toList.any fun p => pre [p.1] q := by
      intro q
      have h1 : (l.any fun p => pre [p.1] q) = (l.map (·.1)).any fun i => pre [i] q := by simp [List.any_map, Function.comp_def]
      have h2 : (ps.toList.any fun p => pre [p.1] q) = (ps.toList.map (·.1)).any fun i => pre [i] q := by simp [List.any_map, Function.comp_def]
      rw [h1, h2, hm]
    have hnil : ∀ q, ((slP U deep (.st id)).filter (fun q => !(ps.toList.any fun p => pre [p.1] q))).contains q = own'.contains q := by
      intro q
      rw [contains_filt, f3, hany]
    have hrep : RepO U gh2.F w η' own' [] ⟨.st id, x⟩ cells'.toList := .st (by rw [hU.put id _ _ hx]; exact f2)
    split
    · rename_i hn
      refine StepOk.frzValue S S2 hd (.d ⟨cells'.toList, hrep.toRep (fun r => by rw [← hnil, hn]; rfl) (fun r => rfl), by simp [VOf, Ty.isAgg]⟩) hex
    · rename_i nils hn
      have := RepAV.dz (U := U) (gh := gh2) (σ := σ.puts (frz fs)) (w := w) (nils := (slP U deep (.st id)).filter (fun q => !(ps.toList.any fun p => pre [p.1] q))) (x := ⟨.st id, x⟩) rfl (fun q hq => f4 q (by rw [← hnil]; exact hq)) (hrep.congr fun r => ⟨hnil r, rfl, rfl⟩)
      simp only [Array.toArray_toList] at this
      refine StepOk.frzValue S S2 hd this hex
  · rename_i n e hT
    split at h
    case h_2 => simp at h
    rename_i z hz
    obtain ⟨l, fs, h, hk, hf, hm, hts, hparts⟩ := plains_some hU S ps.toList h
    split at h
    case h_2 => simp at h
    rename_i zl l' hzl hl'
    split at h
    case h_2 => simp at h
    rename_i r hr
    simp only [run_ret, Option.some.injEq] at h
    subst h
    have hzz := D.as_some hzl
    subst hzz
    obtain ⟨hI, EE, hu, hIe⟩ := hG.ty T _ hT
    obtain ⟨gh2, S2, e1, e2, e3, _⟩ := S.freezes fs hk hf
    have hP := hparts fs gh2 hk hf (fun _ h => h) S2 e2 e3
    obtain ⟨i, v, c, hi, hzv, hvo, hvc, hzr, _⟩ := hI.zero hU hz gh2.F w
    obtain ⟨ie, _, _, _, hie, _, _, hsz, _⟩ := hIe
    cases hzr with
    | arr hzr hzn =>
      have hll := asAll_eq hl'
      subst hll
      obtain ⟨cells', f1, f2, _⟩ := fill_rep hU (place := fun i => some (i * ie.size, ie.size)) (rep_place (k := n) hsz) _ _ (zl.map (D.mk e)) (r.map (D.mk e)) c.toArray (by
        rw [List.map_map]
        simp only [Function.comp_def]
        rw [List.map_const', hzn]) (by simpa using hzr) hP (fillL_fillD hr)
      have hrun := run_build (P := P) w T (ps.map fun (x : Nat × Operand) => (x.1, a.eval x.2)) cells' (by
        unfold Program.built
        simp only [hi, hu, hzv, hie]
        rw [parts_toList, hvc]
        exact f1)
      have hex : (execOp a.eval o).run P w = .ok (.value (.agg cells')) w := by
        unfold execOp
        rw [ho]
        simp only [Sem.run_bind, hrun, Result.andThen_ok, Sem.run_pure]
      exact StepOk.frzValue S S2 hd (.d ⟨cells'.toList, .arr f2 (by rw [fillL_length hr, hzn]), by simp [VOf, Ty.isAgg]⟩) hex
  · simp at h
theorem run_buildSlice {T EE : TypeId} {n : Nat} {i : TypeInfo} {v : Value} {parts : Array (Nat × Value)} {cells' : Array Value} (hu : P.underlying T = some (.slice EE)) (hi : P.info? EE = some i) (hz : i.zero = some v) (hsm : n * i.size ≤ 2 ^ 24)
    (hf : Instr.fill (fun j => some (j * i.size, i.size)) (madeCells v.cells (n * i.size)) parts.toList = some cells') :
    (Instr.buildSlice T n parts).run P w = .ok (.slice (some ⟨w.heap.size, 0, none⟩) n n) (w.alloc (.cells cells' EE)) := by
  unfold Instr.buildSlice
  simp only [Sem.run_bind, run_underlying' hu, Result.andThen_ok, run_sizeOf hi, if_neg (Nat.not_lt.2 hsm), Sem.run_pure]
  by_cases h0 : n * i.size = 0
  · have h1 : (Array.range (n * i.size)).map (fun x => (#[] : Array Value)[x % (#[] : Array Value).size]!) = madeCells v.cells (n * i.size) := by
      rw [h0]; simp [madeCells]
    simp only [if_pos h0, Sem.run_bind, Sem.run_pure, Result.andThen_ok]
    rw [h1, hf]
    simp [Go.newRow]
  · simp only [if_neg h0, Sem.run_bind, run_zeroValue hi hz, Result.andThen_ok, Sem.run_pure]
    unfold madeCells at hf
    rw [hf]
    simp [Go.newRow]
theorem opBuildSlice_step {G : Ctx U} (hU : ULaw U) (hG : GOk P U G) (S : Sim U E gh σ a w) (hd : InN E o.dst) {T : TypeId} {n : Nat} {ps : Array (Nat × Operand)} (ho : o.op = .buildSlice T n ps) {us : List (Upd U)} (h : (opBuildSlice G o.dst T n ps.toList : Out U).run σ = some us) : StepOk P U E o σ a w us := by
  unfold opBuildSlice at h
  split at h
  case h_2 => simp at h
  rename_i e EB hT hB
  split at h
  case isFalse => simp at h
  rename_i hn
  have hn := Nat.le_of_ble_eq_true hn
  split at h
  case h_2 => simp at h
  rename_i z hz
  split at h
  case h_2 => simp at h
  rename_i z' hzl
  obtain ⟨l, fs, h, hk, hf, hm, hts, hparts⟩ := plains_some hU S ps.toList h
  split at h
  case h_2 => simp at h
  rename_i l' hl'
  split at h
  case h_2 => simp at h
  rename_i r hr
  unfold newRowF at h
  split at h
  case h_2 => simp at h
  rename_i d hdst
  obtain ⟨hno, h⟩ := fresh_some h
  simp only [run_ret, Option.some.injEq] at h
  subst h
  have hzz := D.as_some hzl
  subst hzz
  obtain ⟨EE, i, hu, hi, hib, hisz, hi4, hB0⟩ := hG.bytes T EB hB
  obtain ⟨EE', hu', hIe, _⟩ := (hG.ty T _ hT).2
  rw [hu] at hu'
  cases hu'
  obtain ⟨gh2, S2, e1, e2, e3, _⟩ := S.freezes fs hk hf
  have hP := hparts fs gh2 hk hf (fun _ h => h) S2 e2 e3
  have hIe' := hIe
  obtain ⟨i', _, _, _, hi', _, _, hsz, _⟩ := hIe'
  rw [hi] at hi'
  cases hi'
  obtain ⟨i2, v, zc, hi2, hzv, hvo, hvc, hzr, _⟩ := hIe.zero hU hz gh2.F w
  rw [hi] at hi2
  cases hi2
  have hzl : zc.length = i.size := hzr.length hU hsz
  have hll := asAll_eq hl'
  subst hll
  have hmr := made_rep hzr (by omega) n
  rw [hzl] at hmr
  obtain ⟨cells', f1, f2, _⟩ := fill_rep hU (place := fun i_1 => some (i_1 * i.size, i.size)) (rep_place (k := n) hsz) _ _ ((List.replicate n z').map (D.mk e)) (r.map (D.mk e)) (madeCells zc.toArray (n * i.size)) (by simp) hmr hP (fillL_fillD hr)
  have hsm : n * i.size ≤ 2 ^ 24 := by
    have := Nat.mul_le_mul hn hi4
    omega
  have hrun := run_buildSlice (P := P) (w := w) (parts := ps.map fun (x : Nat × Operand) => (x.1, a.eval x.2)) hu hi hzv hsm (by rw [parts_toList, hvc]; exact f1)
  have hrl : r.length = n := by rw [fillL_length hr]; simp
  have hcl : cells'.size = n * i.size := by
    have := f2.length_map hU hsz
    rw [hrl] at this
    simpa using this
  have hrow : (w.alloc (.cells cells' EE)).ownsRow 0 EE i.size (.slice (some ⟨w.heap.size, 0, none⟩) n n) n cells'.toList :=
    World.ownsRow_lit w _ _ (Nat.zero_le _) (by simp only [maxLen]; omega) hcl
  have hno2 : (σ.puts (frz fs)).blk d = none := by
    rw [blk_frz_no]
    · exact hno
    · intro y hy e
      obtain ⟨b, _, hb, _⟩ := hf y hy
      rw [e, hno] at hb
      cases hb
  obtain ⟨gh', S'⟩ := S2.grown hno2 (hd d hdst) (ad := none) (l := r) hsz f2 (by rw [hrl]; exact hrow) (grown_alloc _) (fun c h => by cases h) (fun c' hc' => .inr (by cases hc'; simp))
  rw [hrl] at S'
  intro K Q hK
  unfold Oper.wp
  have hex : (execOp a.eval o).run P w = .ok (.value (.slice (some ⟨w.heap.size, 0, none⟩) n n)) (w.alloc (.cells cells' EE)) := by
    unfold execOp
    rw [ho]
    simp only [Sem.run_bind, hrun, Result.andThen_ok, Sem.run_pure]
  rw [hex]
  refine hK gh' _ _ ?_
  rw [hdst, puts_append]
  exact S'
end
end Go.Ev
end
section
namespace Go.Ev
variable {U : Univ} {P : Program}
section
variable {E : Env} {gh : Gh} {σ : St U} {a : Act} {w : World} {o : Oper}
theorem box_fin (_S : Sim U E gh σ a w) {σ1 : St U} {gh1 : Gh} (S1 : Sim U E gh1 σ1 a w) {d : Nat} (hd : InN E o.dst) (hdst : o.dst = some d) {T : TypeId} {xv : Operand} (ho : o.op = .box T xv) (hno : σ1.blk d = none) {x : U.D} {own : List (List Nat)} {cs : List Value} {η : Hdr}
    (hη : ∀ q ad cap, own.contains q = true → η q = (some ad, cap) → gh1.st ad.block = .own d (some q)) (hO : RepO U gh1.F w η own [] x cs) (hvo : VOf x.t cs (a.eval xv)) {us : List (Upd U)}
    (hus : ∀ n, ((σ.puts us).slot n = ((σ1.put (.blk d (some (newBlk x true own)))).put (.slot d (.ptr d 0 [] x.t))).slot n) ∧ (σ.puts us).blk n = ((σ1.put (.blk d (some (newBlk x true own)))).put (.slot d (.ptr d 0 [] x.t))).blk n) : StepOk P U E o σ a w us := by
  obtain ⟨gh', S'⟩ := S1.newVar hno T hη hO (hd d hdst)
  intro K Q hK
  unfold Oper.wp
  have hc := hvo.cells hO.one
  have hex : (execOp a.eval o).run P w = .ok (.value (.pointer (some ⟨w.heap.size, 0, none⟩))) (w.alloc (.cells cs.toArray T)) := by
    unfold execOp
    rw [ho]
    simp only [Sem.run_bind, Instr.box, run_newVar hc, Result.andThen_ok, Sem.run_pure]
  rw [hex]
  refine hK gh' _ _ ?_
  rw [hdst]
  exact S'.ext (fun n => (hus n).1) (fun n => (hus n).2)
theorem opBox_step {G : Ctx U} (hU : ULaw U) (S : Sim U E gh σ a w) (hd : InN E o.dst) {T : TypeId} {xv : Operand} (ho : o.op = .box T xv) {v : AV U} (hv : RepAV U gh σ w v (a.eval xv)) {us : List (Upd U)} (h : (opBox G o.dst T v : Out U).run σ = some us) : StepOk P U E o σ a w us := by
  unfold opBox at h
  split at h
  case h_2 => simp at h
  rename_i d t hdst hT
  replace h := fresh_some h
  obtain ⟨hno, h⟩ := h
  split at h
  ·
    unfold plainOf at h
    simp only at h
    split at h
    case h_2 => simp at h
    rename_i e
    simp only [run_ret, Option.some.injEq] at h
    subst h
    generalize hev : a.eval xv = vv at hv
    cases hv with
    | nilsl => exact box_fin S S hd hdst ho hno (own := [[]]) (x := ⟨.sl e, []⟩) (η := fun _ => (none, 0)) (fun _ _ _ _ e => by cases e) (repO_nil hU e rfl rfl) (by rw [hev]; rfl) fun n => ⟨rfl, rfl⟩
  ·
    rename_i x
    split at h
    case isFalse => simp at h
    rename_i hx
    simp only [run_ret, Option.some.injEq] at h
    subst h
    cases hv with
    | d hv =>
      obtain ⟨cs, h1, h2⟩ := hv
      obtain ⟨η, h3⟩ := h1.toRepO
      rw [← Ty.beq_eq hx]
      exact box_fin S S hd hdst ho hno (own := []) (fun _ _ _ h _ => by cases h) h3 h2 fun n => ⟨rfl, rfl⟩
  ·
    rename_i cs
    unfold plainOf at h
    simp only at h
    split at h
    case h_2 => simp at h
    rename_i z hag hzc hzd
    simp only [run_ret, Option.some.injEq] at h
    subst h
    generalize hev : a.eval xv = vv at hv
    cases hv with
    | cagg =>
      obtain ⟨c, hc, h1, h2⟩ := zero_rep hU (F := gh.F) (w := w) deep t cs [] hzc deep z hzd
      rw [List.append_nil] at hc
      subst hc
      have hzt := zeroD_t hzd
      rw [← hzt]
      exact box_fin S S hd hdst ho hno (η := fun _ => (none, 0)) (fun _ _ _ _ e => by cases e) (h2 (fun _ => (none, 0)) (slP U deep z.t) [] (fun _ => rfl) (fun _ => rfl)) (by rw [hev]; unfold VOf; rw [hzt, hag, if_pos rfl]) fun n => ⟨rfl, rfl⟩
  ·
    rename_i x ns
    split at h
    case isFalse => simp at h
    rename_i hx
    simp only [run_ret, Option.some.injEq] at h
    subst h
    generalize hev : a.eval xv = vv at hv
    cases hv with
    | dz h1 h0 h2 =>
      rw [← Ty.beq_eq hx]
      exact box_fin S S hd hdst ho hno (fun q ad cap hq e => by rw [h0 q hq] at e; cases e) h2 (by
        rw [hev]
        unfold VOf
        obtain ⟨xt, x⟩ := x
        cases xt <;> simp [Ty.isSt] at h1
        rfl) fun n => ⟨rfl, rfl⟩
  ·
    rename_i k ver q wn
    replace h := rowOf_some h
    obtain ⟨b, y0, hb, hdead, hver, hg, h⟩ := h
    split at h
    case h_2 => simp at h
    rename_i y hy
    obtain ⟨e, l0, l, rfl, rfl⟩ := win_sl hy
    split at h
    · simp at h
    rename_i hyt
    have hyt : (Ty.sl e).beq t = true := by simpa using hyt
    have hte := Ty.beq_eq hyt
    subst hte
    have hkd : k ≠ d := fun e => by rw [e, hno] at hb; cases hb
    split at h
    · rename_i hcond
      simp only [Bool.and_eq_true] at hcond
      simp only [run_ret, Option.some.injEq] at h
      subst h
      obtain ⟨rad, cap, tag, n, xs, hu, hn, hr, hown, hst⟩ := S.ownHead hU hb hcond.1 (dead_no hdead) hver hg hy hcond.2 hv
      have S1 := S.kill hU hb hg rfl
      have S2 := S1.reown (ad := rad) d (some []) (fun c hc => ⟨⟨k, some q, hst c hc⟩, fun k1 b1 hb1 bn p ho1 => S.killed (hst c hc) hb1 hb ho1⟩)
      have hF : ∀ bn, gh.F bn → stAt gh.st rad (.own d (some [])) bn = .frz := by
        intro bn hbn
        cases hrad : rad with
        | none => exact hbn
        | some c =>
          show upd gh.st c.block _ bn = _
          rw [upd_ne]
          · exact hbn
          · intro e1
            have := hst c hrad
            rw [← e1] at this
            rw [Gh.F, this] at hbn
            cases hbn
      exact box_fin S S2 hd hdst ho (by rw [St.blk_put_ne σ _ hkd]; exact hno) (own := [[]]) (η := fun _ => (rad, cap)) (x := ⟨.sl e, l⟩) (fun r ad cap' h1 h2 => by
        have hr0 : r = [] := by simpa using h1
        subst hr0
        cases h2
        exact upd_same _ _ _) (.row rfl rfl hn (hr.mono fun bn hbn => ⟨hF bn hbn, rfl⟩) hown rfl) (by rw [hu]; rfl) fun n => ⟨rfl, rfl⟩
    · split at h
      · simp at h
      · rename_i hno'
        simp only [run_ret, Option.some.injEq] at h
        subst h
        have R := S.rowRep hU hb (by simpa using hno') (dead_no hdead) hg
        generalize hev : a.eval xv = vv at hv
        cases hv with
        | row _ hr =>
          obtain ⟨b2, hb2, _, hr⟩ := hr
          cases hb.symm.trans hb2
          obtain ⟨n, hn, hr⟩ := hr hver e l0 hg
          obtain ⟨cs, h1, h2⟩ := Rep.win hU R hn hr hy
          obtain ⟨η, h3⟩ := h1.toRepO
          exact box_fin S S hd hdst ho hno (own := []) (x := ⟨.sl e, l⟩) (fun _ _ _ h _ => by cases h) h3 (by rw [hev]; exact h2) fun n => ⟨rfl, rfl⟩
  · simp at h
end
end Go.Ev
end
section
namespace Go.Ev
variable {U : Univ} {P : Program}
theorem repL_ints {F : Nat → Prop} {w : World} {k : IntKind} : ∀ {l : List Int} {xs : List Value}, RepL U F w ((l : List ((Ty.int k).den U.car)).map (D.mk (.int k))) xs → xs = l.map (Value.int k)
  | [], xs, h => by simp only [List.map_nil] at h; cases h; rfl
  | n :: l, xs, h => by
    simp only [List.map_cons] at h
    cases h with
    | cons h1 h2 =>
      cases h1 with
      | int _ => rw [repL_ints h2]; rfl
section
variable {E : Env} {gh : Gh} {σ : St U} {a : Act} {w : World} {o : Oper}
theorem Sim.frozenNew (S : Sim U E gh σ a w) {d : Option Nat} (hd : InN E d) {w' : World} (hg : Grown w w' none) (hlt : w.heap.size < w'.heap.size) {x : U.D} {v : Value} (hx : ∀ F : Nat → Prop, (∀ b, gh.F b → F b) → F w.heap.size → RepV U F w' x v) :
    ∃ gh', Sim U E gh' (σ.puts (put d (.d x))) (a.put d v) w' := by
  let gh' : Gh := ⟨gh.base, gh.hdr, upd gh.st w.heap.size .frz⟩
  have hb : ∀ k, (σ.puts (put d (.d x))).blk k = σ.blk k := by intro k; cases d <;> rfl
  have hL : Later gh gh' σ (σ.puts (put d (.d x))) := fun k b h => ⟨b, (hb k).trans h, LaterB.same b rfl rfl⟩
  have hbnd : ∀ bn, gh.st bn ≠ .no → bn < w.heap.size := fun bn h => (S.frm.bound bn).resolve_left h
  have hF : ∀ b, gh.F b → gh'.F b := fun b h => by
    have := hbnd b (by rw [Gh.F] at h; rw [h]; simp)
    show upd gh.st w.heap.size .frz b = .frz
    rw [upd_ne _ _ (by omega)]
    exact h
  refine ⟨gh', S.step (fun _ => False) (put_size ..) (put_defers ..) (fun bn h _ => hg.heap bn h fun c hc => by cases hc) (fun bn => ?_) hg.size hg.os hg.tape hg.output (fun k b _ h => ⟨(hb k).symm.trans h, rfl, rfl⟩) (fun _ _ h => h.elim) hL ?_⟩
  · by_cases h : bn = w.heap.size
    · subst h
      exact .inr (.inr ⟨Nat.le_refl _, hlt⟩)
    · exact .inl (upd_ne _ _ h)
  · refine slots_put S hd (fun n => ?_) fun _ => .d (hx gh'.F hF (upd_same _ _ _))
    cases d with
    | none => rfl
    | some d => exact St.slot_put σ d n _
theorem opConvert_step {G : Ctx U} (hU : ULaw U) (hG : GOk P U G) (S : Sim U E gh σ a w) (hd : InN E o.dst) {T0 T : TypeId} {xv : Operand} (ho : o.op = .convert T0 T xv) {x : AV U} (hx : RepAV U gh σ w x (a.eval xv)) {us : List (Upd U)} (h : (opConvert G o.dst T0 T x : Out U).run σ = some us) : StepOk P U E o σ a w us := by
  unfold opConvert at h
  split at h
  · simp at h
  rename_i t0 hT0
  obtain ⟨_, d0, _, _, _, hu0, _⟩ := (hG.ty T0 _ hT0).1
  have ex : ∀ {v : Value} {w' : World}, (convert T0 T (a.eval xv)).run P w = .ok v w' → (execOp a.eval o).run P w = .ok (.value v) w' := by
    intro v w' h
    unfold execOp
    rw [ho]
    simp only [Sem.run_bind, h, Result.andThen_ok, Sem.run_pure]
  split at h
  · rename_i k _ n hT
    simp only [run_ret, Option.some.injEq] at h
    subst h
    obtain ⟨hev, _⟩ := hx.int_inv
    have hu := (hG.ty T _ hT).2
    refine StepOk.value S hd (rep_int (fit_wrap k n)) (ex ?_)
    rw [hev]
    simp only [convert, Sem.run_bind, run_underlying' hu0, run_underlying' hu, Result.andThen_ok]
    cases d0 <;> simp [Conv.intToInt]
  · rename_i s hT
    simp only [run_ret, Option.some.injEq] at h
    subst h
    obtain ⟨hev, hs⟩ := hx.str_inv
    have hu := (hG.ty T _ hT).2
    refine StepOk.value S hd (rep_str hs) (ex ?_)
    rw [hev]
    simp only [convert, Sem.run_bind, run_underlying' hu0, run_underlying' hu, Result.andThen_ok]
    cases d0 <;> simp
  · rename_i hT _
    split at h
    · simp at h
    rename_i ht0
    have ht0 : t0.beq (.sl (.int .u8)) = true := by simpa using ht0
    have ht0 := Ty.beq_eq ht0
    subst ht0
    obtain ⟨y, hyt, h, _, hrd⟩ := plainOf_some hU S hx h
    split at h
    case h_2 => simp at h
    rename_i l hl
    have := D.as_some hl
    subst this
    simp only [run_ret, Option.some.injEq] at h
    subst h
    obtain ⟨ad, cap, n, xs, hv, hn, hr, hne, hlc, hcm⟩ := hrd _ l rfl
    obtain ⟨EE, hu1, _, he⟩ := (hG.ty T0 _ hT0).2
    have hue := he _ rfl
    have hu := (hG.ty T _ hT).2
    have hxs := repL_ints hr
    have hsz : (toBytes l).size = List.length l := by simp [toBytes, ByteArray.size]
    refine StepOk.value S hd (rep_str (s := toBytes l) (by rw [hsz]; exact Nat.le_trans hlc hcm)) (ex ?_)
    rw [hv]
    cases ad with
    | none =>
      have hl0 : l = [] := by
        cases l with
        | nil => rfl
        | cons y l => obtain ⟨c, h, _⟩ := hne (by simp); cases h
      subst hl0
      exact run_convert_bytes_nil w T0 EE hu1 hue _ _ T hu
    | some c =>
      obtain ⟨cb, co, cs⟩ := c
      cases l with
      | nil =>
        have h0 := run_convert_bytes_string (P := P) w T0 T EE (some ⟨cb, co, cs⟩) 0 cap hu1 hue hu
        have h1 := run_bytesToString (P := P) w ⟨cb, co, cs⟩ 0 cap [] (by simp [loadCells, loadCellsFrom])
        exact h0.trans h1
      | cons m l =>
        obtain ⟨c, hc, hsp, hcells⟩ := hne (by simp)
        cases hc
        simp only at hsp
        subst hsp
        refine run_convert_bytes_arg w T0 EE hu1 hue cb co _ cap (m :: l) rfl (fun i hi => ?_) T hu
        have hi' : i < List.length (m :: l) := hi
        have hc := hcells i (.int .u8 ((m :: l : List Int).getD i 0)) (by
          rw [hxs, List.getElem?_map, List.getElem?_eq_getElem hi']
          simp [List.getD, List.getElem?_eq_getElem hi'])
        rw [add_none] at hc
        exact hc
  · rename_i s hT
    simp only [run_ret, Option.some.injEq] at h
    subst h
    obtain ⟨hev, hs⟩ := hx.str_inv
    obtain ⟨EE, hu1, _, he⟩ := (hG.ty T _ hT).2
    have hue := he _ rfl
    have hrun := Lib.run_convert_string_bytes (P := P) w T0 T EE s hu0 hu1 hue
    have hcap : s.size ≤ grownCap w s.size 0 EE := grownCap_ge ..
    have hcapm : grownCap w s.size 0 EE ≤ maxLen := grownCap_le_maxLen _ _ _ _ hs
    intro K Q hK
    unfold Oper.wp
    rw [ex (by rw [hev]; exact hrun)]
    obtain ⟨gh', S'⟩ := S.frozenNew hd (w' := Lib.bytesWorld w EE s) (x := ⟨.sl (.int .u8), s.data.toList.map fun c => (c.toNat : Int)⟩) (v := .slice (some ⟨w.heap.size, 0, none⟩) s.size (grownCap w s.size 0 EE))
      ⟨by simp [Lib.bytesWorld, World.freeze, World.alloc, World.drew, -World.alloc_eq, -World.drew_eq], by simp [Lib.bytesWorld, World.freeze, World.alloc, World.drew, -World.alloc_eq, -World.drew_eq], by simp [Lib.bytesWorld, World.freeze, World.alloc, World.drew, -World.alloc_eq, -World.drew_eq], by rw [Lib.bytesWorld_size]; omega, fun bn h _ => Lib.bytesWorld_at_old w EE s bn h⟩ (by rw [Lib.bytesWorld_size]; omega)
      (fun F hF hFn => by
        have hlen : (s.data.toList.map fun c => (c.toNat : Int)).length = s.size := by simp
        have := Rep.sl (U := U) (F := F) (w := Lib.bytesWorld w EE s) (e := .int .u8) (l := s.data.toList.map fun c => (c.toNat : Int)) (a := some ⟨w.heap.size, 0, none⟩) (cap := grownCap w s.size 0 EE) (ad := ⟨w.heap.size, 0, none⟩) (bytes_rep s.data.toList) (fun _ => ⟨rfl, rfl, hFn, fun j v hj => by
          have hjl := getElem?_lt hj
          simp only [List.length_map, Array.length_toList] at hjl
          rw [add_none, Nat.zero_add, Lib.bytesWorld_cell w EE s j hjl]
          rw [List.getElem?_map, List.getElem?_eq_getElem (by simpa using hjl)] at hj
          simp only [Option.map_some, Option.some.injEq] at hj
          rw [← hj]
          have hjl' : j < s.data.toList.length := by simpa using hjl
          simp only [List.getD, List.getElem?_eq_getElem hjl', Option.getD_some]⟩) (by rw [hlen]; exact hcap) hcapm
        rw [hlen] at this
        exact ⟨_, this, rfl⟩)
    exact hK gh' _ _ S'
  · simp at h
end
end Go.Ev
end
section
namespace Go.Ev
variable {U : Univ} {P : Program}
section
variable {F : Nat → Prop} {w : World}
def EqRun (P : Program) (U : Univ) (F : Nat → Prop) (w : World) (d : Nat) (T : TypeId) (t : Ty) : Prop :=
  ∀ (x y : U.D) (m : Nat) (r : Bool) (cx cy : List Value) (vx vy : Value), x.t = t → y.t = t → Rep U F w x cx → Rep U F w y cy → VOf t cx vx → VOf t cy vy → eqD U m x y = some r → (Op.equalIn d T vx vy).run P w = .ok r w
theorem eqFields_run (hU : ULaw U) {d : Nat} : ∀ (fl : List Field) (ts : List Ty) (xs ys : List U.D) (m : Nat) (r : Bool) (x1 y1 cx cy : List Value),
    x1.length = y1.length → fl.length = ts.length → xs.map D.t = ts → ys.map D.t = ts → RepL U F w xs cx → RepL U F w ys cy →
    (∀ j f, fl[j]? = some f → f.name ≠ "_" ∧ ∃ t o, ts[j]? = some t ∧ SzL U (ts.take j) o ∧ f.offset = x1.length + o ∧ Info P U f.type t ∧ EqRun P U F w d f.type t) → eqDs U m xs ys = some r →
    (Op.eqFields d (x1 ++ cx).toArray (y1 ++ cy).toArray fl).run P w = .ok r w
  | [], ts, xs, ys, m, r, x1, y1, cx, cy, _, hl, hx, hy, _, _, _, h => by
    have : ts = [] := List.eq_nil_of_length_eq_zero hl.symm
    subst this
    have hx0 := List.map_eq_nil_iff.1 hx
    have hy0 := List.map_eq_nil_iff.1 hy
    subst hx0 hy0
    unfold eqDs at h
    cases m <;> simp at h <;> (subst h; simp [Op.eqFields])
  | f :: fl, [], xs, ys, m, r, x1, y1, cx, cy, _, hl, hx, hy, _, _, _, h => by simp at hl
  | f :: fl, t :: ts, [], ys, m, r, x1, y1, cx, cy, _, hl, hx, hy, _, _, _, h => by simp at hx
  | f :: fl, t :: ts, x :: xs, [], m, r, x1, y1, cx, cy, _, hl, hx, hy, _, _, _, h => by simp at hy
  | f :: fl, t :: ts, x :: xs, y :: ys, 0, r, x1, y1, cx, cy, h0, hl, hx, hy, hrx, hry, hf, h => by simp [eqDs] at h
  | f :: fl, t :: ts, x :: xs, y :: ys, m + 1, r, x1, y1, cx, cy, h0, hl, hx, hy, hrx, hry, hf, h => by
    simp only [List.map_cons, List.cons.injEq] at hx hy
    simp only [List.length_cons, Nat.add_right_cancel_iff] at hl
    cases hrx with
    | cons hx1 hx2 =>
    cases hry with
    | cons hy1 hy2 =>
    rename_i c cs c' cs'
    obtain ⟨hn, t0, o, ht0, ho, hoff, hI, hE⟩ := hf 0 f rfl
    simp only [List.getElem?_cons_zero, Option.some.injEq] at ht0
    subst ht0
    simp only [List.take_zero] at ho
    cases ho
    simp only [Nat.add_zero] at hoff
    obtain ⟨i, _, _, _, hi, _, _, hsz, _⟩ := id hI
    have hc : c.length = i.size := hx1.length hU (by rw [hx.1]; exact hsz)
    have hc' : c'.length = i.size := hy1.length hU (by rw [hy.1]; exact hsz)
    obtain ⟨vx, p1, q1⟩ := run_part (P := P) hI (w := w) (c1 := x1) (c := c) (c2 := cs) hsz hc
    obtain ⟨vy, p2, q2⟩ := run_part (P := P) hI (w := w) (c1 := y1) (c := c') (c2 := cs') hsz hc'
    simp only [eqDs] at h
    split at h
    case h_2 => cases h
    rename_i r1 r2 h1 h2
    cases h
    have hrun := hE x y m r1 c c' vx vy hx.1 hy.1 hx1 hy1 q1 q2 h1
    have ih := eqFields_run hU fl ts xs ys m r2 (x1 ++ c) (y1 ++ c') cs cs' (by simp [h0, hc, hc']) hl hx.2 hy.2 hx2 hy2 (fun j f hj => by
      obtain ⟨g1, t2, o2, g2, g3, g4, g5, g6⟩ := hf (j + 1) f (by simpa using hj)
      simp only [List.take_succ_cons] at g3
      cases g3 with
      | cons k1 k2 =>
        rename_i n1 n2
        cases k1.uniq hsz
        exact ⟨g1, t2, n2, by simpa using g2, k2, by rw [g4]; simp [hc, Nat.add_assoc], g5, g6⟩) h2
    rw [List.append_assoc, List.append_assoc] at ih
    simp only [Op.eqFields, hn, ne_eq, not_false_eq_true, if_true, Sem.run_bind, hoff, p1, Result.andThen_ok]
    rw [h0, p2]
    simp only [Result.andThen_ok, hrun]
    cases r1 with
    | false => simp
    | true => simp [ih]
theorem eq_run (hU : ULaw U) : ∀ (n d : Nat) (T : TypeId) (t : Ty), n ≤ d → EqOk P U n T t → EqRun P U F w d T t
  | 0, _, _, _, _, h => h.elim
  | n + 1, 0, _, _, hd, _ => by omega
  | n + 1, d + 1, T, t, hd, h => by
    intro x y m r cx cy vx vy hx hy hrx hry hvx hvy he
    cases m with
    | zero => simp [eqD] at he
    | succ m =>
    obtain ⟨xt, x⟩ := x
    obtain ⟨yt, y⟩ := y
    simp only at hx hy
    subst hx
    subst hy
    cases yt with
    | int k =>
      simp only [VOf, Ty.isAgg, Bool.false_eq_true, if_false] at hvx hvy
      subst hvx hvy
      cases hrx
      cases hry
      simp only [eqD, Option.some.injEq] at he
      subst he
      exact run_equalIn_int w d T k k _ _ h
    | bool =>
      simp only [VOf, Ty.isAgg, Bool.false_eq_true, if_false] at hvx hvy
      subst hvx hvy
      cases hrx
      cases hry
      simp only [eqD, Option.some.injEq] at he
      subst he
      exact run_equalIn_bool' w d T _ _ h
    | str =>
      simp only [VOf, Ty.isAgg, Bool.false_eq_true, if_false] at hvx hvy
      subst hvx hvy
      cases hrx
      cases hry
      simp only [eqD, Option.some.injEq] at he
      subst he
      rw [run_equalIn_string w d T _ _ h, ByteArray.toList_eq, ByteArray.toList_eq]
    | sl e => exact h.elim
    | arr k e => exact h.elim
    | st id =>
      obtain ⟨hp, fs, hu, hsz, hf⟩ := h
      simp only [VOf, Ty.isAgg, if_true] at hvx hvy
      subst hvx hvy
      cases hrx with
      | st hrx =>
      cases hry with
      | st hry =>
      have hfo : P.fieldsOf T = fs := by simp [Program.fieldsOf, hu]
      rw [run_equalIn_struct w d T _ _ (by rw [hfo]; exact hu) hp, hfo]
      simp only [eqD] at he
      have := eqFields_run (P := P) hU (d := d) fs.toList (U.tys id) (U.get id x) (U.get id y) m r [] [] cx cy rfl (by simpa using hsz) (hU.tys id x) (hU.tys id y) hrx hry (fun j f hj => by
        obtain ⟨g1, t2, g2, g3, g4, g5⟩ := hf j f (by simpa using hj)
        exact ⟨g1, t2, f.offset, g2, g3, by simp, g4, eq_run hU n d f.type t2 (by omega) g5⟩) he
      simpa using this
end
section
variable {E : Env} {gh : Gh} {σ : St U} {a : Act} {w : World} {o : Oper}
theorem stBin_rep {op : BinOp} {T : TypeId} {x y : U.D} {u v : Value} {ox oy : Operand} {av : AV U} {G : Ctx U} (hU : ULaw U) (hG : GOk P U G) (hx : RepV U gh.F w x u) (hy : RepV U gh.F w y v)
    (h : (eqSt G op T x y).run σ = some av) (hns : x.t.isSt = true) :
    ∃ r, (eqGuard op T ox oy u v).run P w = .ok () w ∧ (binOp op T u v).run P w = .ok r w ∧ RepAV U gh σ w av r := by
  unfold eqSt at h
  split at h
  · simp at h
  rename_i t hT
  split at h
  case isFalse => simp at h
  rename_i hc
  simp only [Bool.and_eq_true] at hc
  obtain ⟨⟨h1, h2⟩, h3⟩ := hc
  have h1 := Ty.beq_eq h1
  have h2 := Ty.beq_eq h2
  subst h2
  obtain ⟨xt, x⟩ := x
  obtain ⟨yt, y⟩ := y
  simp only at h1
  subst h1
  cases xt <;> simp [Ty.isSt] at hns
  rename_i id
  obtain ⟨g1, g2⟩ := hG.eq T id hT h3
  obtain ⟨cx, rx, vx⟩ := hx
  obtain ⟨cy, ry, vy⟩ := hy
  have run := fun r he => eq_run (P := P) hU deep 10000 T (.st id) (by unfold deep; omega) g2 ⟨.st id, x⟩ ⟨.st id, y⟩ 24 r cx cy u v rfl rfl rx ry vx vy he
  simp only [VOf, Ty.isAgg, if_true] at vx vy
  subst vx vy
  refine (fun ⟨r, h4, h5⟩ => ⟨r, run_eqGuard_agg w op T ox oy _ _ g1, h4, h5⟩ : (∃ r, (binOp op T _ _).run P w = .ok r w ∧ RepAV U gh σ w av r) → _) ?_
  split at h
  · rename_i r he
    simp only [run_ret, Option.some.injEq] at h
    subst h
    refine ⟨_, ?_, rep_bool⟩
    rw [run_eql_struct, run r he]
    rfl
  · rename_i r he
    simp only [run_ret, Option.some.injEq] at h
    subst h
    refine ⟨_, ?_, rep_bool⟩
    rw [run_neq_struct, run r he]
    rfl
  · simp at h
end
end Go.Ev
end
section
namespace Go.Ev
variable {U : Univ} {P : Program}
inductive Tgt (U : Univ) (gh : Gh) (ρ : St U) (w : World) (inv : Nat → Option Nat) (base : Nat → Nat) (hdr : Nat → Hdr) (k' : Nat) (b' : Blk U) : Prop where
  | row {e : Ty} {l : List (e.den U.car)} {ad : Option Addr} {cap tag n : Nat} {xs : List Value} : b' = newBlk ⟨.sl e, l⟩ false [[]] → hdr k' = (fun _ => (ad, cap)) → Sz U e n → RepL U gh.F w (l.map (D.mk e)) xs →
      w.ownsRow 0 tag n (.slice ad l.length cap) l.length xs → (∀ c, ad = some c → ∃ k, gh.st c.block = .own k (some []) ∧ inv k = some k') → Tgt U gh ρ w inv base hdr k' b'
  | frz {e : Ty} {l : List (e.den U.car)} {ad : Option Addr} {cap : Nat} : b' = newBlk ⟨.sl e, l⟩ false [] → hdr k' = (fun _ => (ad, cap)) → Rep U gh.F w ⟨.sl e, l⟩ [.slice ad l.length cap] → Tgt U gh ρ w inv base hdr k' b'
  | box {k : Nat} {b : Blk U} {own : List (List Nat)} : b' = newBlk b.x true own → ρ.blk k = some b → b.mem = true → b.dead = [] → own.all b.own.contains = true → inv k = some k' → base k' = gh.base k → hdr k' = gh.hdr k → Tgt U gh ρ w inv base hdr k' b'
inductive TgtF (U : Univ) (gh : Gh) (w : World) (inv : Nat → Option Nat) (base : Nat → Nat) (hdr : Nat → Hdr) (k' : Nat) (b' : Blk U) : Prop where
  | row {e : Ty} {l : List (e.den U.car)} {ad : Option Addr} {cap tag n : Nat} {xs : List Value} : b' = newBlk ⟨.sl e, l⟩ false [[]] → hdr k' = (fun _ => (ad, cap)) → Sz U e n → RepL U gh.F w (l.map (D.mk e)) xs →
      w.ownsRow 0 tag n (.slice ad l.length cap) l.length xs → (∀ c, ad = some c → ∃ k, gh.st c.block = .own k (some []) ∧ inv k = some k') → TgtF U gh w inv base hdr k' b'
  | frz {e : Ty} {l : List (e.den U.car)} {ad : Option Addr} {cap : Nat} : b' = newBlk ⟨.sl e, l⟩ false [] → hdr k' = (fun _ => (ad, cap)) → Rep U gh.F w ⟨.sl e, l⟩ [.slice ad l.length cap] → TgtF U gh w inv base hdr k' b'
  | box {k : Nat} {b : Blk U} {own : List (List Nat)} : b' = newBlk b.x true own → RepBlk U gh w k b → (∀ bn p, Ow gh k b bn p → gh.st bn = .own k p) → b.mem = true → b.dead = [] → own.all b.own.contains = true → inv k = some k' → base k' = gh.base k → hdr k' = gh.hdr k → TgtF U gh w inv base hdr k' b'
section
variable {E : Env} {gh : Gh} {ρ : St U} {a : Act} {w : World} {o : Oper}
def selSt (st : Nat → BSt) (T : Nat → Option (Blk U)) (inv : Nat → Option Nat) (bn : Nat) : BSt :=
  match st bn with
  | .own k p => match inv k with
    | some k' => match T k' with
      | some b' => match p with
        | none => .own k' none
        | some r => if b'.own.contains r then .own k' (some r) else .frz
      | none => .no
    | none => .no
  | s => s
theorem Frm.select (f : Frm E gh w) (T : Nat → Option (Blk U)) (inv : Nat → Option Nat) (base : Nat → Nat) (hdr : Nat → Hdr) (hT : ∀ k' b', T k' = some b' → TgtF U gh w inv base hdr k' b') :
    Frm E ⟨base, hdr, selSt gh.st T inv⟩ w ∧ (∀ bn, gh.F bn → (⟨base, hdr, selSt gh.st T inv⟩ : Gh).F bn) ∧
      (∀ k' b', T k' = some b' → RepBlk U ⟨base, hdr, selSt gh.st T inv⟩ w k' b') ∧
      ∀ k' b', T k' = some b' → ∀ bn p, Ow ⟨base, hdr, selSt gh.st T inv⟩ k' b' bn p → selSt gh.st T inv bn = .own k' p := by
  have hF : ∀ bn, gh.F bn → selSt gh.st T inv bn = .frz := fun bn h => by
    unfold selSt
    rw [Gh.F] at h
    rw [h]
  have hof : ∀ bn, selSt gh.st T inv bn ≠ .no → gh.st bn ≠ .no := fun bn h e => by
    unfold selSt at h
    rw [e] at h
    exact h rfl
  have how : ∀ bn k p, selSt gh.st T inv bn = .own k p → ∃ k p, gh.st bn = .own k p := fun bn k p h => by
    unfold selSt at h
    split at h
    · rename_i k p hst
      exact ⟨k, p, hst⟩
    · rename_i hst
      exact absurd h (hst k p)
  have hfz : ∀ bn, selSt gh.st T inv bn = .frz → gh.F bn ∨ ∃ k p, gh.st bn = .own k p := fun bn h => by
    unfold selSt at h
    split at h
    · rename_i k p hst
      exact .inr ⟨k, p, hst⟩
    · exact .inl h
  have hsel : ∀ {bn k k' : Nat} {p : Option (List Nat)} {b' : Blk U}, gh.st bn = .own k p → inv k = some k' → T k' = some b' → (∀ r, p = some r → b'.own.contains r = true) → selSt gh.st T inv bn = .own k' p := by
    intro bn k k' p b' h1 h2 h3 h4
    unfold selSt
    rw [h1]
    simp only [h2, h3]
    cases p with
    | none => rfl
    | some r => simp only [h4 r rfl, if_true]
  refine ⟨⟨fun bn => ?_, fun bn k p h => ?_, fun bn h => ?_, fun bn h => hF bn (f.old bn h), f.grown, f.kept, f.os, f.tape, f.output⟩, hF, fun k' b' hb' => ?_, fun k' b' hb' bn p hp => ?_⟩
  · by_cases h : selSt gh.st T inv bn = .no
    · exact .inl h
    · exact .inr ((f.bound bn).resolve_left (hof bn h))
  · obtain ⟨k, p, h⟩ := how bn k p h
    exact f.fresh bn k p h
  · rcases hfz bn h with h | ⟨k, p, h⟩
    · exact f.ffresh bn h
    · exact .inr (f.fresh bn k p h)
  · cases hT k' b' hb' with
    | row h1 h2 h3 h4 h5 h6 =>
      rename_i e l ad cap tag n xs
      subst h1
      refine (RepBlk.of_not rfl).2 ⟨rfl, .slice ad l.length cap, ?_⟩
      exact .row rfl rfl h3 (h4.mono fun b hb => ⟨hF b hb, rfl⟩) h5 (congrFun h2 [])
    | frz h1 h2 h3 =>
      rename_i e l ad cap
      subst h1
      refine (RepBlk.of_not rfl).2 ⟨rfl, .slice ad l.length cap, ?_⟩
      exact .frz rfl rfl (h3.mono fun b hb => ⟨hF b hb, rfl⟩) (congrFun h2 [])
    | box h1 h2 h20 h3 h4 h5 h6 h7 h8 =>
      rename_i k b own
      subst h1
      obtain ⟨cs, tag, g1, g2⟩ := (RepBlk.of_mem h3).1 h2
      refine (RepBlk.of_mem (b := newBlk b.x true own) rfl).2 ⟨cs, tag, by show w.heap[base k']? = _; rw [h7]; exact g1, ?_⟩
      show RepO U _ w (hdr k') own [] b.x cs
      rw [h8]
      rw [h4] at g2
      refine g2.freeze (sel := fun r => !own.contains r) hF (fun r ad cap q1 q2 q3 => ?_) fun r => ?_
      · have := h20 ad.block (some r) ⟨ad, cap, q1, q3, rfl⟩
        show selSt gh.st T inv ad.block = .frz
        unfold selSt
        rw [this]
        simp only [h6, hb']
        rw [if_neg]
        show ¬ own.contains r = true
        simpa using q2
      · cases hr : own.contains r with
        | false => simp
        | true =>
          have := List.all_eq_true.1 h5 r (by simpa using hr)
          simp only [this, Bool.not_true, Bool.not_false, Bool.and_self]
  · cases hT k' b' hb' with
    | row h1 h2 h3 h4 h5 h6 =>
      rename_i e l ad cap tag n xs
      subst h1
      cases p with
      | none => cases hp.1
      | some q =>
        obtain ⟨c, cc, g1, g2, g3⟩ := hp
        have g1 : ([[]] : List (List Nat)).contains q = true := g1
        have hq : q = [] := by simpa using g1
        subst hq
        have g2 : hdr k' [] = (some c, cc) := g2
        rw [h2] at g2
        cases g2
        obtain ⟨k, q1, q2⟩ := h6 c rfl
        rw [← g3]
        exact hsel q1 q2 hb' fun r hr => by cases hr; rfl
    | frz h1 h2 h3 =>
      subst h1
      cases p with
      | none => cases hp.1
      | some q =>
        obtain ⟨c, cc, g1, g2, g3⟩ := hp
        cases (show ([] : List (List Nat)).contains q = true from g1)
    | box h1 h2 h20 h3 h4 h5 h6 h7 h8 =>
      rename_i k b own
      subst h1
      cases p with
      | none =>
        have g : base k' = bn := hp.2
        have := h20 bn none ⟨h3, by rw [← h7]; exact g⟩
        exact hsel this h6 hb' fun r hr => by cases hr
      | some r =>
        obtain ⟨ad, cap, g1, g2, g3⟩ := hp
        have g2 : hdr k' r = (some ad, cap) := g2
        rw [h8] at g2
        have g1 : own.contains r = true := g1
        have := h20 bn (some r) ⟨ad, cap, List.all_eq_true.1 h5 r (by simpa using g1), g2, g3⟩
        exact hsel this h6 hb' fun r' hr => by cases hr; exact g1
theorem Sim.select (S : Sim U E gh ρ a w) (T : Nat → Option (Blk U)) (inv : Nat → Option Nat) (base : Nat → Nat) (hdr : Nat → Hdr) (hT : ∀ k' b', T k' = some b' → Tgt U gh ρ w inv base hdr k' b') :
    Frm E ⟨base, hdr, selSt gh.st T inv⟩ w ∧ (∀ bn, gh.F bn → (⟨base, hdr, selSt gh.st T inv⟩ : Gh).F bn) ∧
      (∀ k' b', T k' = some b' → RepBlk U ⟨base, hdr, selSt gh.st T inv⟩ w k' b') ∧
      ∀ k' b', T k' = some b' → ∀ bn p, Ow ⟨base, hdr, selSt gh.st T inv⟩ k' b' bn p → selSt gh.st T inv bn = .own k' p :=
  S.frm.select T inv base hdr fun k' b' h => match hT k' b' h with
    | .row h1 h2 h3 h4 h5 h6 => .row h1 h2 h3 h4 h5 h6
    | .frz h1 h2 h3 => .frz h1 h2 h3
    | .box h1 h2 h3 h4 h5 h6 h7 h8 => .box h1 (S.blks _ _ h2) (S.owns _ _ h2) h3 h4 h5 h6 h7 h8
end
end Go.Ev
end
section
namespace Go.Ev
variable {U : Univ} {P : Program}
inductive KF (U : Univ) (gh : Gh) (ρ : St U) (w : World) (tm : Nat → Value) : KT → List U.D → List (Nat × Nat) → Prop
  | slot {n : Nat} {x : U.D} : RepV U gh.F w x (tm n) → KF U gh ρ w tm (.slot n x.t) [x] []
  | vptr {n : Nat} {x : U.D} {ad : Addr} {cs : List Value} : tm n = .pointer (some ad) → ad.spot = none → gh.F ad.block → Cells w ad cs → Rep U gh.F w x cs → KF U gh ρ w tm (.vptr n x.t) [x] []
  | rowNil {n : Nat} {e : Ty} : ρ.slot n = .nilsl → tm n = .slice none 0 0 → KF U gh ρ w tm (.row n e) [⟨.sl e, []⟩] []
  | row {n k v m cap tag : Nat} {wn : Win} {e : Ty} {l : List (e.den U.car)} {ad : Option Addr} {xs : List Value} : ρ.slot n = .row k v [] wn → tm n = .slice ad l.length cap → Sz U e m → RepL U gh.F w (l.map (D.mk e)) xs →
      w.ownsRow 0 tag m (.slice ad l.length cap) l.length xs → (∀ c, ad = some c → gh.st c.block = .own k (some [])) →
      (wn = .all → gh.hdr k [] = (ad, cap) ∧ ∀ b, ρ.blk k = some b → b.x = ⟨.sl e, l⟩) → KF U gh ρ w tm (.row n e) [⟨.sl e, l⟩] [(k, n)]
  | rowF {n : Nat} {c : Int} {e : Ty} {l : List (e.den U.car)} {ad : Option Addr} : 0 ≤ c → c.toNat ≤ l.length → tm n = .slice ad c.toNat l.length → Rep U gh.F w ⟨.sl e, l⟩ [.slice ad l.length l.length] →
      KF U gh ρ w tm (.rowF n e) [⟨.sl e, l⟩, ⟨.int .i64, c⟩] []
  | box {k : Nat} {b : Blk U} {own : List (List Nat)} : ρ.blk k = some b → b.mem = true → b.dead = [] → own.all b.own.contains = true → KF U gh ρ w tm (.box k b.x.t own) [b.x] [(k, k)]
  | ptr {n k : Nat} {p : List Nat} {t : Ty} {b : Blk U} {ad : Addr} : ρ.blk k = some b → PtrAt gh k b (p.map .fld) t ad → tm n = .pointer (some ad) → KF U gh ρ w tm (.ptr n k p t) [] []
  | fn {n f : Nat} : tm n = .func (.func f) #[] #[] → KF U gh ρ w tm (.fn n f) [] []
  | winNil {n m : Nat} {e : Ty} : tm n = .slice none 0 0 → KF U gh ρ w tm (.win n m e) [⟨.int .i64, (0 : Int)⟩, ⟨.int .i64, (0 : Int)⟩] []
  | win {n m k v sz : Nat} {e : Ty} {b : Blk U} {l : List (e.den U.car)} {o c : Int} : ρ.slot m = .row k v [] .all → ρ.blk k = some b → b.x = ⟨.sl e, l⟩ → Sz U e sz → RowVal (gh.hdr k []) l.length sz (.mid o c) (tm n) →
      KF U gh ρ w tm (.win n m e) [⟨.int .i64, o⟩, ⟨.int .i64, c⟩] []
inductive KFs (U : Univ) (gh : Gh) (ρ : St U) (w : World) (tm : Nat → Value) : List KT → List U.D → List (Nat × Nat) → Prop
  | nil : KFs U gh ρ w tm [] [] []
  | cons {k : KT} {ks : List KT} {xs ys : List U.D} {m ms : List (Nat × Nat)} : KF U gh ρ w tm k xs m → KFs U gh ρ w tm ks ys ms → KFs U gh ρ w tm (k :: ks) (xs ++ ys) (m ++ ms)
structure Adv (gh gh' : Gh) (ρ ρ' : St U) (D : List Nat) : Prop where
  base : gh'.base = gh.base
  hdr : gh'.hdr = gh.hdr
  F : ∀ b, gh.F b → gh'.F b
  slot : ∀ n, ρ'.slot n = ρ.slot n
  taken : ∀ k ∈ D, ρ'.blk k = ρ.blk k ∧ ∀ bn p, gh.st bn = .own k p → gh'.st bn = .own k p
  blk : ∀ k b, ρ.blk k = some b → ∃ b', ρ'.blk k = some b' ∧ b'.x = b.x ∧ b'.ver = b.ver ∧ b'.mem = b.mem ∧ b'.dead = b.dead
  none : ∀ k, ρ.blk k = none → ρ'.blk k = none
theorem Adv.refl (gh : Gh) (ρ : St U) (D : List Nat) : Adv gh gh ρ ρ D := ⟨rfl, rfl, fun _ h => h, fun _ => rfl, fun _ _ => ⟨rfl, fun _ _ h => h⟩, fun _ b h => ⟨b, h, rfl, rfl, rfl, rfl⟩, fun _ h => h⟩
theorem Adv.trans {gh gh1 gh2 : Gh} {ρ ρ1 ρ2 : St U} {D D' : List Nat} (h1 : Adv gh gh1 ρ ρ1 D) (h2 : Adv gh1 gh2 ρ1 ρ2 D') (hD : ∀ k ∈ D, k ∈ D') : Adv gh gh2 ρ ρ2 D := by
  refine ⟨h2.base.trans h1.base, h2.hdr.trans h1.hdr, fun b h => h2.F b (h1.F b h), fun n => (h2.slot n).trans (h1.slot n), fun k hk => ?_, fun k b hb => ?_, fun k h => h2.none k (h1.none k h)⟩
  · obtain ⟨e1, e2⟩ := h1.taken k hk
    obtain ⟨e3, e4⟩ := h2.taken k (hD k hk)
    exact ⟨e3.trans e1, fun bn p h => e4 bn p (e2 bn p h)⟩
  · obtain ⟨b1, e1, e2, e3, e4, e5⟩ := h1.blk k b hb
    obtain ⟨b2, g1, g2, g3, g4, g5⟩ := h2.blk k b1 e1
    exact ⟨b2, g1, g2.trans e2, g3.trans e3, g4.trans e4, g5.trans e5⟩
theorem KF.adv {gh gh' : Gh} {ρ ρ' : St U} {w : World} {tm : Nat → Value} {D : List Nat} (A : Adv gh gh' ρ ρ' D) {k : KT} {xs : List U.D} {m : List (Nat × Nat)} (hm : ∀ y ∈ m, y.1 ∈ D) (h : KF U gh ρ w tm k xs m) : KF U gh' ρ' w tm k xs m := by
  have hF : ∀ b, gh.F b → gh'.F b ∧ w.heap[b]? = w.heap[b]? := fun b hb => ⟨A.F b hb, rfl⟩
  cases h with
  | slot h => exact .slot (h.mono hF)
  | vptr h1 h2 h3 h4 h5 => exact .vptr h1 h2 (A.F _ h3) h4 (h5.mono hF)
  | rowNil h0 h => exact .rowNil ((A.slot _).trans h0) h
  | row h1 h2 h3 h4 h5 h6 h7 =>
    rename_i n k v mm cap tag wn e l ad xs
    have ht := A.taken k (hm (k, n) List.mem_cons_self)
    exact .row ((A.slot n).trans h1) h2 h3 (h4.mono hF) h5 (fun c hc => ht.2 _ _ (h6 c hc)) fun hw => by
      obtain ⟨g1, g2⟩ := h7 hw
      refine ⟨by rw [A.hdr]; exact g1, fun b hb => g2 b (by rw [← ht.1]; exact hb)⟩
  | rowF h1 h2 h3 h4 => exact .rowF h1 h2 h3 (h4.mono hF)
  | box h1 h2 h3 h4 =>
    rename_i k b own
    have ht := A.taken k (hm (k, k) List.mem_cons_self)
    exact .box (by rw [ht.1]; exact h1) h2 h3 h4
  | ptr h1 h2 h3 =>
    obtain ⟨b', g1, g2, g3, g4, g5⟩ := A.blk _ _ h1
    exact .ptr g1 (PtrAt.congr (by rw [A.base]) (by rw [A.hdr]) g4 (by rw [g2]) h2) h3
  | fn h => exact .fn h
  | winNil h => exact .winNil h
  | win h1 h2 h3 h4 h5 =>
    obtain ⟨b', g1, g2, g3, g4, g5⟩ := A.blk _ _ h2
    exact .win ((A.slot _).trans h1) g1 (g2.trans h3) h4 (by rw [A.hdr]; exact h5)
section
variable {E : Env} {gh : Gh} {σ ρ : St U} {a : Act} {w : World} {o : Oper}
structure Rem (ρ σ : St U) (D : List Nat) : Prop where
  slot : ∀ n, σ.slot n = ρ.slot n
  blk : ∀ k, σ.blk k = if k ∈ D then none else ρ.blk k
theorem Rem.some {D : List Nat} (R : Rem ρ σ D) {k : Nat} {b : Blk U} (h : σ.blk k = some b) : k ∉ D ∧ ρ.blk k = some b := by
  rw [R.blk] at h
  split at h
  · cases h
  · rename_i hk
    exact ⟨hk, h⟩
theorem Rem.take {D : List Nat} (R : Rem ρ σ D) (k : Nat) : Rem ρ (σ.put (.blk k none)) (k :: D) := by
  refine ⟨fun n => R.slot n, fun j => ?_⟩
  rw [St.blk_put]
  by_cases h : k = j
  · subst h; simp
  · rw [if_neg h, R.blk]
    have : (j ∈ k :: D) = (j ∈ D) := by simp [Ne.symm h]
    simp only [this]
theorem Rem.freeze {D : List Nat} (R : Rem ρ σ D) {k : Nat} (hk : k ∉ D) (b : Blk U) : Rem (ρ.put (.blk k (.some b))) (σ.put (.blk k (.some b))) D := by
  refine ⟨fun n => R.slot n, fun j => ?_⟩
  rw [St.blk_put, St.blk_put]
  by_cases h : k = j
  · subst h; simp [hk]
  · simp only [if_neg h]
    exact R.blk j
theorem adv_freeze (S : Sim U E gh ρ a w) {D : List Nat} {k : Nat} {b : Blk U} (hk : k ∉ D) (hb : ρ.blk k = some b) (q : List Nat) : Adv gh (gh.freeze k b q) ρ (ρ.put (.blk k (some (b.frozen q)))) D := by
  refine ⟨rfl, rfl, freeze_F gh k b q, fun _ => rfl, fun j hj => ?_, fun j c hc => ?_, fun j hj => ?_⟩
  · have hne : k ≠ j := fun e => hk (e ▸ hj)
    refine ⟨St.blk_put_ne ρ _ hne, fun bn p h => ?_⟩
    unfold Gh.freeze
    simp only
    rw [if_neg]
    · exact h
    · rintro ⟨r, _, _, g3⟩
      rw [h] at g3
      cases g3
      exact hne rfl
  · by_cases h : k = j
    · subst h
      cases hb.symm.trans hc
      exact ⟨b.frozen q, St.blk_put_same .., rfl, rfl, rfl, rfl⟩
    · exact ⟨c, by rw [St.blk_put_ne ρ _ h]; exact hc, rfl, rfl, rfl, rfl⟩
  · have hne : k ≠ j := fun e => by rw [← e, hb] at hj; cases hj
    rw [St.blk_put_ne ρ _ hne]
    exact hj
end
end Go.Ev
end
section
namespace Go.Ev
variable {U : Univ} {P : Program}
section
variable {E : Env} {a : Act} {w : World} {o : Oper}
theorem run_plainOf_any {σ ρ : St U} {t : Ty} {v : AV U} (h : ∀ k ver q wn, v ≠ .row k ver q wn) : (plainOf t v .ret : Rd U U.D).run σ = (plainOf t v .ret : Rd U U.D).run ρ := by
  unfold plainOf
  split
  · split <;> rfl
  · split <;> rfl
  · split <;> rfl
  · split <;> rfl
  · exact absurd rfl (h _ _ _ _)
  · rfl
abbrev tmOf (a : Act) : Nat → Value := fun n => a.tmps.getD n Go.undef
theorem canonD_facts (hU : ULaw U) : ∀ (ks : List KT) {β : Type} {K : List U.D → Option β} {r : β} {gh : Gh} {σ ρ : St U} {D : List Nat}, Sim U E gh ρ a w → Rem ρ σ D → canonD σ ks K = some r →
    ∃ xs, K xs = some r ∧ ∃ gh' ρ' ms, Sim U E gh' ρ' a w ∧ Adv gh gh' ρ ρ' D ∧ KFs U gh' ρ' w (tmOf a) ks xs ms ∧ (∀ y ∈ ms, y.1 ∉ D) ∧ (ms.map Prod.fst).Nodup := by
  intro ks
  induction ks with
  | nil =>
    intro β K r gh σ ρ D S R h
    simp only [canonD] at h
    exact ⟨[], h, gh, ρ, [], S, Adv.refl .., .nil, fun y hy => (by cases hy), List.nodup_nil⟩
  | cons kt ks ih =>
    intro β K r gh σ ρ D S R h
    have goOn : ∀ {x : List U.D} {gh1 : Gh} {σ1 ρ1 : St U}, canonD σ1 ks (fun xs => K (x ++ xs)) = some r → Sim U E gh1 ρ1 a w → Adv gh gh1 ρ ρ1 D → Rem ρ1 σ1 D → KF U gh1 ρ1 w (tmOf a) kt x [] →
        ∃ xs, K xs = some r ∧ ∃ gh' ρ' ms, Sim U E gh' ρ' a w ∧ Adv gh gh' ρ ρ' D ∧ KFs U gh' ρ' w (tmOf a) (kt :: ks) xs ms ∧ (∀ y ∈ ms, y.1 ∉ D) ∧ (ms.map Prod.fst).Nodup := by
      intro x gh1 σ1 ρ1 h S1 A1 R1 hf
      obtain ⟨xs, hK, gh', ρ', ms, S', A', hfs, hms, hnd⟩ := ih S1 R1 h
      exact ⟨_, hK, gh', ρ', ms, S', A1.trans A' (fun _ h => h), KFs.cons (m := []) (hf.adv A' (fun y hy => by cases hy)) hfs, hms, hnd⟩
    have goTake : ∀ {x : List U.D} {k k' : Nat}, k ∉ D → canonD (σ.put (.blk k none)) ks (fun xs => K (x ++ xs)) = some r → KF U gh ρ w (tmOf a) kt x [(k, k')] →
        ∃ xs, K xs = some r ∧ ∃ gh' ρ' ms, Sim U E gh' ρ' a w ∧ Adv gh gh' ρ ρ' D ∧ KFs U gh' ρ' w (tmOf a) (kt :: ks) xs ms ∧ (∀ y ∈ ms, y.1 ∉ D) ∧ (ms.map Prod.fst).Nodup := by
      intro x k k' hk h hf
      obtain ⟨xs, hK, gh', ρ', ms, S', A', hfs, hms, hnd⟩ := ih S (R.take k) h
      refine ⟨_, hK, gh', ρ', (k, k') :: ms, S', ⟨A'.base, A'.hdr, A'.F, A'.slot, fun j hj => A'.taken j (List.mem_cons_of_mem _ hj), A'.blk, A'.none⟩, KFs.cons (m := [(k, k')]) (hf.adv A' (fun y hy => by simp at hy; subst hy; exact List.mem_cons_self)) hfs, fun y hy => ?_, ?_⟩
      · cases hy with
        | head => exact hk
        | tail _ hy => exact fun e => hms y hy (List.mem_cons_of_mem _ e)
      · simp only [List.map_cons, List.nodup_cons]
        refine ⟨fun e => ?_, hnd⟩
        obtain ⟨y, hy, e⟩ := List.mem_map.1 e
        exact hms y hy (e ▸ List.mem_cons_self)
    cases kt with
    | slot n t =>
      simp only [canonD] at h
      have hs := S.slots n
      rw [R.slot] at h
      split at h
      · rename_i k v q wn hsl
        rw [Rd.runK_eq] at h
        simp only [Option.bind_eq_some_iff] at h
        obtain ⟨x, hx, h⟩ := h
        split at h
        case h_2 => cases h
        rename_i b hb
        obtain ⟨hkD, hb'⟩ := R.some hb
        simp only [plainOf] at hx
        obtain ⟨b0, x0, hb0, hdead, hver, hg, hx⟩ := rowOf_some hx
        cases hb.symm.trans hb0
        split at hx
        case h_2 => simp at hx
        rename_i y hy
        split at hx
        case isFalse => simp at hx
        rename_i hyt
        simp only [run_ret, Option.some.injEq] at hx
        subst hx
        obtain ⟨e, l, l', rfl, rfl⟩ := win_sl hy
        have hte := Ty.beq_eq hyt
        simp only at hte
        subst hte
        rw [hsl] at hs
        cases hs with
        | row _ hr =>
          obtain ⟨b1, hb1, _, hr⟩ := hr
          cases hb'.symm.trans hb1
          obtain ⟨m, hm, hr⟩ := hr hver e l hg
          have S1 := S.freezeAt hb' q
          have Rp := S1.rowRep hU (b := b.frozen q) (q := q) (St.blk_put_same ..) (by show (b.own.filter _).contains q = false; rw [contains_filter, pre_self]; simp) (dead_no hdead) hg
          obtain ⟨cs, h1, h2⟩ := Rep.win hU Rp hm hr hy
          exact goOn (x := [⟨.sl e, l'⟩]) h S1 (adv_freeze S hkD hb' q) (R.freeze hkD _) (.slot ⟨cs, h1, h2⟩)
      · rename_i hne
        rw [Rd.runK_eq] at h
        simp only [Option.bind_eq_some_iff] at h
        obtain ⟨x, hx, h⟩ := h
        rw [run_plainOf_any (ρ := ρ) (fun k v q wn e => hne k v q wn e)] at hx
        obtain ⟨x', hxt, hx', hrep, _⟩ := plainOf_some hU S hs hx
        simp only [run_ret, Option.some.injEq] at hx'
        subst hx'
        subst hxt
        exact goOn (x := [x']) h S (Adv.refl ..) R (.slot (hrep fun k v q wn e => hne k v q wn e))
    | vptr n t =>
      simp only [canonD] at h
      have hs := S.slots n
      rw [R.slot] at h
      split at h
      · rename_i x hsl
        split at h
        case isFalse => cases h
        rename_i hxt
        have hxt := Ty.beq_eq hxt
        subst hxt
        rw [hsl] at hs
        generalize hev : a.tmps.getD n Go.undef = vv at hs
        cases hs with
        | vptr h1 h2 h3 h4 => exact goOn (x := [x]) h S (Adv.refl ..) R (.vptr hev h1 h2 h3 h4)
      · cases h
    | row n e =>
      simp only [canonD] at h
      have hs := S.slots n
      rw [R.slot] at h
      split at h
      · rename_i hsl
        rw [hsl] at hs
        generalize hev : a.tmps.getD n Go.undef = vv at hs
        cases hs with
        | nilsl => exact goOn (x := [⟨.sl e, []⟩]) h S (Adv.refl ..) R (.rowNil hsl hev)
      · rename_i k v wn hsl
        split at h
        case h_2 => cases h
        rename_i b hb
        split at h
        case isFalse => cases h
        rename_i hc
        simp only [Bool.and_eq_true, Bool.not_eq_true', beq_iff_eq, List.isEmpty_iff] at hc
        obtain ⟨⟨⟨⟨⟨hm, ho⟩, hver⟩, hbt⟩, hdead⟩, hhead⟩ := hc
        split at h
        case h_2 => cases h
        rename_i y hy
        obtain ⟨hkD, hb'⟩ := R.some hb
        obtain ⟨e', l0, l, hbx, rfl⟩ := win_sl hy
        have hte := Ty.beq_eq hbt
        rw [hbx] at hte
        cases hte
        rw [hsl] at hs
        rw [hbx] at hy
        have hd0 : b.dead.contains [] = false := by rw [hdead]; rfl
        have hg : getQ U [] b.x = some ⟨.sl e, l0⟩ := by simp only [getQ, hbx]
        obtain ⟨ad, cap, tag, m, xs, hu, hm2, hr, hown, hst⟩ := S.ownHead hU hb' ho hd0 hver hg hy hhead hs
        refine goTake (x := [⟨.sl e, l⟩]) hkD h (.row hsl hu hm2 hr hown hst fun hall => ?_)
        subst hall
        have hy : some (⟨.sl e, l0⟩ : U.D) = some ⟨.sl e, l⟩ := hy
        cases hy
        cases hs with
        | row _ hrr =>
          obtain ⟨b1, hb1, _, hrr⟩ := hrr
          cases hb'.symm.trans hb1
          obtain ⟨m', _, hrr⟩ := hrr hver e l0 hg
          have hrr : a.tmps.getD n Go.undef = .slice (gh.hdr k []).1 l0.length (gh.hdr k []).2 := hrr
          have hu : a.tmps.getD n Go.undef = .slice ad l0.length cap := hu
          rw [hu] at hrr
          simp only [Value.slice.injEq] at hrr
          refine ⟨?_, fun b2 hb2 => ?_⟩
          · obtain ⟨q1, _, q2⟩ := hrr
            rw [q1, q2]
          · cases hb'.symm.trans hb2
            exact hbx
      · cases h
    | rowF n e =>
      simp only [canonD] at h
      have hs := S.slots n
      rw [R.slot] at h
      split at h
      case h_2 => cases h
      rename_i k v c hsl
      split at h
      case h_2 => cases h
      rename_i b hb
      split at h
      case isFalse => cases h
      rename_i hc
      simp only [Bool.and_eq_true, beq_iff_eq, List.isEmpty_iff] at hc
      obtain ⟨⟨hver, hbt⟩, hdead⟩ := hc
      obtain ⟨hkD, hb'⟩ := R.some hb
      have hte := Ty.beq_eq hbt
      obtain ⟨l, hbx⟩ : ∃ l : List (e.den U.car), b.x = ⟨.sl e, l⟩ := by
        obtain ⟨bx, _, _, _, _⟩ := b
        obtain ⟨bt, bx⟩ := bx
        simp only at hte
        subst hte
        exact ⟨bx, rfl⟩
      have hd0 : b.dead.contains [] = false := by rw [hdead]; rfl
      have hg : getQ U [] b.x = some ⟨.sl e, l⟩ := by simp only [getQ, hbx]
      have S1 := S.freezeAt hb' []
      have Rp := S1.rowRep hU (b := b.frozen []) (q := []) (St.blk_put_same ..) (by show (b.own.filter _).contains [] = false; rw [contains_filter, pre_self]; simp) hd0 hg
      rw [hsl] at hs
      generalize hev : a.tmps.getD n Go.undef = vv at hs
      cases hs with
      | row _ hrr =>
        obtain ⟨b1, hb1, _, hrr⟩ := hrr
        cases hb'.symm.trans hb1
        obtain ⟨m', _, r0, r1, r2, r3⟩ := hrr hver e l hg
        rw [hbx] at h
        exact goOn (x := [⟨.sl e, l⟩, ⟨.int .i64, c⟩]) h S1 (adv_freeze S hkD hb' []) (R.freeze hkD _) (.rowF (ad := (gh.hdr k []).1) r0 r1 (hev.trans (by rw [r2, r3])) (by have := Rp; rw [show ((gh.freeze k b []).hdr k []).2 = l.length from r3] at this; exact this))
    | ptr n k p t =>
      simp only [canonD] at h
      have hs := S.slots n
      rw [R.slot] at h
      split at h
      · rename_i k' v p' t' hsl
        split at h
        case isFalse => cases h
        rename_i hc
        simp only [Bool.and_eq_true, beq_iff_eq] at hc
        obtain ⟨⟨rfl, hp⟩, ht⟩ := hc
        have ht := Ty.beq_eq ht
        subst ht
        unfold fldsEq at hp
        split at hp
        case h_2 => cases hp
        rename_i r hr
        have hp := (beq_iff_eq).1 hp
        subst hp
        obtain ⟨_, rfl⟩ := flds_front hr
        rw [hsl] at hs
        generalize hev : a.tmps.getD n Go.undef = vv at hs
        cases hs with
        | ptr hp =>
          obtain ⟨b, hb, _, hp⟩ := hp
          exact goOn (x := []) h S (Adv.refl ..) R (.ptr hb (hp (.inl (hasIx_flds _))) hev)
      · cases h
    | fn n f =>
      simp only [canonD] at h
      have hs := S.slots n
      rw [R.slot] at h
      split at h
      · rename_i f' hsl
        split at h
        case isFalse => cases h
        rename_i hc
        have hc := (beq_iff_eq).1 hc
        subst hc
        rw [hsl] at hs
        generalize hev : a.tmps.getD n Go.undef = vv at hs
        cases hs with
        | fn => exact goOn (x := []) h S (Adv.refl ..) R (.fn hev)
      · cases h
    | box k t own =>
      simp only [canonD] at h
      split at h
      case h_2 => cases h
      rename_i b hb
      split at h
      case isFalse => cases h
      rename_i hc
      simp only [Bool.and_eq_true, List.isEmpty_iff] at hc
      obtain ⟨⟨⟨hm, hdead⟩, hbt⟩, hown⟩ := hc
      have hbt := Ty.beq_eq hbt
      subst hbt
      obtain ⟨hkD, hb'⟩ := R.some hb
      exact goTake (x := [b.x]) hkD h (.box hb' hm hdead hown)
    | win n m e =>
      simp only [canonD] at h
      have hs := S.slots n
      rw [R.slot] at h
      split at h
      · rename_i hsl
        rw [hsl] at hs
        generalize hev : a.tmps.getD n Go.undef = vv at hs
        cases hs with
        | nilsl => exact goOn (x := [_, _]) h S (Adv.refl ..) R (.winNil hev)
      · rename_i k v wn hsl
        rw [R.slot] at h
        split at h
        case h_2 => cases h
        rename_i k' v' b hslm hb
        split at h
        case isFalse => cases h
        rename_i hc
        simp only [Bool.and_eq_true, Bool.not_eq_true', beq_iff_eq, List.isEmpty_iff] at hc
        obtain ⟨⟨⟨⟨⟨rfl, hver⟩, hver'⟩, hm⟩, hbt⟩, hdead⟩ := hc
        obtain ⟨hkD, hb'⟩ := R.some hb
        have hte := Ty.beq_eq hbt
        obtain ⟨l, hbx⟩ : ∃ l : List (e.den U.car), b.x = ⟨.sl e, l⟩ := by
          obtain ⟨bx, _, _, _, _⟩ := b
          obtain ⟨bt, bx⟩ := bx
          simp only at hte
          subst hte
          exact ⟨bx, rfl⟩
        have hg : getQ U [] b.x = some ⟨.sl e, l⟩ := by simp only [getQ, hbx]
        have hd0 : b.dead.contains [] = false := by rw [hdead]; rfl
        have Rw := S.rowAt hU hb' hd0 hg
        rw [hsl] at hs
        cases hs with
        | row _ hr =>
          obtain ⟨b1, hb1, _, hr⟩ := hr
          cases hb'.symm.trans hb1
          obtain ⟨sz, hsz, hr⟩ := hr hver e l hg
          have mk : ∀ c : Nat, c ≤ l.length → a.tmps.getD n Go.undef = .slice (gh.hdr k []).1 c (gh.hdr k []).2 → RowVal (gh.hdr k []) l.length sz (.mid 0 (c : Int)) (tmOf a n) := by
            intro c hc hv
            refine ⟨Int.le_refl _, Int.natCast_nonneg _, by simpa using hc, (gh.hdr k []).1, (gh.hdr k []).2, by simpa using hv, ?_, Rw.cap, fun _ ad had => ?_⟩
            · have := Rw.le
              simp only [Int.toNat_natCast]
              omega
            · simp only [Int.toNat_zero, Nat.zero_mul, Ev.add_zero]
              exact had
          rw [hbx] at h
          cases wn with
          | all => exact goOn (x := [_, _]) h S (Adv.refl ..) R (.win hslm hb' hbx hsz (mk _ (Nat.le_refl _) hr))
          | pre c =>
            obtain ⟨g0, g1, g2⟩ := hr
            have := mk c.toNat g1 g2
            rw [Int.toNat_of_nonneg g0] at this
            exact goOn (x := [_, _]) h S (Adv.refl ..) R (.win hslm hb' hbx hsz this)
          | full c =>
            obtain ⟨g0, g1, g2, _⟩ := hr
            have := mk c.toNat g1 g2
            rw [Int.toNat_of_nonneg g0] at this
            exact goOn (x := [_, _]) h S (Adv.refl ..) R (.win hslm hb' hbx hsz this)
          | mid o c => exact goOn (x := [_, _]) h S (Adv.refl ..) R (.win hslm hb' hbx hsz hr)
      · cases h
end
end Go.Ev
end
section
namespace Go.Ev
variable {U : Univ} {P : Program}
def avOf : KT → List U.D → Option (Nat × AV U)
  | .slot n _, x :: _ => some (n, .d x)
  | .vptr n _, x :: _ => some (n, .vptr x)
  | .row n _, _ :: _ => some (n, .row n 0 [] .all)
  | .rowF n _, _ :: ⟨.int _, c⟩ :: _ => some (n, .row n 0 [] (.full c))
  | .ptr n k p t, _ => some (n, .ptr k 0 (p.map .fld) t)
  | .fn n f, _ => some (n, .fn f)
  | .win n m _, ⟨.int _, o⟩ :: ⟨.int _, l⟩ :: _ => some (n, .row m 0 [] (.mid o l))
  | _, _ => none
def blkOf : KT → List U.D → Option (Nat × Blk U)
  | .row n _, x :: _ => some (n, newBlk x false [[]])
  | .rowF n _, x :: ⟨.int _, _⟩ :: _ => some (n, newBlk x false [])
  | .box k _ own, x :: _ => some (k, newBlk x true own)
  | _, _ => none
theorem build_no : ∀ (ks : List KT) (xs : List U.D) (τ : St U) (k : Nat), (blksOf ks).contains k = false → (build ks xs τ).blk k = τ.blk k
  | [], _, _, _, _ => rfl
  | kt :: ks, xs, τ, k, h => by
    cases kt with
    | slot n t =>
      cases xs with
      | nil => rfl
      | cons x xs => simp only [build]; rw [build_no ks xs _ k h]; rfl
    | vptr n t =>
      cases xs with
      | nil => rfl
      | cons x xs => simp only [build]; rw [build_no ks xs _ k h]; rfl
    | row n e =>
      simp only [blksOf, List.contains_cons, Bool.or_eq_false_iff, beq_eq_false_iff_ne, ne_eq] at h
      cases xs with
      | nil => rfl
      | cons x xs => simp only [build]; rw [build_no ks xs _ k h.2, St.blk_put_ne _ _ (fun e => h.1 e.symm)]; rfl
    | rowF n e =>
      simp only [blksOf, List.contains_cons, Bool.or_eq_false_iff, beq_eq_false_iff_ne, ne_eq] at h
      unfold build
      split
      all_goals first
        | rfl
        | (rename_i heq; cases heq; done)
        | (rename_i heq _; cases heq; done)
        | skip
      all_goals (try (rename_i heq; cases heq; rw [build_no ks _ _ k h.2, St.blk_put_ne _ _ (fun e => h.1 e.symm)]; rfl))
    | box n t own =>
      simp only [blksOf, List.contains_cons, Bool.or_eq_false_iff, beq_eq_false_iff_ne, ne_eq] at h
      cases xs with
      | nil => rfl
      | cons x xs => simp only [build]; rw [build_no ks xs _ k h.2, St.blk_put_ne _ _ (fun e => h.1 e.symm)]
    | ptr n j p t => simp only [build]; rw [build_no ks xs _ k h]; rfl
    | fn n f => simp only [build]; rw [build_no ks xs _ k h]; rfl
    | win n m e =>
      unfold build
      split
      all_goals first
        | rfl
        | (rename_i heq; cases heq; done)
        | (rename_i heq _; cases heq; done)
        | skip
      all_goals (try (rename_i heq; cases heq; rw [build_no ks _ _ k h]; rfl))
section
variable {gh : Gh} {ρ : St U} {w : World} {tm : Nat → Value}
theorem build_cons {kt : KT} {ks : List KT} {x ys : List U.D} {m : List (Nat × Nat)} (h : KF U gh ρ w tm kt x m) (τ : St U) :
    ∃ τ', build (kt :: ks) (x ++ ys) τ = build ks ys τ' ∧ (∀ n, τ'.slot n = τ.slot n ∨ ∃ v, avOf kt x = some (n, v) ∧ τ'.slot n = v) ∧ (∀ k, τ'.blk k = match blkOf kt x with | some (j, b) => if j = k then some b else τ.blk k | none => τ.blk k) := by
  have one : ∀ (n : Nat) (v : AV U), avOf kt x = some (n, v) → ∀ j, (τ.put (.slot n v)).slot j = τ.slot j ∨ ∃ u, avOf kt x = some (j, u) ∧ (τ.put (.slot n v)).slot j = u := by
    intro n v hv j
    rw [St.slot_put]
    by_cases h : n = j
    · subst h
      exact .inr ⟨v, hv, by simp⟩
    · rw [if_neg h]
      exact .inl rfl
  cases h with
  | slot h => exact ⟨_, rfl, one _ _ rfl, fun k => rfl⟩
  | vptr h1 h2 h3 h4 h5 => exact ⟨_, rfl, one _ _ rfl, fun k => rfl⟩
  | rowNil h0 h => exact ⟨_, rfl, one _ _ rfl, fun k => by simp only [blkOf, St.blk_put]; rfl⟩
  | row h1 h2 h3 h4 h5 h6 h7 => exact ⟨_, rfl, one _ _ rfl, fun k => by simp only [blkOf, St.blk_put]; rfl⟩
  | rowF h1 h2 h3 h4 => exact ⟨_, rfl, one _ _ rfl, fun k => by simp only [blkOf, St.blk_put]; rfl⟩
  | box h1 h2 h3 h4 => exact ⟨_, rfl, fun n => .inl rfl, fun k => by simp only [blkOf, St.blk_put]⟩
  | ptr h1 h2 h3 => exact ⟨_, rfl, one _ _ rfl, fun k => rfl⟩
  | fn h => exact ⟨_, rfl, one _ _ rfl, fun k => rfl⟩
  | winNil h => exact ⟨_, rfl, one _ _ rfl, fun k => rfl⟩
  | win h1 h2 h3 h4 h5 => exact ⟨_, rfl, one _ _ rfl, fun k => rfl⟩
theorem build_slot : ∀ {ks : List KT} {xs : List U.D} {ms : List (Nat × Nat)}, KFs U gh ρ w tm ks xs ms → ∀ (τ : St U) (n : Nat),
    (build ks xs τ).slot n = τ.slot n ∨ ∃ kt ∈ ks, ∃ x m v, KF U gh ρ w tm kt x m ∧ avOf kt x = some (n, v) ∧ (build ks xs τ).slot n = v
  | _, _, _, .nil, τ, n => .inl rfl
  | kt :: ks, _, _, .cons (xs := x) (m := m) h hs, τ, n => by
    obtain ⟨τ', e, h1, _⟩ := build_cons (ks := ks) h τ
    rw [e]
    rcases build_slot hs τ' n with h2 | ⟨kt', hk, x', m', v, g1, g2, g3⟩
    · rw [h2]
      rcases h1 n with h3 | ⟨v, h3, h4⟩
      · exact .inl h3
      · exact .inr ⟨kt, List.mem_cons_self, x, m, v, h, h3, h4⟩
    · exact .inr ⟨kt', List.mem_cons_of_mem _ hk, x', m', v, g1, g2, g3⟩
theorem build_blk : ∀ {ks : List KT} {xs : List U.D} {ms : List (Nat × Nat)}, KFs U gh ρ w tm ks xs ms → ∀ (τ : St U) (k : Nat) (b : Blk U), (build ks xs τ).blk k = some b →
    τ.blk k = some b ∨ ∃ kt ∈ ks, ∃ x m, KF U gh ρ w tm kt x m ∧ (∀ y ∈ m, y ∈ ms) ∧ blkOf kt x = some (k, b)
  | _, _, _, .nil, τ, k, b, hb => .inl hb
  | kt :: ks, _, _, .cons (xs := x) (m := m) (ms := ms) h hs, τ, k, b, hb => by
    obtain ⟨τ', e, _, h1⟩ := build_cons (ks := ks) h τ
    rw [e] at hb
    rcases build_blk hs τ' k b hb with h2 | ⟨kt', hk, x', m', g1, g2, g3⟩
    · rw [h1] at h2
      split at h2
      · rename_i j b' hjb
        split at h2
        · rename_i hj
          subst hj
          cases h2
          exact .inr ⟨kt, List.mem_cons_self, x, m, h, fun y hy => List.mem_append_left _ hy, hjb⟩
        · exact .inl h2
      · exact .inl h2
    · exact .inr ⟨kt', List.mem_cons_of_mem _ hk, x', m', g1, fun y hy => List.mem_append_right _ (g2 y hy), g3⟩
theorem blkOf_mem {kt : KT} {x : List U.D} {k : Nat} {b : Blk U} (ks : List KT) (h : blkOf kt x = some (k, b)) : blksOf (kt :: ks) = k :: blksOf ks := by
  unfold blkOf at h
  split at h <;> first | cases h | skip
  · rfl
  · rfl
  · rfl
theorem build_has : ∀ {ks : List KT} {xs : List U.D} {ms : List (Nat × Nat)}, KFs U gh ρ w tm ks xs ms → apartL (blksOf ks) = true → ∀ (τ : St U) (kt : KT), kt ∈ ks →
    ∃ x m, KF U gh ρ w tm kt x m ∧ ∀ k b, blkOf kt x = some (k, b) → (build ks xs τ).blk k = some b
  | kt0 :: ks, _, _, .cons (xs := x) (m := m) (ms := ms) (ys := ys) h hs, hap, τ, kt, hk => by
    obtain ⟨τ', e, _, h1⟩ := build_cons (ks := ks) h τ
    rw [e]
    cases hk with
    | head =>
      refine ⟨x, m, h, fun k b hkb => ?_⟩
      rw [blkOf_mem ks hkb] at hap
      simp only [apartL, Bool.and_eq_true, Bool.not_eq_true'] at hap
      rw [build_no ks ys τ' k hap.1, h1, hkb]
      simp
    | tail _ hk =>
      refine build_has hs ?_ τ' kt hk
      cases kt0 <;> simp only [blksOf, apartL, Bool.and_eq_true] at hap <;> first | exact hap | exact hap.2
theorem mem_boxesOf : ∀ {ks : List KT} {k : Nat}, (boxesOf ks).contains k = true → ∃ t own, KT.box k t own ∈ ks
  | [], k, h => by simp [boxesOf] at h
  | kt :: ks, k, h => by
    cases kt with
    | box j t own =>
      simp only [boxesOf, List.contains_cons, Bool.or_eq_true, beq_iff_eq] at h
      rcases h with rfl | h
      · exact ⟨t, own, List.mem_cons_self⟩
      · obtain ⟨t, own, h⟩ := mem_boxesOf h; exact ⟨t, own, List.mem_cons_of_mem _ h⟩
    | _ => obtain ⟨t, own, h⟩ := mem_boxesOf (ks := ks) (by simpa [boxesOf] using h); exact ⟨t, own, List.mem_cons_of_mem _ h⟩
theorem boxesOf_mem : ∀ {ks : List KT} {k : Nat} {t : Ty} {own : List (List Nat)}, KT.box k t own ∈ ks → (boxesOf ks).contains k = true
  | kt :: ks, k, t, own, h => by
    cases h with
    | head => simp [boxesOf]
    | tail _ h =>
      have := boxesOf_mem h
      cases kt <;> simp_all [boxesOf]
theorem blksOf_box : ∀ {ks : List KT} {k : Nat}, (boxesOf ks).contains k = true → (blksOf ks).contains k = true
  | [], k, h => by simp [boxesOf] at h
  | kt :: ks, k, h => by
    cases kt with
    | box j t own =>
      simp only [boxesOf, blksOf, List.contains_cons, Bool.or_eq_true] at h ⊢
      exact h.imp id blksOf_box
    | row n e =>
      simp only [boxesOf, blksOf, List.contains_cons, Bool.or_eq_true] at h ⊢
      exact .inr (blksOf_box h)
    | rowF n e =>
      simp only [boxesOf, blksOf, List.contains_cons, Bool.or_eq_true] at h ⊢
      exact .inr (blksOf_box h)
    | _ => exact blksOf_box (ks := ks) (by simpa [boxesOf] using h)
theorem blksOf_row : ∀ {ks : List KT} {n : Nat} {e : Ty}, KT.row n e ∈ ks → (blksOf ks).contains n = true
  | kt :: ks, n, e, h => by
    cases h with
    | head => simp [blksOf]
    | tail _ h =>
      have := blksOf_row h
      cases kt <;> simp_all [blksOf]
theorem row_no_box : ∀ {ks : List KT} {n : Nat} {e : Ty}, apartL (blksOf ks) = true → KT.row n e ∈ ks → (boxesOf ks).contains n = false
  | kt :: ks, n, e, hap, h => by
    cases h with
    | head =>
      simp only [blksOf, apartL, Bool.and_eq_true, Bool.not_eq_true'] at hap
      simp only [boxesOf]
      cases hc : (boxesOf ks).contains n with
      | false => rfl
      | true => rw [blksOf_box hc] at hap; cases hap.1
    | tail _ h =>
      cases kt with
      | box j t own =>
        simp only [blksOf, apartL, Bool.and_eq_true, Bool.not_eq_true'] at hap
        simp only [boxesOf, List.contains_cons, Bool.or_eq_false_iff, beq_eq_false_iff_ne, ne_eq]
        refine ⟨fun e' => ?_, row_no_box hap.2 h⟩
        subst e'
        rw [blksOf_row h] at hap
        cases hap.1
      | row j e' =>
        simp only [blksOf, apartL, Bool.and_eq_true] at hap
        simp only [boxesOf]
        exact row_no_box hap.2 h
      | rowF j e' =>
        simp only [blksOf, apartL, Bool.and_eq_true] at hap
        simp only [boxesOf]
        exact row_no_box hap.2 h
      | _ => simp only [boxesOf]; exact row_no_box (ks := ks) (by simpa [blksOf] using hap) h
theorem blksOf_rowF : ∀ {ks : List KT} {n : Nat} {e : Ty}, KT.rowF n e ∈ ks → (blksOf ks).contains n = true
  | kt :: ks, n, e, h => by
    cases h with
    | head => simp [blksOf]
    | tail _ h =>
      have := blksOf_rowF h
      cases kt <;> simp_all [blksOf]
theorem rowF_no_box : ∀ {ks : List KT} {n : Nat} {e : Ty}, apartL (blksOf ks) = true → KT.rowF n e ∈ ks → (boxesOf ks).contains n = false
  | kt :: ks, n, e, hap, h => by
    cases h with
    | head =>
      simp only [blksOf, apartL, Bool.and_eq_true, Bool.not_eq_true'] at hap
      simp only [boxesOf]
      cases hc : (boxesOf ks).contains n with
      | false => rfl
      | true => rw [blksOf_box hc] at hap; cases hap.1
    | tail _ h =>
      cases kt with
      | box j t own =>
        simp only [blksOf, apartL, Bool.and_eq_true, Bool.not_eq_true'] at hap
        simp only [boxesOf, List.contains_cons, Bool.or_eq_false_iff, beq_eq_false_iff_ne, ne_eq]
        refine ⟨fun e' => ?_, rowF_no_box hap.2 h⟩
        subst e'
        rw [blksOf_rowF h] at hap
        cases hap.1
      | row j e' =>
        simp only [blksOf, apartL, Bool.and_eq_true] at hap
        simp only [boxesOf]
        exact rowF_no_box hap.2 h
      | rowF j e' =>
        simp only [blksOf, apartL, Bool.and_eq_true] at hap
        simp only [boxesOf]
        exact rowF_no_box hap.2 h
      | _ => simp only [boxesOf]; exact rowF_no_box (ks := ks) (by simpa [blksOf] using hap) h
end
theorem encT_decT {C : Nat → Type} : ∀ (ts : List Ty) (xs : List (D C)) (v : Tup C ts), decT C ts xs = some v → encT C ts v = xs
  | [], [], _, _ => rfl
  | [], _ :: _, v, h => by cases (show (none : Option (Tup C [])) = some v from h)
  | [t], [], v, h => by cases (show (none : Option (Tup C [t])) = some v from h)
  | [t], [x], v, h => by
    have := D.as_some (show x.as t = some v from h)
    subst this
    rfl
  | [t], _ :: _ :: _, v, h => by cases (show (none : Option (Tup C [t])) = some v from h)
  | t :: u :: r, [], v, h => by cases (show (none : Option (Tup C (t :: u :: r))) = some v from h)
  | t :: u :: r, x :: xs, v, h => by
    have h' : (match x.as t, decT C (u :: r) xs with | some y, some ys => some ((y, ys) : t.den C × Tup C (u :: r)) | _, _ => none) = some v := h
    generalize hy : x.as t = y at h'
    generalize hys : decT C (u :: r) xs = ys at h'
    cases y with
    | none => cases h'
    | some y =>
      cases ys with
      | none => cases h'
      | some ys =>
        have := D.as_some hy
        subst this
        have hv : ((y, ys) : t.den C × Tup C (u :: r)) = v := Option.some.inj h'
        subst hv
        show D.mk t y :: encT C (u :: r) ys = _
        rw [encT_decT (u :: r) xs ys hys]
def sliceHd : Value → Option Addr × Nat
  | .slice a _ c => (a, c)
  | _ => (none, 0)
theorem find_nodup : ∀ {ms : List (Nat × Nat)} {k k' : Nat}, (ms.map Prod.fst).Nodup → (k, k') ∈ ms → (ms.find? fun y => y.1 == k).map Prod.snd = some k'
  | y :: ms, k, k', hnd, h => by
    simp only [List.map_cons, List.nodup_cons] at hnd
    cases h with
    | head => simp
    | tail _ h =>
      have hne : y.1 ≠ k := fun e => hnd.1 (e ▸ List.mem_map.2 ⟨_, h, rfl⟩)
      rw [List.find?_cons_of_neg (by simpa using hne)]
      exact find_nodup hnd.2 h
section
variable {E : Env} {gh : Gh} {σ : St U} {a : Act} {w : World} {o : Oper}
theorem canonD_sim (hU : ULaw U) {ks : List KT} (hok : ksOk ks = true) {β : Type} {K : List U.D → Option β} {r : β} (S0 : Sim U E gh σ a w) (h : canonD σ ks K = some r) :
    ∃ xs, K xs = some r ∧ ∃ gh', Sim U E gh' (build ks xs empty) a w := by
  obtain ⟨xs, hK, gh1, ρ, ms, S, _, hfs, _, hnd⟩ := canonD_facts hU ks S0 (D := []) ⟨fun _ => rfl, fun k => by simp⟩ h
  refine ⟨xs, hK, ?_⟩
  unfold ksOk at hok
  simp only [Bool.and_eq_true] at hok
  obtain ⟨⟨_, hap⟩, hall⟩ := hok
  let base : Nat → Nat := fun j => if (boxesOf ks).contains j then gh1.base j else (E.bx j).getD 0
  let hdr : Nat → Hdr := fun j => if (boxesOf ks).contains j then gh1.hdr j else fun _ => sliceHd (tmOf a j)
  let inv : Nat → Option Nat := fun k => (ms.find? fun y => y.1 == k).map Prod.snd
  have hT : ∀ k' b', (build ks xs empty).blk k' = some b' → Tgt U gh1 ρ w inv base hdr k' b' := by
    intro k' b' hb'
    rcases build_blk hfs empty k' b' hb' with h1 | ⟨kt, hkt, x, m, hf, hm, hb⟩
    · cases h1
    · cases hf with
      | rowNil h0 h =>
        rename_i n e
        cases hb
        have hnb := row_no_box hap hkt
        have hh : hdr k' = fun _ => (none, 0) := by
          simp only [hdr, hnb, Bool.false_eq_true, if_false, h, sliceHd]
        obtain ⟨sz, hsz⟩ := hasSize hU e
        exact .row (l := []) (tag := 0) (xs := []) rfl hh hsz .nil (World.ownsRow_nil ..) (fun c hc => by cases hc)
      | row h1 h2 h3 h4 h5 h6 h7 =>
        rename_i n k v m cap tag wn e l ad xs
        cases hb
        have hnb := row_no_box hap hkt
        have hh : hdr k' = fun _ => (ad, cap) := by
          simp only [hdr, hnb, Bool.false_eq_true, if_false, h2, sliceHd]
        exact .row rfl hh h3 h4 h5 (fun c hc => ⟨k, h6 c hc, find_nodup hnd (hm _ List.mem_cons_self)⟩)
      | rowF h1 h2 h3 h4 =>
        rename_i n c e l ad
        cases hb
        have hnb := rowF_no_box hap hkt
        have hh : hdr k' = fun _ => (ad, l.length) := by
          simp only [hdr, hnb, Bool.false_eq_true, if_false, h3, sliceHd]
        exact .frz rfl hh h4
      | box h1 h2 h3 h4 =>
        rename_i k b own
        cases hb
        have hyb := boxesOf_mem hkt
        exact .box (b := b) rfl h1 h2 h3 h4 (find_nodup hnd (hm _ List.mem_cons_self)) (by simp only [base, hyb, if_true]) (by simp only [hdr, hyb, if_true])
      | _ => cases hb
  obtain ⟨f1, f2, f3, f4⟩ := S.select (fun k' => (build ks xs empty).blk k') inv base hdr hT
  refine ⟨⟨base, hdr, selSt gh1.st (fun k' => (build ks xs empty).blk k') inv⟩, S.size, S.defers, fun n => ?_, f3, f4, f1, fun k b bn hk hb => ?_⟩
  · have hF : ∀ b, gh1.F b → (⟨base, hdr, selSt gh1.st (fun k' => (build ks xs empty).blk k') inv⟩ : Gh).F b ∧ w.heap[b]? = w.heap[b]? := fun b hb => ⟨f2 b hb, rfl⟩
    have hallm := List.all_eq_true.1 hall
    rcases build_slot hfs empty n with h1 | ⟨kt, hkt, x, m, v, hf, hav, hv⟩
    · rw [h1]
      exact .undef
    · rw [hv]
      cases hf with
      | slot h => cases hav; exact .d (h.mono hF)
      | vptr h1 h2 h3 h4 h5 =>
        cases hav
        have h1 : a.tmps.getD n Go.undef = _ := h1
        rw [h1]
        exact .vptr h2 (f2 _ h3) h4 (h5.mono hF)
      | box h1 h2 h3 h4 => cases hav
      | fn h =>
        cases hav
        have h : a.tmps.getD n Go.undef = _ := h
        rw [h]
        exact .fn
      | ptr h1 h2 h3 =>
        rename_i n k p t b ad
        cases hav
        have hbx : (boxesOf ks).contains k = true := hallm _ hkt
        obtain ⟨t', own, hbm⟩ := mem_boxesOf hbx
        obtain ⟨x', m', hf', hhas⟩ := build_has hfs hap empty _ hbm
        cases hf' with
        | box g1 g2 g3 g4 =>
          cases g1.symm.trans h1
          have h3 : a.tmps.getD n Go.undef = _ := h3
          rw [h3]
          refine .ptr ⟨_, hhas _ _ rfl, Nat.le_refl _, fun _ => ?_⟩
          exact PtrAt.congr (b := b) (by simp only [base, hbx, if_true]) (by simp only [hdr, hbx, if_true]) (by rw [g2]; rfl) rfl h2
      | rowNil h0 h =>
        rename_i n e
        cases hav
        have hnb := row_no_box hap hkt
        obtain ⟨x', m', hf', hhas⟩ := build_has hfs hap empty _ hkt
        have hh : hdr n [] = sliceHd (tmOf a n) := by simp only [hdr, hnb, Bool.false_eq_true, if_false]
        obtain ⟨sz, hsz⟩ := hasSize hU e
        cases hf' with
        | rowNil g0 g =>
          refine .row (by rw [show a.tmps.getD n Go.undef = _ from g]; rfl) ⟨_, hhas _ _ rfl, Nat.le_refl _, fun _ e2 l2 hg => ⟨sz, ?_⟩⟩
          cases hg
          refine ⟨hsz, ?_⟩
          show a.tmps.getD n Go.undef = .slice (hdr n []).1 _ (hdr n []).2
          rw [hh, g]
          exact g
        | row g1 g2 g3 g4 g5 g6 g7 => rw [g1] at h0; cases h0
      | row h1 h2 h3 h4 h5 h6 h7 =>
        rename_i n k v m cap tag wn e l ad xs
        cases hav
        have hnb := row_no_box hap hkt
        obtain ⟨x', m', hf', hhas⟩ := build_has hfs hap empty _ hkt
        have hh : hdr n [] = sliceHd (tmOf a n) := by simp only [hdr, hnb, Bool.false_eq_true, if_false]
        cases hf' with
        | rowNil g0 g => rw [g0] at h1; cases h1
        | row g1 g2 g3 g4 g5 g6 g7 =>
          refine .row (by rw [show a.tmps.getD n Go.undef = _ from g2]; rfl) ⟨_, hhas _ _ rfl, Nat.le_refl _, fun _ e2 l2 hg => ⟨m, ?_⟩⟩
          cases hg
          refine ⟨h3, ?_⟩
          show a.tmps.getD n Go.undef = .slice (hdr n []).1 _ (hdr n []).2
          rw [hh, g2]
          exact g2
      | rowF h1 h2 h3 h4 =>
        rename_i n c e l ad
        cases hav
        have hnb := rowF_no_box hap hkt
        obtain ⟨x', m', hf', hhas⟩ := build_has hfs hap empty _ hkt
        have hh : hdr n [] = sliceHd (tmOf a n) := by simp only [hdr, hnb, Bool.false_eq_true, if_false]
        cases hf' with
        | rowF g1 g2 g3 g4 =>
          have g9 := h3.symm.trans g3
          simp only [Value.slice.injEq] at g9
          obtain ⟨_, _, q3⟩ := g9
          obtain ⟨sz, hsz⟩ := hasSize hU e
          refine .row (by rw [show a.tmps.getD n Go.undef = _ from h3]; rfl) ⟨_, hhas _ _ rfl, Nat.le_refl _, fun _ e2 l2 hg => ⟨sz, ?_⟩⟩
          cases hg
          refine ⟨hsz, h1, by rw [← q3]; exact h2, ?_, ?_⟩
          · show a.tmps.getD n Go.undef = .slice (hdr n []).1 _ (hdr n []).2
            rw [hh, h3]
            exact h3
          · show (hdr n []).2 = _
            rw [hh, h3]
            exact q3
      | winNil h =>
        rename_i n m e
        cases hav
        have hmr := hallm _ hkt
        obtain ⟨kt2, hkt2, hmt⟩ := List.any_eq_true.1 hmr
        split at hmt
        case h_2 => cases hmt
        rename_i n' f
        simp only [Bool.and_eq_true, beq_iff_eq] at hmt
        obtain ⟨rfl, hfe⟩ := hmt
        obtain ⟨x', m', hf', hhas⟩ := build_has hfs hap empty _ hkt2
        have hb : ∃ b, (build ks xs empty).blk n' = some b ∧ 0 ≤ b.ver ∧ b.x.t = .sl f := by
          cases hf' with
          | rowNil g0 g => exact ⟨_, hhas _ _ rfl, Nat.zero_le _, rfl⟩
          | row g1 g2 g3 g4 g5 g6 g7 => exact ⟨_, hhas _ _ rfl, Nat.zero_le _, rfl⟩
        obtain ⟨b, hb, hv0, _⟩ := hb
        refine .row (by rw [show a.tmps.getD n Go.undef = _ from h]; rfl) ⟨b, hb, hv0, fun _ e2 l2 hg => ?_⟩
        obtain ⟨sz, hsz⟩ := hasSize hU e2
        refine ⟨sz, hsz, Int.le_refl _, Int.le_refl _, by simp, none, 0, h, Nat.le_refl _, Nat.zero_le _, fun h => by simp at h⟩
      | win h1 h2 h3 h4 h5 =>
        rename_i n m k v sz e b l oo cc
        cases hav
        have hmr := hallm _ hkt
        obtain ⟨kt2, hkt2, hmt⟩ := List.any_eq_true.1 hmr
        split at hmt
        case h_2 => cases hmt
        rename_i n' f
        simp only [Bool.and_eq_true, beq_iff_eq] at hmt
        obtain ⟨rfl, hfe⟩ := hmt
        have hfe := Ty.beq_eq hfe
        subst hfe
        have hnb := row_no_box hap hkt2
        obtain ⟨x', m', hf', hhas⟩ := build_has hfs hap empty _ hkt2
        have hh : hdr n' [] = sliceHd (tmOf a n') := by simp only [hdr, hnb, Bool.false_eq_true, if_false]
        cases hf' with
        | rowNil g0 g => rw [h1] at g0; cases g0
        | row g1 g2 g3 g4 g5 g6 g7 =>
          rw [h1] at g1
          cases g1
          obtain ⟨q1, q2⟩ := g7 rfl
          have q3 := (q2 b h2).symm.trans h3
          cases q3
          refine .row (RowVal.one h5) ⟨_, hhas _ _ rfl, Nat.le_refl _, fun _ e2 l2 hg => ⟨sz, ?_⟩⟩
          cases hg
          refine ⟨h4, ?_⟩
          show RowVal (hdr n' []) _ _ _ _
          rw [hh, g2]
          simp only [sliceHd]
          rw [← q1]
          exact h5
  · show base k = bn
    rcases build_blk hfs empty k b hb with h9 | ⟨kt, hkt, x, m, hf, hm, hbk⟩
    · cases h9
    · cases hf with
      | box g1 g2 g3 g4 =>
        cases hbk
        have hkb := boxesOf_mem hkt
        simp only [base, hkb, if_true]
        exact S.bases k _ bn hk g1
      | rowNil h0 h =>
        cases hbk
        have hkb := row_no_box hap hkt
        simp only [base, hkb, Bool.false_eq_true, if_false, hk, Option.getD_some]
      | row h1 h2 h3 h4 h5 h6 h7 =>
        cases hbk
        have hkb := row_no_box hap hkt
        simp only [base, hkb, Bool.false_eq_true, if_false, hk, Option.getD_some]
      | rowF h1 h2 h3 h4 =>
        cases hbk
        have hkb := rowF_no_box hap hkt
        simp only [base, hkb, Bool.false_eq_true, if_false, hk, Option.getD_some]
      | _ => cases hbk
theorem canon_sound (hU : ULaw U) {ks : List KT} {β : Type} {K : Vars U ks → Option β} {r : β} (S : Sim U E gh σ a w) (h : canonV σ ks K = some r) : ∃ v, K v = some r ∧ ∃ gh', Sim U E gh' (encS ks v) a w := by
  unfold canonV at h
  split at h
  case isFalse => cases h
  rename_i hok
  obtain ⟨xs, hK, gh', S'⟩ := canonD_sim hU hok S h
  split at hK
  case h_2 => cases hK
  rename_i v hv
  refine ⟨v, hK, gh', ?_⟩
  unfold encS
  rw [encT_decT _ _ _ hv]
  exact S'
end
end Go.Ev
end
section
namespace Go.Ev
variable {U : Univ} {P : Program}
mutual
theorem Rep.noSl {F F' : Nat → Prop} {w w' : World} (hU : ULaw U) : ∀ {x : U.D} {cs : List Value}, Rep U F w x cs → ∀ n : Nat, hasSl U n x.t = false → Rep U F' w' x cs
  | _, _, .int h, _, _ => .int h
  | _, _, .bool, _, _ => .bool
  | _, _, .str h, _, _ => .str h
  | _, _, .sl _ _ _ _, n, h => by cases n <;> simp [hasSl] at h
  | _, _, .arr (l := l) h1 h2, n, h => .arr (RepL.noSl hU h1 (n - 1) (fun d hd => by
      obtain ⟨y, _, rfl⟩ := List.mem_map.1 hd
      cases n with
      | zero => simp [hasSl] at h
      | succ n => exact h)) h2
  | _, _, .st (id := id) (x := x) h1, n, h => .st (RepL.noSl hU h1 (n - 1) (fun d hd => by
      cases n with
      | zero => simp [hasSl] at h
      | succ n =>
        simp only [hasSl] at h
        have : d.t ∈ U.tys id := by rw [← hU.tys id x]; exact List.mem_map.2 ⟨d, hd, rfl⟩
        have := List.any_eq_false.1 h _ this
        simpa using this))
theorem RepL.noSl {F F' : Nat → Prop} {w w' : World} (hU : ULaw U) : ∀ {xs : List U.D} {cs : List Value}, RepL U F w xs cs → ∀ n : Nat, (∀ d ∈ xs, hasSl U n d.t = false) → RepL U F' w' xs cs
  | _, _, .nil, _, _ => .nil
  | _, _, .cons h1 h2, n, h => .cons (Rep.noSl hU h1 n (h _ List.mem_cons_self)) (RepL.noSl hU h2 n (fun d hd => h d (List.mem_cons_of_mem _ hd)))
end
mutual
theorem RepO.noSl {F F' : Nat → Prop} {w : World} (hU : ULaw U) : ∀ {η : Hdr} {own dd : List (List Nat)} {x : U.D} {cs : List Value}, RepO U F w η own dd x cs → ∀ n : Nat, hasSl U n x.t = false → RepO U F' w η own dd x cs
  | _, _, _, _, _, .dead h1 h2 h3 h4, _, _ => .dead h1 h2 h3 h4
  | _, _, _, _, _, .leaf h1 h2 h3, n, h => .leaf h1 h2 (h3.noSl hU n h)
  | _, _, _, _, _, .frz _ _ _ _, n, h => by cases n <;> simp [hasSl] at h
  | _, _, _, _, _, .row _ _ _ _ _ _, n, h => by cases n <;> simp [hasSl] at h
  | _, _, _, _, _, .st (id := id) (x := x) h1, n, h => .st (RepOL.noSl hU h1 (n - 1) (fun d hd => by
      cases n with
      | zero => simp [hasSl] at h
      | succ n =>
        simp only [hasSl] at h
        have : d.t ∈ U.tys id := by rw [← hU.tys id x]; exact List.mem_map.2 ⟨d, hd, rfl⟩
        have := List.any_eq_false.1 h _ this
        simpa using this))
theorem RepOL.noSl {F F' : Nat → Prop} {w : World} (hU : ULaw U) : ∀ {η : Hdr} {own dd : List (List Nat)} {j : Nat} {xs : List U.D} {cs : List Value}, RepOL U F w η own dd j xs cs → ∀ n : Nat, (∀ d ∈ xs, hasSl U n d.t = false) → RepOL U F' w η own dd j xs cs
  | _, _, _, _, _, _, .nil, _, _ => .nil
  | _, _, _, _, _, _, .cons h1 h2, n, h => .cons (RepO.noSl hU h1 n (h _ List.mem_cons_self)) (RepOL.noSl hU h2 n (fun d hd => h d (List.mem_cons_of_mem _ hd)))
end
theorem RepO.noSlRow {F F' : Nat → Prop} {w : World} (hU : ULaw U) {η : Hdr} {e : Ty} {l : List (e.den U.car)} {cs : List Value} (h : hasSl U deep e = false) (hr : RepO U F w η [[]] [] ⟨.sl e, l⟩ cs) : RepO U F' w η [[]] [] ⟨.sl e, l⟩ cs := by
  cases hr with
  | dead h1 _ _ _ => cases h1
  | leaf h1 _ _ => cases h1
  | frz h1 _ _ _ => cases h1
  | row h1 h2 h3 h5 h6 h7 =>
    refine .row h1 h2 h3 (h5.noSl hU deep fun d hd => ?_) h6 h7
    obtain ⟨y, _, rfl⟩ := List.mem_map.1 hd
    exact h
open Classical in
noncomputable def mergeSt (w : World) (st0 st' : Nat → BSt) (S1 F1 : Nat → Prop) (A : Prop) (clab : Nat → Option Nat) (bn : Nat) : BSt :=
  if S1 bn ∨ w.heap.size ≤ bn then
    match st' bn with
    | .own c p => match clab c with
      | some k => .own k p
      | none => if bn < w.heap.size then st0 bn else .no
    | .frz => .frz
    | .no => if bn < w.heap.size then st0 bn else .no
  else if A ∧ F1 bn then .frz else st0 bn
noncomputable def mergeGh (w : World) (gh0 gh' : Gh) (S1 F1 : Nat → Prop) (A : Prop) (cinv clab : Nat → Option Nat) : Gh :=
  ⟨fun k => match cinv k with | some c => gh'.base c | none => gh0.base k, fun k => match cinv k with | some c => gh'.hdr c | none => gh0.hdr k, mergeSt w gh0.st gh'.st S1 F1 A clab⟩
section
variable {E E1 : Env} {gh0 gh' : Gh} {σ0 σ' : St U} {a a' : Act} {w w' : World}
structure Merges (U : Univ) (E E1 : Env) (gh0 gh' : Gh) (σ0 σ' : St U) (w w' : World) (A : Prop) (cinv clab : Nat → Option Nat) : Prop where
  hw : E1.w = w
  F : Frm E1 gh' w'
  lab : ∀ k c, cinv k = some c → clab c = some k
  S : ∀ bn, E1.S bn → bn < w.heap.size ∧ ∃ k p, gh0.st bn = .own k p ∧ (cinv k).isSome
  hA : A → ∀ bn, E1.F bn → ¬ E1.S bn ∧ bn < w.heap.size ∧ (gh0.F bn ∨ ∃ k p, gh0.st bn = .own k p ∧ (cinv k).isSome)
  F0 : ∀ bn, gh0.F bn → E1.F bn ∧ ¬ E1.S bn
  old : ∀ k b, cinv k = none → σ'.blk k = some b → σ0.blk k = some b
  keep : ∀ k b, cinv k = none → σ0.blk k = some b → σ'.blk k = some b
  turn : ∀ k c b, cinv k = some c → σ0.blk k = some b → ∃ b', σ'.blk k = some b' ∧ b'.x.t = b.x.t ∧ b'.mem = b.mem ∧ gh'.base c = gh0.base k ∧ b.ver < b'.ver
  bx : ∀ k c, cinv k = some c → σ0.blk k = none → E.bx k = none
  blk : ∀ k c b', cinv k = some c → σ'.blk k = some b' → RepBlk U gh' w' c b' ∧ ∀ bn p, Ow gh' c b' bn p → gh'.st bn = .own c p
  sl : ¬ A → ∀ k c b', cinv k = some c → σ'.blk k = some b' → hasSl U deep b'.x.t = false ∨ ∃ e l, b'.x = ⟨.sl e, l⟩ ∧ b'.own = [[]] ∧ b'.dead = [] ∧ hasSl U deep e = false
variable {A : Prop} {cinv clab : Nat → Option Nat}
theorem mergeSt_hit {bn : Nat} {st0 st' : Nat → BSt} {S1 F1 : Nat → Prop} {c k : Nat} {p : Option (List Nat)} (h : S1 bn ∨ w.heap.size ≤ bn) (h1 : st' bn = .own c p) (h2 : clab c = some k) : mergeSt w st0 st' S1 F1 A clab bn = .own k p := by
  unfold mergeSt
  rw [if_pos h, h1]
  simp only [h2]
theorem mergeSt_keep {bn : Nat} {st0 st' : Nat → BSt} {S1 F1 : Nat → Prop} (h : ¬ S1 bn) (hlt : bn < w.heap.size) (hA : A → ¬ F1 bn) : mergeSt w st0 st' S1 F1 A clab bn = st0 bn := by
  unfold mergeSt
  rw [if_neg (by intro e; rcases e with e | e; exact h e; omega), if_neg (fun e => hA e.1 e.2)]
theorem Merges.mono (M : Merges U E E1 gh0 gh' σ0 σ' w w' A cinv clab) (hA : A) : ∀ bn, gh'.F bn → (mergeGh w gh0 gh' E1.S E1.F A cinv clab).F bn := by
  intro bn h
  show mergeSt w gh0.st gh'.st E1.S E1.F A clab bn = .frz
  have h' : gh'.st bn = .frz := h
  unfold mergeSt
  split
  · rw [h']
  · rename_i hn
    rcases M.F.ffresh bn h with h1 | h1 | h1
    · rw [if_pos ⟨hA, h1⟩]
    · exact absurd (.inl h1) hn
    · rw [M.hw] at h1; exact absurd (.inr h1) hn
theorem Sim.merge (hU : ULaw U) (S0 : Sim U E gh0 σ0 a w) (M : Merges U E E1 gh0 gh' σ0 σ' w w' A cinv clab) (hsz : a'.tmps.size = a.tmps.size) (hdf : a'.defers = a.defers)
    (hslots : ∀ n, (σ'.slot n = σ0.slot n ∧ a'.tmps.getD n Go.undef = a.tmps.getD n Go.undef) ∨ RepAV U (mergeGh w gh0 gh' E1.S E1.F A cinv clab) σ' w' (σ'.slot n) (a'.tmps.getD n Go.undef)) :
    Sim U E (mergeGh w gh0 gh' E1.S E1.F A cinv clab) σ' a' w' := by
  have f := M.F
  have hbnd : ∀ bn, gh0.st bn ≠ .no → bn < w.heap.size := fun bn h => (S0.frm.bound bn).resolve_left h
  have hgrown : w.heap.size ≤ w'.heap.size := by have := f.grown; rw [M.hw] at this; exact this
  have hbase : ∀ k c, cinv k = some c → (mergeGh w gh0 gh' E1.S E1.F A cinv clab).base k = gh'.base c := fun k c h => by simp only [mergeGh, h]
  have hhdr : ∀ k c, cinv k = some c → (mergeGh w gh0 gh' E1.S E1.F A cinv clab).hdr k = gh'.hdr c := fun k c h => by simp only [mergeGh, h]
  have hfr : ∀ bn c p, gh'.st bn = .own c p → E1.S bn ∨ w.heap.size ≤ bn := fun bn c p h => by
    have := f.fresh bn c p h
    rw [M.hw] at this
    exact this
  refine S0.step (fun k => (cinv k).isSome = true) hsz hdf (fun bn hlt h => ?_) (fun bn => ?_) hgrown (by have := f.os; rw [M.hw] at this; exact this) (by have := f.tape; rw [M.hw] at this; exact this) (by have := f.output; rw [M.hw] at this; exact this) (fun k b hk hb => ?_) (fun k b' hk hb' => ?_) (fun k b hb => ?_) hslots (fun k b' hk _ hno => ?_)
  · have := f.kept bn (by rw [M.hw]; exact hlt) (fun hS => by
      obtain ⟨_, k, p, h1, h2⟩ := M.S bn hS
      exact h k p h1 h2)
    rw [M.hw] at this
    exact this
  · show mergeSt w gh0.st gh'.st E1.S E1.F A clab bn = _ ∨ _
    by_cases hlt : bn < w.heap.size
    · by_cases hS : E1.S bn
      · obtain ⟨_, k, p, h1, h2⟩ := M.S bn hS
        have h0 : mergeSt w gh0.st gh'.st E1.S E1.F A clab bn = gh0.st bn ∨ mergeSt w gh0.st gh'.st E1.S E1.F A clab bn ≠ .no := by
          unfold mergeSt
          rw [if_pos (.inl hS)]
          split
          · split
            · exact .inr (by simp)
            · rw [if_pos hlt]; exact .inl rfl
          · exact .inr (by simp)
          · rw [if_pos hlt]; exact .inl rfl
        rcases h0 with h0 | h0
        · exact .inl h0
        · exact .inr (.inl ⟨⟨k, p, h1, h2⟩, h0⟩)
      · by_cases hA : A ∧ E1.F bn
        · have hm : mergeSt w gh0.st gh'.st E1.S E1.F A clab bn = .frz := by
            unfold mergeSt
            rw [if_neg (by intro e; rcases e with e | e; exact hS e; omega), if_pos hA]
          rcases (M.hA hA.1 bn hA.2).2.2 with h1 | ⟨k, p, h1, h2⟩
          · exact .inl (hm.trans h1.symm)
          · exact .inr (.inl ⟨⟨k, p, h1, h2⟩, by rw [show (mergeGh w gh0 gh' E1.S E1.F A cinv clab).st bn = .frz from hm]; simp⟩)
        · exact .inl (mergeSt_keep hS hlt fun h1 h2 => hA ⟨h1, h2⟩)
    · have hno : gh0.st bn = .no := by
        rcases S0.frm.bound bn with h | h
        · exact h
        · exact absurd h hlt
      rcases f.bound bn with h | h
      · left
        unfold mergeSt
        rw [if_pos (.inr (Nat.le_of_not_lt hlt)), h, hno]
        simp [hlt]
      · exact .inr (.inr ⟨Nat.le_of_not_lt hlt, h⟩)
  · have hk : cinv k = none := by simpa using hk
    exact ⟨M.old k b hk hb, by simp only [mergeGh, hk], by simp only [mergeGh, hk]⟩
  · obtain ⟨c, hc⟩ := Option.isSome_iff_exists.1 hk
    obtain ⟨hr, ho⟩ := M.blk k c b' hc hb'
    refine ⟨?_, fun bn p hp => ?_⟩
    · have key : ∀ {cs : List Value}, RepO U gh'.F w' (gh'.hdr c) b'.own b'.dead b'.x cs → RepO U (mergeGh w gh0 gh' E1.S E1.F A cinv clab).F w' (gh'.hdr c) b'.own b'.dead b'.x cs := by
        intro cs h
        by_cases hA : A
        · exact h.mono (fun b hb => ⟨M.mono hA b hb, rfl⟩) fun _ _ _ _ _ => rfl
        · rcases M.sl hA k c b' hc hb' with h1 | ⟨e, l, h1, h2, h3, h4⟩
          · exact h.noSl hU deep h1
          · rw [h1, h2, h3] at h ⊢
            exact h.noSlRow hU h4
      cases hm : b'.mem with
      | true =>
        obtain ⟨cs, tag, e1, e2⟩ := (RepBlk.of_mem hm).1 hr
        exact (RepBlk.of_mem hm).2 ⟨cs, tag, by rw [hbase k c hc]; exact e1, by rw [hhdr k c hc]; exact key e2⟩
      | false =>
        obtain ⟨e0, v, e2⟩ := (RepBlk.of_not hm).1 hr
        exact (RepBlk.of_not hm).2 ⟨e0, v, by rw [hhdr k c hc]; exact key e2⟩
    · have hp' : Ow gh' c b' bn p := by
        cases p with
        | none => exact ⟨hp.1, (hbase k c hc).symm.trans hp.2⟩
        | some q =>
          obtain ⟨ad, cap, h1, h2, h3⟩ := hp
          exact ⟨ad, cap, h1, by rw [← hhdr k c hc]; exact h2, h3⟩
      have h1 := ho bn p hp'
      exact mergeSt_hit (hfr bn c p h1) h1 (M.lab k c hc)
  · cases hc : cinv k with
    | none => exact ⟨b, M.keep k b hc hb, LaterB.same b (by simp only [mergeGh, hc]) (by simp only [mergeGh, hc])⟩
    | some c =>
      obtain ⟨b', h1, h2, h3, h4, h5⟩ := M.turn k c b hc hb
      exact ⟨b', h1, h2, h3, by rw [hbase k c hc]; exact h4, .inr h5⟩
  · obtain ⟨c, hc⟩ := Option.isSome_iff_exists.1 hk
    exact M.bx k c hc hno
end
end Go.Ev
end
section
namespace Go.Ev
variable {U : Univ} {P : Program}
def Invokes (P : Program) (f : FuncId) (args : Array Value) (w : World) (R : Value → World → Prop) : Prop :=
  match (callFunc f args).run P w with
  | .ok (.value v) w' => R v w'
  | .ok (.enter g as) w' => Calls P g as w' fun
    | .returned v, w'' => R v w''
    | _, _ => False
  | _ => False
inductive Hand (U : Univ) (E : Env) (gh : Gh) (w : World) : Nat → List (Arg U) → List (List (List Nat)) → List Value → Prop
  | nil {i : Nat} : Hand U E gh w i [] [] []
  | d {i : Nat} {x : U.D} {v : Value} {as : List (Arg U)} {os : List (List (List Nat))} {vs : List Value} : RepV U gh.F w x v → Hand U E gh w (i + 1) as os vs → Hand U E gh w i (.d x :: as) os (v :: vs)
  | fn {i f : Nat} {as : List (Arg U)} {os : List (List (List Nat))} {vs : List Value} : Hand U E gh w (i + 1) as os vs → Hand U E gh w i (.fn f :: as) os (.func (.func f) #[] #[] :: vs)
  | box {i : Nat} {x : U.D} {o : List (List Nat)} {as : List (Arg U)} {os : List (List (List Nat))} {vs : List Value} : RepBlk U gh w i (newBlk x true o) → (∀ bn p, Ow gh i (newBlk x true o) bn p → gh.st bn = .own i p) →
      E.bx i = some (gh.base i) → Hand U E gh w (i + 1) as os vs → Hand U E gh w i (.box x :: as) (o :: os) (.pointer (some ⟨gh.base i, 0, none⟩) :: vs)
structure Enters (U : Univ) (E : Env) (gh : Gh) (xs : List (Arg U)) (os : List (List (List Nat))) (args : List Value) : Prop where
  hand : Hand U E gh E.w 0 xs os args
  frm : Frm E gh E.w
  FS : ∀ b, E.F b → ¬ E.S b
  Flt : ∀ b, E.F b → b < E.w.heap.size
  bx : ∀ k, E.bx k ≠ none → ∃ x, xs[k]? = some (.box x)
inductive BoxesOk (U : Univ) (E : Env) (gh : Gh) (w : World) : Nat → List (Arg U) → List U.D → List (List (List Nat)) → Prop
  | nil {i : Nat} : BoxesOk U E gh w i [] [] []
  | d {i : Nat} {x : U.D} {as : List (Arg U)} {xs : List U.D} {os : List (List (List Nat))} : BoxesOk U E gh w (i + 1) as xs os → BoxesOk U E gh w i (.d x :: as) xs os
  | fn {i f : Nat} {as : List (Arg U)} {xs : List U.D} {os : List (List (List Nat))} : BoxesOk U E gh w (i + 1) as xs os → BoxesOk U E gh w i (.fn f :: as) xs os
  | box {i : Nat} {x y : U.D} {o : List (List Nat)} {as : List (Arg U)} {xs : List U.D} {os : List (List (List Nat))} : RepBlk U gh w i (newBlk y true o) → (∀ bn p, Ow gh i (newBlk y true o) bn p → gh.st bn = .own i p) →
      E.bx i = some (gh.base i) → BoxesOk U E gh w (i + 1) as xs os → BoxesOk U E gh w i (.box x :: as) (y :: xs) (o :: os)
inductive RepRV (U : Univ) (gh : Gh) (w : World) (key : Nat) : RV U → Value → Prop
  | d {x : U.D} {v : Value} : RepV U gh.F w x v → RepRV U gh w key (.d x) v
  | nil : RepRV U gh w key .nil (.pointer none)
  | row {e : Ty} {l : List (e.den U.car)} : RepBlk U gh w key (newBlk ⟨.sl e, l⟩ false [[]]) → (∀ bn p, Ow gh key (newBlk (U := U) ⟨.sl e, l⟩ false [[]]) bn p → gh.st bn = .own key p) →
      RepRV U gh w key (.row ⟨.sl e, l⟩) (.slice (gh.hdr key []).1 l.length (gh.hdr key []).2)
  | new {x : U.D} {own : List (List Nat)} : RepBlk U gh w key (newBlk x true own) → (∀ bn p, Ow gh key (newBlk x true own) bn p → gh.st bn = .own key p) → RepRV U gh w key (.new x own) (.pointer (some ⟨gh.base key, 0, none⟩))
inductive RepRVs (U : Univ) (gh : Gh) (w : World) : Nat → List (RV U) → List Value → Prop
  | nil {k : Nat} : RepRVs U gh w k [] []
  | cons {k : Nat} {x : RV U} {v : Value} {xs : List (RV U)} {vs : List Value} : RepRV U gh w k x v → RepRVs U gh w (k + 1) xs vs → RepRVs U gh w k (x :: xs) (v :: vs)
def tupV : List Value → Value
  | [v] => v
  | vs => .tuple vs.toArray
def RetOk (U : Univ) (E : Env) (xs : List (Arg U)) (os : List (List (List Nat))) (R : Res U) (v : Value) (w' : World) : Prop :=
  ∃ gh' vs, Frm E gh' w' ∧ BoxesOk U E gh' w' 0 xs R.boxes os ∧ RepRVs U gh' w' xs.length R.vals vs ∧ v = tupV vs
def CallOk (P : Program) (U : Univ) (L : (Nat → Prop) → World → Prop) (f : FuncId) (xs : List (Arg U)) (os : List (List (List Nat))) (R : Res U) : Prop :=
  ∀ (E : Env) (gh : Gh) (args : List Value), Enters U E gh xs os args → L E.F E.w → Invokes P f args.toArray E.w fun v w' => RetOk U E xs os R v w'
structure COk (P : Program) (U : Univ) (L : (Nat → Prop) → World → Prop) (G : Ctx U) : Prop where
  call : ∀ f xs R, G.call f xs = some R → ∀ y, R.o = some y → CallOk P U L f xs R.owns (R.enc y)
  call2 : ∀ f xs R, G.call2 f xs = some R → (∀ y, R.o = some (.go y) → CallOk P U L f xs R.owns (R.enc y)) ∧ ∀ y, R.o = some (.ret y) → CallOk P U L f xs R.owns (R.enc2 y)
def LMono (L : (Nat → Prop) → World → Prop) : Prop := ∀ F F' w w', (∀ b, F b → F' b ∧ w'.heap[b]? = w.heap[b]?) → L F w → L F' w'
structure EOk (L : (Nat → Prop) → World → Prop) (E : Env) : Prop where
  FS : ∀ b, E.F b → ¬ E.S b
  Flt : ∀ b, E.F b → b < E.w.heap.size
  bx : ∀ k, 100000 ≤ k → E.bx k = none
  lay : L E.F E.w
section
variable {E : Env} {gh : Gh} {σ : St U} {a : Act} {w : World} {o : Oper}
inductive ArgsR (U : Univ) (E : Env) (gh : Gh) (σ : St U) (a : Act) (w : World) : List (Operand × TypeId) → List (Arg U) → List Lent → Prop
  | nil : ArgsR U E gh σ a w [] [] []
  | fn {x : Operand} {T : TypeId} {f : Nat} {r : List (Operand × TypeId)} {as : List (Arg U)} {ls : List Lent} : a.eval x = .func (.func f) #[] #[] → ArgsR U E gh σ a w r as ls → ArgsR U E gh σ a w ((x, T) :: r) (.fn f :: as) (.no :: ls)
  | box {x : Operand} {T : TypeId} {k : Nat} {b : Blk U} {r : List (Operand × TypeId)} {as : List (Arg U)} {ls : List Lent} : σ.blk k = some b → b.mem = true → b.dead = [] → a.eval x = .pointer (some ⟨gh.base k, 0, none⟩) →
      ArgsR U E gh σ a w r as ls → ArgsR U E gh σ a w ((x, T) :: r) (.box b.x :: as) (.box k :: ls)
  | row {x : Operand} {T : TypeId} {k v : Nat} {q : List Nat} {b : Blk U} {y : U.D} {r : List (Operand × TypeId)} {as : List (Arg U)} {ls : List Lent} : σ.blk k = some b →
      (∀ fs gh2, KeysApart fs → (∀ y ∈ fs, FrzOk σ y) → (k, b.frozen q) ∈ fs → Sim U E gh2 (σ.puts (frz fs)) a w → gh2.hdr = gh.hdr → RepV U gh2.F w y (a.eval x)) →
      ArgsR U E gh σ a w r as ls → ArgsR U E gh σ a w ((x, T) :: r) (.d y :: as) (.row k v q :: ls)
  | d {x : Operand} {T : TypeId} {y : U.D} {r : List (Operand × TypeId)} {as : List (Arg U)} {ls : List Lent} : RepV U gh.F w y (a.eval x) → ArgsR U E gh σ a w r as ls → ArgsR U E gh σ a w ((x, T) :: r) (.d y :: as) (.no :: ls)
theorem argsOf_some {α : Type} {G : Ctx U} (hU : ULaw U) (S : Sim U E gh σ a w) : ∀ (as : List (Operand × TypeId)) {K : List (Arg U) → List Lent → Rd U α} {r : α}, (argsOf G as K).run σ = some r →
    ∃ xs ls, (K xs ls).run σ = some r ∧ ArgsR U E gh σ a w as xs ls
  | [], K, r, h => ⟨[], [], h, .nil⟩
  | (x, T) :: as, K, r, h => by
    simp only [argsOf] at h
    replace h := bind_some' h
    obtain ⟨v, hv, h⟩ := h
    replace hv := opd_rep S hv
    split at h
    · rename_i f
      obtain ⟨xs, ls, h, hA⟩ := argsOf_some hU S as h
      generalize hev : a.eval x = vv at hv
      cases hv with
      | fn => exact ⟨_, _, h, .fn hev hA⟩
    · rename_i k vr t
      simp only [run_blk] at h
      cases hb : σ.blk k with
      | none => simp [hb] at h
      | some b =>
        simp only [hb] at h
        split at h
        case isFalse => simp at h
        rename_i hc
        simp only [Bool.and_eq_true, List.isEmpty_iff] at hc
        obtain ⟨xs, ls, h, hA⟩ := argsOf_some hU S as h
        generalize hev : a.eval x = vv at hv
        cases hv with
        | ptr hp =>
          obtain ⟨b', hb', _, hp⟩ := hp
          cases hb.symm.trans hb'
          obtain ⟨_, oo, hat, had⟩ := (hp (.inl rfl)).flat rfl
          obtain ⟨h0, _⟩ := hat.nil_inv
          subst h0
          subst had
          exact ⟨_, _, h, .box hb hc.1 hc.2 hev hA⟩
    · rename_i k ver q wn
      replace h := rowOf_some h
      obtain ⟨b, y0, hb, hdead, hver, hg, h⟩ := h
      split at h
      case h_2 => simp at h
      rename_i y hy
      obtain ⟨xs, ls, h, hA⟩ := argsOf_some hU S as h
      obtain ⟨e, l, l', rfl, rfl⟩ := win_sl hy
      cases hv with
      | row _ hr =>
        obtain ⟨b', hb', _, hr⟩ := hr
        cases hb.symm.trans hb'
        obtain ⟨n, hn, hr⟩ := hr hver e l hg
        refine ⟨_, _, h, .row (v := ver) hb (fun fs gh2 hk hf hin S2 hh => ?_) hA⟩
        have hb2 := blk_frz_yes fs σ (k, b.frozen q) hk hin
        have R := S2.rowRep hU hb2 (by show (b.own.filter _).contains q = false; rw [contains_filter, pre_self]; simp) (dead_no hdead) hg
        rw [hh] at R
        obtain ⟨cs, h1, h2⟩ := Rep.win hU R hn hr hy
        exact ⟨cs, h1, h2⟩
    · rename_i hn1 hn2 hn3
      split at h
      case h_2 => simp at h
      rename_i t hT
      obtain ⟨y, hyt, h, hR, _⟩ := plainOf_some hU S hv h
      obtain ⟨xs, ls, h, hA⟩ := argsOf_some hU S as h
      exact ⟨_, _, h, .d (hR fun k ver q wn e => hn3 k ver q wn e) hA⟩
def rowFs (σ : St U) : List Lent → List (Nat × Blk U)
  | [] => []
  | .row k _ q :: r => if r.any (Lent.isRow k) then rowFs σ r else
    match σ.blk k with
    | some b => (k, b.frozen q) :: rowFs σ r
    | none => rowFs σ r
  | _ :: r => rowFs σ r
theorem rowFs_key : ∀ {ls : List Lent} {y : Nat × Blk U}, y ∈ rowFs σ ls → ∃ v q, Lent.row y.1 v q ∈ ls
  | [], y, h => by simp [rowFs] at h
  | l :: ls, y, h => by
    have rest : y ∈ rowFs σ ls → ∃ v q, Lent.row y.1 v q ∈ l :: ls := fun h => by
      obtain ⟨v, q, h⟩ := rowFs_key h
      exact ⟨v, q, List.mem_cons_of_mem _ h⟩
    cases l with
    | row k v q =>
      simp only [rowFs] at h
      split at h
      · exact rest h
      · split at h
        · cases h with
          | head => exact ⟨v, q, List.mem_cons_self⟩
          | tail _ h => exact rest h
        · exact rest h
    | no => exact rest h
    | box k => exact rest h
theorem rowFs_apart : ∀ (ls : List Lent), KeysApart (rowFs σ ls)
  | [] => True.intro
  | l :: ls => by
    have ih := rowFs_apart ls
    cases l with
    | row k v q =>
      simp only [rowFs]
      split
      · exact ih
      · rename_i hany
        split
        · refine ⟨fun z hz e => ?_, ih⟩
          obtain ⟨v', q', hm⟩ := rowFs_key hz
          exact hany (List.any_eq_true.2 ⟨_, hm, by simpa [Lent.isRow] using e⟩)
        · exact ih
    | no => exact ih
    | box k => exact ih
theorem rowFs_ok : ∀ (ls : List Lent), ∀ y ∈ rowFs σ ls, FrzOk σ y
  | [], y, h => by simp [rowFs] at h
  | l :: ls, y, h => by
    have ih := rowFs_ok ls y
    cases l with
    | row k v q =>
      simp only [rowFs] at h
      split at h
      · exact ih h
      · split at h
        · rename_i b hb
          cases h with
          | head => exact ⟨b, q, hb, rfl⟩
          | tail _ h => exact ih h
        · exact ih h
    | no => exact ih h
    | box k => exact ih h
theorem rowFs_mem : ∀ {ls : List Lent} {k v : Nat} {q : List Nat} {b : Blk U}, rowsOk ls = true → Lent.row k v q ∈ ls → σ.blk k = some b → (k, b.frozen q) ∈ rowFs σ ls
  | l :: ls, k, v, q, b, hok, h, hb => by
    cases h with
    | head =>
      simp only [rowsOk, Bool.and_eq_true] at hok
      simp only [rowFs]
      split
      · rename_i hany
        obtain ⟨l', hl', he⟩ := List.any_eq_true.1 hany
        cases l' with
        | no => cases he
        | box _ => cases he
        | row j v' q' =>
        have he := (beq_iff_eq).1 he
        subst he
        have := List.all_eq_true.1 hok.1 _ hl'
        simp at this
        subst this
        exact rowFs_mem hok.2 hl' hb
      · rw [hb]
        exact List.mem_cons_self
    | tail _ h =>
      cases l with
      | row k' v' q' =>
        simp only [rowsOk, Bool.and_eq_true] at hok
        have ih := rowFs_mem hok.2 h hb
        simp only [rowFs]
        split
        · exact ih
        · split
          · exact List.mem_cons_of_mem _ ih
          · exact ih
      | no => exact rowFs_mem (ls := ls) hok h hb
      | box k' => exact rowFs_mem (ls := ls) hok h hb
theorem freeze_run : ∀ (ls : List Lent) {K : List (Upd U) → Out U} {r : List (Upd U)}, (freeze ls K).run σ = some r → (K (frz (rowFs σ ls))).run σ = some r
  | [], K, r, h => h
  | l :: ls, K, r, h => by
    cases l with
    | row k v q =>
      simp only [freeze] at h
      simp only [rowFs]
      split at h
      · rename_i hany
        rw [if_pos hany]
        exact freeze_run ls h
      · rename_i hany
        rw [if_neg hany]
        simp only [run_blk] at h
        cases hb : σ.blk k with
        | none => simp [hb] at h
        | some b =>
          simp only [hb] at h
          exact freeze_run ls h
    | no => exact freeze_run ls h
    | box k => exact freeze_run ls h
inductive GB (σ : St U) : Nat → List Lent → List U.D → List (List (List Nat)) → List (Nat × Nat × List (List Nat) × U.D) → Prop
  | nil {i : Nat} : GB σ i [] [] [] []
  | no {i : Nat} {ls : List Lent} {xs : List U.D} {os : List (List (List Nat))} {m : List (Nat × Nat × List (List Nat) × U.D)} : GB σ (i + 1) ls xs os m → GB σ i (.no :: ls) xs os m
  | row {i k v : Nat} {q : List Nat} {ls : List Lent} {xs : List U.D} {os : List (List (List Nat))} {m : List (Nat × Nat × List (List Nat) × U.D)} : GB σ (i + 1) ls xs os m → GB σ i (.row k v q :: ls) xs os m
  | box {i k : Nat} {b : Blk U} {x : U.D} {o : List (List Nat)} {ls : List Lent} {xs : List U.D} {os : List (List (List Nat))} {m : List (Nat × Nat × List (List Nat) × U.D)} : σ.blk k = some b → x.t = b.x.t → o.all b.own.contains = true →
      GB σ (i + 1) ls xs os m → GB σ i (.box k :: ls) (x :: xs) (o :: os) ((i, k, o, x) :: m)
def gbUpd (σ : St U) (m : List (Nat × Nat × List (List Nat) × U.D)) : List (Upd U) :=
  m.filterMap fun y => (σ.blk y.2.1).map fun b => .blk y.2.1 (some { b with x := y.2.2.2, own := y.2.2.1, ver := b.ver + 1 })
theorem giveBack_some : ∀ (i : Nat) (ls : List Lent) {xs : List U.D} {os : List (List (List Nat))} {K : List (Upd U) → Out U} {r : List (Upd U)}, (giveBack ls xs os K).run σ = some r →
    ∃ m, (K (gbUpd σ m)).run σ = some r ∧ GB σ i ls xs os m
  | i, [], [], [], K, r, h => ⟨[], h, .nil⟩
  | i, [], _ :: _, _, K, r, h => by simp [giveBack] at h
  | i, [], [], _ :: _, K, r, h => by simp [giveBack] at h
  | i, .no :: ls, xs, os, K, r, h => by
    simp only [giveBack] at h
    obtain ⟨m, h1, h2⟩ := giveBack_some (i + 1) ls h
    exact ⟨m, h1, .no h2⟩
  | i, .row k v q :: ls, xs, os, K, r, h => by
    simp only [giveBack] at h
    obtain ⟨m, h1, h2⟩ := giveBack_some (i + 1) ls h
    exact ⟨m, h1, .row h2⟩
  | i, .box k :: ls, [], os, K, r, h => by simp [giveBack] at h
  | i, .box k :: ls, _ :: _, [], K, r, h => by simp [giveBack] at h
  | i, .box k :: ls, x :: xs, o :: os, K, r, h => by
    simp only [giveBack, run_blk] at h
    cases hb : σ.blk k with
    | none => simp [hb] at h
    | some b =>
      simp only [hb] at h
      split at h
      case isFalse => simp at h
      rename_i hc
      simp only [Bool.and_eq_true] at hc
      obtain ⟨m, h1, h2⟩ := giveBack_some (i + 1) ls h
      refine ⟨(i, k, o, x) :: m, ?_, .box hb (Ty.beq_eq hc.1) hc.2 h2⟩
      simp only [gbUpd, List.filterMap_cons, hb, Option.map_some]
      exact h1
end
end Go.Ev
end
section
namespace Go.Ev
variable {U : Univ} {P : Program}
abbrev GBL (U : Univ) := List (Nat × Nat × List (List Nat) × U.D)
section
variable {E : Env} {gh : Gh} {σ : St U} {a : Act} {w : World} {o : Oper}
theorem GB.len : ∀ {i : Nat} {ls : List Lent} {xs : List U.D} {os : List (List (List Nat))} {m : GBL U}, GB σ i ls xs os m → ∀ y ∈ m, i ≤ y.1 ∧ y.1 < i + ls.length
  | _, _, _, _, _, .nil, y, hy => by cases hy
  | i, _ :: ls, _, _, _, .no h, y, hy => by have := GB.len h y hy; simp only [List.length_cons]; omega
  | i, _ :: ls, _, _, _, .row h, y, hy => by have := GB.len h y hy; simp only [List.length_cons]; omega
  | i, _ :: ls, _, _, _, .box _ _ _ h, y, hy => by
    simp only [List.length_cons]
    cases hy with
    | head => exact ⟨Nat.le_refl _, by omega⟩
    | tail _ hy => have := GB.len h y hy; omega
theorem GB.nodup1 : ∀ {i : Nat} {ls : List Lent} {xs : List U.D} {os : List (List (List Nat))} {m : GBL U}, GB σ i ls xs os m → (m.map (·.1)).Nodup
  | _, _, _, _, _, .nil => List.nodup_nil
  | _, _, _, _, _, .no h => GB.nodup1 h
  | _, _, _, _, _, .row h => GB.nodup1 h
  | i, _, _, _, _, .box _ _ _ h => by
    simp only [List.map_cons, List.nodup_cons]
    refine ⟨fun e => ?_, GB.nodup1 h⟩
    obtain ⟨y, hy, e⟩ := List.mem_map.1 e
    have := (GB.len h y hy).1
    omega
theorem GB.key : ∀ {i : Nat} {ls : List Lent} {xs : List U.D} {os : List (List (List Nat))} {m : GBL U}, GB σ i ls xs os m → ∀ y ∈ m, Lent.box y.2.1 ∈ ls ∧ ∃ b, σ.blk y.2.1 = some b ∧ y.2.2.2.t = b.x.t ∧ y.2.2.1.all b.own.contains = true
  | _, _, _, _, _, .nil, y, hy => by cases hy
  | _, _, _, _, _, .no h, y, hy => let ⟨h1, h2⟩ := GB.key h y hy; ⟨List.mem_cons_of_mem _ h1, h2⟩
  | _, _, _, _, _, .row h, y, hy => let ⟨h1, h2⟩ := GB.key h y hy; ⟨List.mem_cons_of_mem _ h1, h2⟩
  | _, _, _, _, _, .box hb ht ho h, y, hy => by
    cases hy with
    | head => exact ⟨List.mem_cons_self, _, hb, ht, ho⟩
    | tail _ hy =>
      obtain ⟨h1, h2⟩ := GB.key h y hy
      exact ⟨List.mem_cons_of_mem _ h1, h2⟩
theorem distinct_box : ∀ {ls : List Lent} {k : Nat}, distinct ls = true → Lent.box k ∈ ls → ∀ j v q, Lent.row j v q ∈ ls → j ≠ k
  | l :: ls, k, hd, h, j, v, q, hr => by
    cases h with
    | head =>
      simp only [distinct, Bool.and_eq_true] at hd
      cases hr with
      | tail _ hr =>
        have := List.all_eq_true.1 hd.1 _ hr
        simpa using this
    | tail _ h =>
      cases hr with
      | head =>
        simp only [distinct, Bool.and_eq_true] at hd
        have := List.all_eq_true.1 hd.1 _ h
        intro e
        subst e
        simp at this
      | tail _ hr =>
        refine distinct_box (ls := ls) ?_ h j v q hr
        cases l <;> simp only [distinct, Bool.and_eq_true] at hd <;> first | exact hd.2 | exact hd
theorem GB.nodup2 : ∀ {i : Nat} {ls : List Lent} {xs : List U.D} {os : List (List (List Nat))} {m : GBL U}, GB σ i ls xs os m → distinct ls = true → (m.map (·.2.1)).Nodup
  | _, _, _, _, _, .nil, _ => List.nodup_nil
  | _, _, _, _, _, .no h, hd => GB.nodup2 h (by simpa [distinct] using hd)
  | _, _, _, _, _, .row h, hd => GB.nodup2 h (by simp only [distinct, Bool.and_eq_true] at hd; exact hd.2)
  | i, _, _, _, _, .box (k := k) _ _ _ h, hd => by
    simp only [distinct, Bool.and_eq_true] at hd
    simp only [List.map_cons, List.nodup_cons]
    refine ⟨fun e => ?_, GB.nodup2 h hd.2⟩
    obtain ⟨y, hy, e⟩ := List.mem_map.1 e
    have := List.all_eq_true.1 hd.1 _ (GB.key h y hy).1
    simp [e] at this
theorem find_by {α β : Type} [BEq β] [LawfulBEq β] (f : α → β) : ∀ {m : List α} {y : α}, (m.map f).Nodup → y ∈ m → m.find? (fun z => f z == f y) = some y
  | z :: m, y, hnd, h => by
    simp only [List.map_cons, List.nodup_cons] at hnd
    cases h with
    | head => simp
    | tail _ h =>
      have hne : f z ≠ f y := fun e => hnd.1 (e ▸ List.mem_map.2 ⟨y, h, rfl⟩)
      rw [List.find?_cons_of_neg (by simpa using hne)]
      exact find_by f hnd.2 h
theorem find_of {α β : Type} [BEq β] [LawfulBEq β] (f : α → β) {m : List α} {y : α} {v : β} (h : m.find? (fun z => f z == v) = some y) : y ∈ m ∧ f y = v :=
  ⟨List.mem_of_find?_eq_some h, by have := List.find?_some h; simpa using this⟩
def gbT (σ : St U) (m : GBL U) (i : Nat) : Option (Blk U) := (m.find? fun y => y.1 == i).bind fun y => (σ.blk y.2.1).map fun b => newBlk b.x true y.2.2.1
def gbInv (m : GBL U) (k : Nat) : Option Nat := (m.find? fun y => y.2.1 == k).map (·.1)
def gbKey (m : GBL U) (i : Nat) : Option Nat := (m.find? fun y => y.1 == i).map (·.2.1)
theorem blk_upds_no : ∀ (us : List (Upd U)) (σ : St U) (k : Nat), (∀ j b, Upd.blk j b ∈ us → j ≠ k) → (σ.puts us).blk k = σ.blk k
  | [], _, _, _ => rfl
  | .slot n v :: us, σ, k, h => by
    show ((σ.put (.slot n v)).puts us).blk k = _
    rw [blk_upds_no us _ k fun j b hj => h j b (List.mem_cons_of_mem _ hj)]
    rfl
  | .blk j b :: us, σ, k, h => by
    show ((σ.put (.blk j b)).puts us).blk k = _
    rw [blk_upds_no us _ k fun j b hj => h j b (List.mem_cons_of_mem _ hj), St.blk_put_ne σ b (h j b List.mem_cons_self)]
theorem slot_upds_no : ∀ (us : List (Upd U)) (σ : St U) (n : Nat), (∀ j v, Upd.slot j v ∈ us → j ≠ n) → (σ.puts us).slot n = σ.slot n
  | [], _, _, _ => rfl
  | .blk j b :: us, σ, n, h => by
    show ((σ.put (.blk j b)).puts us).slot n = _
    rw [slot_upds_no us _ n fun j v hj => h j v (List.mem_cons_of_mem _ hj)]
    rfl
  | .slot j v :: us, σ, n, h => by
    show ((σ.put (.slot j v)).puts us).slot n = _
    rw [slot_upds_no us _ n fun j v hj => h j v (List.mem_cons_of_mem _ hj), St.slot_put_ne σ v (h j v List.mem_cons_self)]
theorem blk_upds_yes : ∀ (us : List (Upd U)) (σ : St U) (k : Nat) (b : Option (Blk U)), Upd.blk k b ∈ us → (∀ b', Upd.blk k b' ∈ us → b' = b) → (σ.puts us).blk k = b
  | u :: us, σ, k, b, h, hu => by
    show ((σ.put u).puts us).blk k = b
    by_cases hin : ∃ b', Upd.blk k b' ∈ us
    · obtain ⟨b', hb'⟩ := hin
      have := hu b' (List.mem_cons_of_mem _ hb')
      subst this
      exact blk_upds_yes us _ k b' hb' fun b2 h2 => hu b2 (List.mem_cons_of_mem _ h2)
    · rw [blk_upds_no us _ k fun j b' hj e => hin ⟨b', e ▸ hj⟩]
      cases h with
      | head => exact St.blk_put_same ..
      | tail _ h => exact absurd ⟨b, h⟩ hin
theorem call_enters (hU : ULaw U) (S : Sim U E gh σ a w) {as : List (Operand × TypeId)} {xs : List (Arg U)} {ls : List Lent} (hA : ArgsR U E gh σ a w as xs ls) (hd : distinct ls = true) (hr : rowsOk ls = true)
    {ys : List U.D} {os : List (List (List Nat))} {m : GBL U} (hm : GB σ 0 ls ys os m) :
    ∃ gh_f, Sim U E gh_f (σ.puts (frz (rowFs σ ls))) a w ∧ gh_f.base = gh.base ∧ gh_f.hdr = gh.hdr ∧ (∀ bn, gh.F bn → gh_f.F bn) ∧ (∀ bn k p, gh_f.st bn = .own k p → gh.st bn = .own k p) ∧
      ∃ (gh1 : Gh) (E1 : Env), E1.w = w ∧ E1.F = gh1.F ∧ (∀ bn, E1.S bn ↔ ∃ i p, gh1.st bn = .own i p) ∧ (∀ y ∈ m, E1.bx y.1 = some (gh.base y.2.1)) ∧ (∀ bn, gh_f.F bn → gh1.F bn) ∧
        gh1.st = selSt gh_f.st (gbT σ m) (gbInv m) ∧ Enters U E1 gh1 xs os (as.map fun p => a.eval p.1) := by
  have hk := rowFs_apart (σ := σ) ls
  have hf := rowFs_ok (σ := σ) ls
  obtain ⟨gh_f, S_f, e1, e2, e3, e4⟩ := S.freezes (rowFs σ ls) hk hf
  refine ⟨gh_f, S_f, e1, e2, e3, e4, ?_⟩
  have hnd1 := hm.nodup1
  have hnd2 := hm.nodup2 hd
  have hblk : ∀ y ∈ m, (σ.puts (frz (rowFs σ ls))).blk y.2.1 = σ.blk y.2.1 := fun y hy => blk_frz_no _ _ _ fun z hz e => by
    obtain ⟨v, q, hz⟩ := rowFs_key hz
    exact distinct_box hd (hm.key y hy).1 _ _ _ hz e
  let base : Nat → Nat := fun i => ((m.find? fun y => y.1 == i).map fun y => gh.base y.2.1).getD 0
  let hdr : Nat → Hdr := fun i => ((m.find? fun y => y.1 == i).map fun y => gh.hdr y.2.1).getD fun _ => (none, 0)
  have hmem : ∀ {as : List (Operand × TypeId)} {xs : List (Arg U)} {ls : List Lent} {i : Nat} {ys : List U.D} {os : List (List (List Nat))} {m : GBL U}, ArgsR U E gh σ a w as xs ls → GB σ i ls ys os m → ∀ y ∈ m, ∃ b, σ.blk y.2.1 = some b ∧ b.mem = true ∧ b.dead = [] ∧ ∃ j, y.1 = i + j ∧ ∃ x, xs[j]? = some (.box x) := by
    intro as xs ls i ys os m hA
    induction hA generalizing i ys os m with
    | nil => intro h y hy; cases h; cases hy
    | fn _ _ ih =>
      intro h y hy
      cases h with
      | no h =>
        obtain ⟨b, g1, g2, g3, j, g4, g5⟩ := ih h y hy
        exact ⟨b, g1, g2, g3, j + 1, by omega, by simpa using g5⟩
    | d _ _ ih =>
      intro h y hy
      cases h with
      | no h =>
        obtain ⟨b, g1, g2, g3, j, g4, g5⟩ := ih h y hy
        exact ⟨b, g1, g2, g3, j + 1, by omega, by simpa using g5⟩
    | row _ _ _ ih =>
      intro h y hy
      cases h with
      | row h =>
        obtain ⟨b, g1, g2, g3, j, g4, g5⟩ := ih h y hy
        exact ⟨b, g1, g2, g3, j + 1, by omega, by simpa using g5⟩
    | box q1 q2 q3 _ _ ih =>
      intro h y hy
      cases h with
      | box _ _ _ h =>
        cases hy with
        | head => exact ⟨_, q1, q2, q3, 0, rfl, _, rfl⟩
        | tail _ hy =>
          obtain ⟨b, g1, g2, g3, j, g4, g5⟩ := ih h y hy
          exact ⟨b, g1, g2, g3, j + 1, by omega, by simpa using g5⟩
  have hT : ∀ k' b', gbT σ m k' = some b' → Tgt U gh_f (σ.puts (frz (rowFs σ ls))) w (gbInv m) base hdr k' b' := by
    intro k' b' h
    unfold gbT at h
    simp only [Option.bind_eq_some_iff, Option.map_eq_some_iff] at h
    obtain ⟨y, hy, b, hb, rfl⟩ := h
    obtain ⟨hym, hyk⟩ := find_of (Prod.fst) hy
    obtain ⟨b', hb', h2, h3, _⟩ := hmem hA hm y hym
    cases hb.symm.trans hb'
    obtain ⟨_, b'', hb'', h4, h5⟩ := hm.key y hym
    cases hb.symm.trans hb''
    refine .box (k := y.2.1) (b := b) rfl ((hblk y hym).trans hb) h2 h3 h5 ?_ ?_ ?_
    · unfold gbInv
      rw [find_by (·.2.1) hnd2 hym]
      simp [hyk]
    · simp only [base, hy, Option.map_some, Option.getD_some, e1]
    · simp only [hdr, hy, Option.map_some, Option.getD_some, e2]
  obtain ⟨f1, f2, f3, f4⟩ := S_f.select (gbT σ m) (gbInv m) base hdr hT
  let gh1 : Gh := ⟨base, hdr, selSt gh_f.st (gbT σ m) (gbInv m)⟩
  let E1 : Env := ⟨w, gh1.F, fun bn => ∃ i p, gh1.st bn = .own i p, 0, fun i => (m.find? fun y => y.1 == i).map fun y => gh.base y.2.1⟩
  have hgT : ∀ y ∈ m, ∃ b, σ.blk y.2.1 = some b ∧ gbT σ m y.1 = some (newBlk b.x true y.2.2.1) := by
    intro y hy
    obtain ⟨_, b, hb, _⟩ := hm.key y hy
    refine ⟨b, hb, ?_⟩
    unfold gbT
    rw [find_by (·.1) hnd1 hy]
    simp [hb]
  refine ⟨gh1, E1, rfl, rfl, fun bn => Iff.rfl, fun y hy => ?_, f2, rfl, ?_, ?_, ?_, ?_, ?_⟩
  · show (m.find? fun z => z.1 == y.1).map _ = _
    rw [find_by (·.1) hnd1 hy]
    rfl
  ·
    show Hand U E1 gh1 w 0 xs os _
    have main : ∀ {as : List (Operand × TypeId)} {xs : List (Arg U)} {ls' : List Lent} {i : Nat} {ys : List U.D} {os : List (List (List Nat))} {m' : GBL U}, ArgsR U E gh σ a w as xs ls' → GB σ i ls' ys os m' → (∀ l ∈ ls', l ∈ ls) → (∀ y ∈ m', y ∈ m) →
        Hand U E1 gh1 w i xs os (as.map fun p => a.eval p.1) := by
      intro as xs ls' i ys os m' hA
      induction hA generalizing i ys os m' with
      | nil => intro h _ _; cases h; exact .nil
      | fn q1 _ ih =>
        intro h hl hmm
        cases h with
        | no h =>
          simp only [List.map_cons, q1]
          exact .fn (ih h (fun l hl' => hl l (List.mem_cons_of_mem _ hl')) hmm)
      | d q1 _ ih =>
        intro h hl hmm
        cases h with
        | no h =>
          simp only [List.map_cons]
          exact .d (q1.mono' fun b hb => f2 b (e3 b hb)) (ih h (fun l hl' => hl l (List.mem_cons_of_mem _ hl')) hmm)
      | row q1 q2 _ ih =>
        intro h hl hmm
        cases h with
        | row h =>
          simp only [List.map_cons]
          have hin := rowFs_mem hr (hl _ List.mem_cons_self) q1
          exact .d ((q2 _ gh_f hk hf hin S_f e2).mono' fun b hb => f2 b hb) (ih h (fun l hl' => hl l (List.mem_cons_of_mem _ hl')) hmm)
      | box q1 q2 q3 q4 _ ih =>
        intro h hl hmm
        cases h with
        | box g1 g2 g3 h =>
          cases q1.symm.trans g1
          obtain ⟨b', hb', hT'⟩ := hgT _ (hmm _ List.mem_cons_self)
          cases q1.symm.trans hb'
          have hb9 : ∀ kk oo xx, (i, kk, oo, xx) ∈ m → gh1.base i = gh.base kk ∧ E1.bx i = some (gh.base kk) := fun kk oo xx hh => by
            have hfd := find_by (·.1) hnd1 hh
            simp only at hfd
            constructor
            · show ((m.find? fun y => y.1 == i).map fun y => gh.base y.2.1).getD 0 = _
              rw [hfd]
              rfl
            · show (m.find? fun y => y.1 == i).map _ = _
              rw [hfd]
              rfl
          obtain ⟨hb0, hb1⟩ := hb9 _ _ _ (hmm _ List.mem_cons_self)
          simp only [List.map_cons, q4]
          rw [← hb0]
          refine .box (f3 _ _ hT') (f4 _ _ hT') ?_ (ih h (fun l hl' => hl l (List.mem_cons_of_mem _ hl')) (fun y hy => hmm y (List.mem_cons_of_mem _ hy)))
          rw [hb1, hb0]
    exact main hA hm (fun l h => h) (fun y h => h)
  · exact ⟨f1.bound, fun bn k p h => .inl ⟨k, p, h⟩, fun bn h => .inl h, fun bn h => h, Nat.le_refl _, fun _ _ _ => rfl, rfl, rfl, rfl⟩
  · rintro b hb ⟨i, p, h⟩
    have hb : gh1.st b = .frz := hb
    rw [hb] at h
    cases h
  · intro b hb
    have hb : gh1.st b = .frz := hb
    rcases f1.bound b with h | h
    · have h : gh1.st b = .no := h
      rw [hb] at h; cases h
    · exact h
  · intro k hk'
    have hk' : (m.find? fun y => y.1 == k).map (fun y => gh.base y.2.1) ≠ none := hk'
    cases hfd : m.find? fun y => y.1 == k with
    | none => rw [hfd] at hk'; exact absurd rfl hk'
    | some y =>
      obtain ⟨hym, hyk⟩ := find_of (Prod.fst) hfd
      obtain ⟨_, _, _, _, j, hj, x, hx⟩ := hmem hA hm y hym
      exact ⟨x, by rw [← hyk, hj, Nat.zero_add]; exact hx⟩
end
end Go.Ev
end
section
namespace Go.Ev
variable {U : Univ} {P : Program}
abbrev RL (U : Univ) := List (Nat × Nat × Blk U)
def cinvOf (m : GBL U) (rl : RL U) (k : Nat) : Option Nat :=
  match gbInv m k with
  | some i => some i
  | none => (rl.find? fun y => y.1 == k).map (·.2.1)
def clabOf (m : GBL U) (rl : RL U) (c : Nat) : Option Nat :=
  match gbKey m c with
  | some k => some k
  | none => (rl.find? fun y => y.2.1 == c).map (·.1)
def rlUpd (rl : RL U) : List (Upd U) := rl.map fun y => .blk y.1 (some y.2.2)
structure RlOk (U : Univ) (σ : St U) (gh' : Gh) (w' : World) (n0 : Nat) (A : Prop) (rl : RL U) : Prop where
  none : ∀ y ∈ rl, σ.blk y.1 = none
  big : ∀ y ∈ rl, 100000 ≤ y.1
  lo : ∀ y ∈ rl, n0 ≤ y.2.1
  nd1 : (rl.map (·.1)).Nodup
  nd2 : (rl.map (·.2.1)).Nodup
  blk : ∀ y ∈ rl, RepBlk U gh' w' y.2.1 y.2.2 ∧ ∀ bn p, Ow gh' y.2.1 y.2.2 bn p → gh'.st bn = .own y.2.1 p
  sl : ¬ A → ∀ y ∈ rl, hasSl U deep y.2.2.x.t = false ∨ ∃ e l, y.2.2.x = ⟨.sl e, l⟩ ∧ y.2.2.own = [[]] ∧ y.2.2.dead = [] ∧ hasSl U deep e = false
section
variable {E : Env} {gh : Gh} {σ : St U} {a : Act} {w : World} {o : Oper}
theorem boxes_at {E1 : Env} {gh' : Gh} {w' : World} : ∀ {i : Nat} {as : List (Operand × TypeId)} {xs : List (Arg U)} {ls : List Lent} {ys : List U.D} {os : List (List (List Nat))} {m : GBL U}, ArgsR U E gh σ a w as xs ls → GB σ i ls ys os m → BoxesOk U E1 gh' w' i xs ys os →
    ∀ y ∈ m, RepBlk U gh' w' y.1 (newBlk y.2.2.2 true y.2.2.1) ∧ (∀ bn p, Ow gh' y.1 (newBlk y.2.2.2 true y.2.2.1) bn p → gh'.st bn = .own y.1 p) ∧ E1.bx y.1 = some (gh'.base y.1) ∧ y.2.2.2 ∈ ys ∧ ∃ b, σ.blk y.2.1 = some b ∧ b.mem = true ∧ b.dead = [] := by
  intro i as xs ls ys os m hA
  induction hA generalizing i ys os m with
  | nil => intro h _ y hy; cases h; cases hy
  | fn _ _ ih =>
    intro h hB y hy
    cases h with
    | no h =>
      cases hB with
      | fn hB => exact ih h hB y hy
  | d _ _ ih =>
    intro h hB y hy
    cases h with
    | no h =>
      cases hB with
      | d hB => exact ih h hB y hy
  | row _ _ _ ih =>
    intro h hB y hy
    cases h with
    | row h =>
      cases hB with
      | d hB => exact ih h hB y hy
  | box q1 q2 q3 _ _ ih =>
    intro h hB y hy
    cases h with
    | box g1 g2 g3 h =>
      cases hB with
      | box k1 k2 k3 hB =>
        cases hy with
        | head => exact ⟨k1, k2, k3, List.mem_cons_self, _, q1, q2, q3⟩
        | tail _ hy =>
          obtain ⟨r1, r2, r3, r4, r5⟩ := ih h hB y hy
          exact ⟨r1, r2, r3, List.mem_cons_of_mem _ r4, r5⟩
theorem gbInv_some {m : GBL U} {k i : Nat} (h : gbInv m k = some i) : ∃ y ∈ m, y.2.1 = k ∧ y.1 = i := by
  unfold gbInv at h
  simp only [Option.map_eq_some_iff] at h
  obtain ⟨y, hy, rfl⟩ := h
  obtain ⟨h1, h2⟩ := find_of (fun z : Nat × Nat × List (List Nat) × U.D => z.2.1) hy
  exact ⟨y, h1, h2, rfl⟩
theorem gbUpd_mem {m : GBL U} {u : Upd U} (h : u ∈ gbUpd σ m) : ∃ y ∈ m, ∃ b, σ.blk y.2.1 = some b ∧ u = .blk y.2.1 (some { b with x := y.2.2.2, own := y.2.2.1, ver := b.ver + 1 }) := by
  unfold gbUpd at h
  simp only [List.mem_filterMap, Option.map_eq_some_iff] at h
  obtain ⟨y, hy, b, hb, rfl⟩ := h
  exact ⟨y, hy, b, hb, rfl⟩
theorem rlUpd_mem {rl : RL U} {u : Upd U} (h : u ∈ rlUpd rl) : ∃ y ∈ rl, u = .blk y.1 (some y.2.2) := by
  unfold rlUpd at h
  simp only [List.mem_map] at h
  obtain ⟨y, hy, rfl⟩ := h
  exact ⟨y, hy, rfl⟩
theorem call_merges {E1 : Env} {gh_f gh1 gh0 gh' : Gh} {σ0 : St U} {w' : World} {as : List (Operand × TypeId)} {xs : List (Arg U)} {ls : List Lent} {ys : List U.D} {os : List (List (List Nat))} {m : GBL U} {rl : RL U} {A : Prop}
    (hEbx : ∀ k, 100000 ≤ k → E.bx k = none) (S0 : Sim U E gh0 σ0 a w) (hA : ArgsR U E gh σ a w as xs ls) (hd : distinct ls = true) (hm : GB σ 0 ls ys os m)
    (hbase : gh0.base = gh.base) (hown : ∀ bn k p, gh_f.st bn = .own k p → gh0.st bn = .own k p) (hF1 : ∀ bn, gh0.F bn → gh_f.F bn) (hF2 : A → ∀ bn, gh_f.F bn → gh0.F bn) (hb0 : ∀ y ∈ m, σ0.blk y.2.1 = σ.blk y.2.1) (hno0 : ∀ k, σ.blk k = none → σ0.blk k = none)
    (h1w : E1.w = w) (h1F : E1.F = gh1.F) (h1S : ∀ bn, E1.S bn ↔ ∃ i p, gh1.st bn = .own i p) (h1bx : ∀ y ∈ m, E1.bx y.1 = some (gh.base y.2.1)) (hff : ∀ bn, gh_f.F bn → gh1.F bn) (hst1 : gh1.st = selSt gh_f.st (gbT σ m) (gbInv m)) (hb1 : ∀ bn, gh1.st bn = .no ∨ bn < w.heap.size)
    (hF : Frm E1 gh' w') (hB : BoxesOk U E1 gh' w' 0 xs ys os) (hR : RlOk U σ gh' w' ls.length A rl) (hsl : ¬ A → ∀ y ∈ ys, hasSl U deep y.t = false) {σ' : St U}
    (hσ' : ∀ k, σ'.blk k = (σ0.puts (gbUpd σ m ++ rlUpd rl)).blk k) : Merges U E E1 gh0 gh' σ0 σ' w w' A (cinvOf m rl) (clabOf m rl) := by
  have hnd1 := hm.nodup1
  have hnd2 := hm.nodup2 hd
  have hbx := boxes_at hA hm hB
  have hkey := hm.key
  have hcin : ∀ k c, cinvOf m rl k = some c → (∃ y ∈ m, y.2.1 = k ∧ y.1 = c ∧ gbInv m k = some c) ∨ (gbInv m k = none ∧ ∃ y ∈ rl, y.1 = k ∧ y.2.1 = c) := by
    intro k c h
    unfold cinvOf at h
    split at h
    · rename_i i hi
      cases h
      obtain ⟨y, h1, h2, h3⟩ := gbInv_some hi
      exact .inl ⟨y, h1, h2, h3, hi⟩
    · rename_i hi
      simp only [Option.map_eq_some_iff] at h
      obtain ⟨y, hy, rfl⟩ := h
      obtain ⟨h1, h2⟩ := find_of (fun z : Nat × Nat × Blk U => z.1) hy
      exact .inr ⟨hi, y, h1, h2, rfl⟩
  have hgb : ∀ y ∈ m, cinvOf m rl y.2.1 = some y.1 := by
    intro y hy
    unfold cinvOf gbInv
    rw [find_by (·.2.1) hnd2 hy]
    rfl
  have hrl : ∀ y ∈ rl, (cinvOf m rl y.1).isSome := by
    intro y hy
    unfold cinvOf
    split
    · rfl
    · rw [find_by (·.1) hR.nd1 hy]
      rfl
  have hupd : ∀ j b, Upd.blk j b ∈ gbUpd σ m ++ rlUpd rl → (cinvOf m rl j).isSome := by
    intro j b h
    rcases List.mem_append.1 h with h | h
    · obtain ⟨y, hy, b', _, h⟩ := gbUpd_mem h
      cases h
      rw [hgb y hy]
      rfl
    · obtain ⟨y, hy, h⟩ := rlUpd_mem h
      cases h
      exact hrl y hy
  have hblkm : ∀ y ∈ m, ∀ b, σ.blk y.2.1 = some b → σ'.blk y.2.1 = some { b with x := y.2.2.2, own := y.2.2.1, ver := b.ver + 1 } := by
    intro y hy b hb
    rw [hσ']
    refine blk_upds_yes _ _ _ _ (List.mem_append_left _ ?_) fun b' h => ?_
    · unfold gbUpd
      refine List.mem_filterMap.2 ⟨y, hy, ?_⟩
      rw [hb]
      rfl
    · rcases List.mem_append.1 h with h | h
      · obtain ⟨z, hz, b2, hb2, h⟩ := gbUpd_mem h
        injection h with h1 h2
        have hzy : z = y := by
          have e1 := find_by (·.2.1) hnd2 hz
          have e2 := find_by (·.2.1) hnd2 hy
          rw [← h1, e2] at e1
          exact (Option.some.inj e1).symm
        subst hzy
        cases hb.symm.trans hb2
        rw [h2]
      · obtain ⟨z, hz, h⟩ := rlUpd_mem h
        injection h with h1 h2
        have := hR.none z hz
        rw [← h1, hb] at this
        cases this
  have hblkr : ∀ y ∈ rl, σ'.blk y.1 = some y.2.2 := by
    intro y hy
    rw [hσ']
    refine blk_upds_yes _ _ _ _ (List.mem_append_right _ (List.mem_map.2 ⟨y, hy, rfl⟩)) fun b' h => ?_
    rcases List.mem_append.1 h with h | h
    · obtain ⟨z, hz, b2, hb2, h⟩ := gbUpd_mem h
      injection h with h1 h2
      have := hR.none y hy
      rw [h1, hb2] at this
      cases this
    · obtain ⟨z, hz, h⟩ := rlUpd_mem h
      injection h with h1 h2
      have hzy : z = y := by
        have e1 := find_by (·.1) hR.nd1 hz
        have e2 := find_by (·.1) hR.nd1 hy
        rw [← h1, e2] at e1
        exact (Option.some.inj e1).symm
      subst hzy
      exact h2
  have hnone : ∀ k, cinvOf m rl k = none → σ'.blk k = σ0.blk k := by
    intro k hk
    rw [hσ']
    refine blk_upds_no _ _ _ fun j b h e => ?_
    subst e
    have := hupd j b h
    rw [hk] at this
    cases this
  refine ⟨h1w, hF, fun k c h => ?_, fun bn h => ?_, fun hAA bn h => ?_, fun bn h => ?_, fun k b h hb => ?_, fun k b h hb => ?_, fun k c b h hb => ?_, fun k c h hb => ?_, fun k c b' h hb' => ?_, fun hnA k c b' h hb' => ?_⟩
  · rcases hcin k c h with ⟨y, hy, h1, h2, _⟩ | ⟨h0, y, hy, h1, h2⟩
    · subst h1 h2
      unfold clabOf gbKey
      rw [find_by (·.1) hnd1 hy]
      rfl
    · subst h1 h2
      have hg : gbKey m y.2.1 = none := by
        unfold gbKey
        rw [Option.map_eq_none_iff, List.find?_eq_none]
        intro z hz
        have h3 := (hm.len z hz).2
        have h4 := hR.lo y hy
        simp
        omega
      unfold clabOf
      rw [hg]
      show (rl.find? fun z => z.2.1 == y.2.1).map (·.1) = _
      rw [find_by (·.2.1) hR.nd2 hy]
      rfl
  · obtain ⟨i, p, h⟩ := (h1S bn).1 h
    refine ⟨(hb1 bn).resolve_left (by rw [h]; simp), ?_⟩
    rw [hst1] at h
    unfold selSt at h
    split at h
    · rename_i k q hq
      split at h
      · rename_i k' hk'
        refine ⟨k, q, hown bn k q hq, ?_⟩
        unfold cinvOf
        rw [hk']
        rfl
      · cases h
    · rename_i hq
      exact absurd h (hq i p)
  · rw [h1F] at h
    have h : gh1.st bn = .frz := h
    refine ⟨fun hS => ?_, (hb1 bn).resolve_left (by rw [h]; simp), ?_⟩
    · obtain ⟨i, p, h2⟩ := (h1S bn).1 hS
      rw [h] at h2
      cases h2
    · rw [hst1] at h
      unfold selSt at h
      split at h
      · rename_i k q hq
        split at h
        · rename_i k' hk'
          refine .inr ⟨k, q, hown bn k q hq, ?_⟩
          unfold cinvOf
          rw [hk']
          rfl
        · cases h
      · exact .inl (hF2 hAA bn h)
  · have h2 := hff bn (hF1 bn h)
    refine ⟨by rw [h1F]; exact h2, fun hS => ?_⟩
    obtain ⟨i, p, h3⟩ := (h1S bn).1 hS
    have h2 : gh1.st bn = .frz := h2
    rw [h2] at h3
    cases h3
  · rw [hnone k h] at hb
    exact hb
  · rw [hnone k h]
    exact hb
  · rcases hcin k c h with ⟨y, hy, h1, h2, _⟩ | ⟨_, y, hy, h1, h2⟩
    · subst h1 h2
      rw [hb0 y hy] at hb
      obtain ⟨_, b1, hb1', ht, _⟩ := hkey y hy
      cases hb.symm.trans hb1'
      refine ⟨_, hblkm y hy b hb, ht, rfl, ?_, Nat.lt_succ_self _⟩
      have h3 := (hbx y hy).2.2.1
      rw [h1bx y hy] at h3
      rw [hbase]
      exact (Option.some.inj h3).symm
    · subst h1
      rw [hno0 _ (hR.none y hy)] at hb
      cases hb
  · rcases hcin k c h with ⟨y, hy, h1, h2, _⟩ | ⟨_, y, hy, h1, h2⟩
    · subst h1
      rw [hb0 y hy] at hb
      obtain ⟨_, b1, hb1', _⟩ := hkey y hy
      rw [hb] at hb1'
      cases hb1'
    · subst h1
      exact hEbx _ (hR.big y hy)
  · rcases hcin k c h with ⟨y, hy, h1, h2, _⟩ | ⟨_, y, hy, h1, h2⟩
    · subst h1 h2
      obtain ⟨r1, r2, _, _, b1, hb1', hm1, hd1⟩ := hbx y hy
      have h3 := hblkm y hy b1 hb1'
      cases hb'.symm.trans h3
      refine ⟨?_, fun bn p hp => r2 bn p (by cases p with | none => exact ⟨rfl, hp.2⟩ | some q => exact hp)⟩
      obtain ⟨cs, tag, g1, g2⟩ := (RepBlk.of_mem (b := newBlk y.2.2.2 true y.2.2.1) rfl).1 r1
      refine (RepBlk.of_mem (by exact hm1)).2 ⟨cs, tag, g1, ?_⟩
      show RepO U gh'.F w' _ y.2.2.1 b1.dead _ cs
      rw [hd1]
      exact g2
    · subst h1 h2
      have h3 := hblkr y hy
      cases hb'.symm.trans h3
      exact hR.blk y hy
  · rcases hcin k c h with ⟨y, hy, h1, h2, _⟩ | ⟨_, y, hy, h1, h2⟩
    · subst h1 h2
      obtain ⟨_, _, _, r4, b1, hb1', _⟩ := hbx y hy
      have h3 := hblkm y hy b1 hb1'
      cases hb'.symm.trans h3
      exact .inl (hsl hnA _ r4)
    · subst h1 h2
      have h3 := hblkr y hy
      cases hb'.symm.trans h3
      exact hR.sl hnA y hy
end
end Go.Ev
end
section
namespace Go.Ev
variable {U : Univ} {P : Program}
def resL (n0 d : Nat) : Nat → List (RV U) → RL U
  | _, [] => []
  | j, .new x own :: r => (resKey d j, n0 + j, newBlk x true own) :: resL n0 d (j + 1) r
  | j, .row x :: r => (resKey d j, n0 + j, newBlk x false [[]]) :: resL n0 d (j + 1) r
  | j, .d _ :: r => resL n0 d (j + 1) r
  | j, .nil :: r => resL n0 d (j + 1) r
theorem resAV_upd (n0 d : Nat) : ∀ (vals : List (RV U)) (j : Nat), (resAV d j vals).2 = rlUpd (resL n0 d j vals)
  | [], _ => rfl
  | .new x own :: r, j => by
    have := resAV_upd n0 d r (j + 1)
    simp only [resAV, resL, rlUpd, List.map_cons, this]
  | .row x :: r, j => by
    have := resAV_upd n0 d r (j + 1)
    simp only [resAV, resL, rlUpd, List.map_cons, this]
  | .d x :: r, j => by
    have := resAV_upd n0 d r (j + 1)
    simp only [resAV, resL, this]
  | .nil :: r, j => by
    have := resAV_upd n0 d r (j + 1)
    simp only [resAV, resL, this]
theorem resL_key (n0 d : Nat) : ∀ {vals : List (RV U)} {j : Nat} {y : Nat × Nat × Blk U}, y ∈ resL n0 d j vals → ∃ i, j ≤ i ∧ y.1 = resKey d i ∧ y.2.1 = n0 + i
  | [], _, _, h => by simp [resL] at h
  | v :: r, j, y, h => by
    have rest : y ∈ resL n0 d (j + 1) r → ∃ i, j ≤ i ∧ y.1 = resKey d i ∧ y.2.1 = n0 + i := fun h => by
      obtain ⟨i, h1, h2⟩ := resL_key n0 d h
      exact ⟨i, by omega, h2⟩
    cases v with
    | new x own =>
      cases h with
      | head => exact ⟨j, Nat.le_refl _, rfl, rfl⟩
      | tail _ h => exact rest h
    | row x =>
      cases h with
      | head => exact ⟨j, Nat.le_refl _, rfl, rfl⟩
      | tail _ h => exact rest h
    | d x => exact rest h
    | nil => exact rest h
theorem resL_nodup (n0 d : Nat) : ∀ (vals : List (RV U)) (j : Nat), ((resL n0 d j vals).map (·.1)).Nodup ∧ ((resL n0 d j vals).map (·.2.1)).Nodup
  | [], _ => ⟨List.nodup_nil, List.nodup_nil⟩
  | v :: r, j => by
    have ih := resL_nodup n0 d r (j + 1)
    have hd : ∀ b : Blk U, (((resKey d j, n0 + j, b) :: resL n0 d (j + 1) r).map (·.1)).Nodup ∧ (((resKey d j, n0 + j, b) :: resL n0 d (j + 1) r).map (·.2.1)).Nodup := by
      intro b
      simp only [List.map_cons, List.nodup_cons]
      refine ⟨⟨fun e => ?_, ih.1⟩, ⟨fun e => ?_, ih.2⟩⟩
      · obtain ⟨y, hy, e⟩ := List.mem_map.1 e
        obtain ⟨i, h1, h2, _⟩ := resL_key n0 d hy
        rw [h2] at e
        unfold resKey at e
        omega
      · obtain ⟨y, hy, e⟩ := List.mem_map.1 e
        obtain ⟨i, h1, _, h2⟩ := resL_key n0 d hy
        rw [h2] at e
        omega
    cases v with
    | new x own => exact hd _
    | row x => exact hd _
    | d x => exact ih
    | nil => exact ih
theorem resL_blk {gh' : Gh} {w' : World} (n0 d : Nat) : ∀ {vals : List (RV U)} {j : Nat} {vs : List Value}, RepRVs U gh' w' (n0 + j) vals vs → ∀ y ∈ resL n0 d j vals, (RepBlk U gh' w' y.2.1 y.2.2 ∧ ∀ bn p, Ow gh' y.2.1 y.2.2 bn p → gh'.st bn = .own y.2.1 p) ∧
    ((∀ v ∈ vals, RV.slices v = false) → hasSl U deep y.2.2.x.t = false ∨ ∃ e l, y.2.2.x = ⟨.sl e, l⟩ ∧ y.2.2.own = [[]] ∧ y.2.2.dead = [] ∧ hasSl U deep e = false)
  | [], _, _, _, y, hy => by simp [resL] at hy
  | v :: r, j, _, .cons h hs, y, hy => by
    have rest : y ∈ resL n0 d (j + 1) r → (RepBlk U gh' w' y.2.1 y.2.2 ∧ ∀ bn p, Ow gh' y.2.1 y.2.2 bn p → gh'.st bn = .own y.2.1 p) ∧
        ((∀ u ∈ v :: r, RV.slices u = false) → hasSl U deep y.2.2.x.t = false ∨ ∃ e l, y.2.2.x = ⟨.sl e, l⟩ ∧ y.2.2.own = [[]] ∧ y.2.2.dead = [] ∧ hasSl U deep e = false) := fun hy => by
      obtain ⟨h1, h2⟩ := resL_blk n0 d (j := j + 1) (by rw [← Nat.add_assoc]; exact hs) y hy
      exact ⟨h1, fun hall => h2 fun u hu => hall u (List.mem_cons_of_mem _ hu)⟩
    cases h with
    | d h => exact rest hy
    | nil => exact rest hy
    | row h1 h2 =>
      rename_i e l
      cases hy with
      | head =>
        refine ⟨⟨h1, h2⟩, fun hall => .inr ⟨e, l, rfl, rfl, rfl, ?_⟩⟩
        exact hall _ List.mem_cons_self
      | tail _ hy => exact rest hy
    | new h1 h2 =>
      cases hy with
      | head => exact ⟨⟨h1, h2⟩, fun hall => .inl (hall _ List.mem_cons_self)⟩
      | tail _ hy => exact rest hy
theorem freshAll_some {α : Type} {σ : St U} : ∀ {us : List (Upd U)} {K : Rd U α} {r : α}, (freshAll us K).run σ = some r → K.run σ = some r ∧ ∀ k b, Upd.blk k b ∈ us → σ.blk k = none
  | [], K, r, h => ⟨h, fun k b hk => by cases hk⟩
  | .blk k b :: us, K, r, h => by
    simp only [freshAll] at h
    obtain ⟨h1, h2⟩ := fresh_some h
    obtain ⟨h3, h4⟩ := freshAll_some h2
    refine ⟨h3, fun j b' hj => ?_⟩
    cases hj with
    | head => exact h1
    | tail _ hj => exact h4 j b' hj
  | .slot n v :: us, K, r, h => by
    simp only [freshAll] at h
    obtain ⟨h3, h4⟩ := freshAll_some h
    refine ⟨h3, fun j b' hj => ?_⟩
    cases hj with
    | tail _ hj => exact h4 j b' hj
section
variable {E : Env} {gh : Gh} {σ : St U} {a : Act} {w : World} {o : Oper}
theorem resAV_rep (hU : ULaw U) {gh' gh2 : Gh} {σ' : St U} {w' : World} (n0 d : Nat) (A : Prop) (hF : A → ∀ b, gh'.F b → gh2.F b) : ∀ {vals : List (RV U)} {j : Nat} {vs : List Value}, RepRVs U gh' w' (n0 + j) vals vs → (¬ A → ∀ v ∈ vals, RV.slices v = false) →
    (∀ y ∈ resL n0 d j vals, σ'.blk y.1 = some y.2.2 ∧ gh2.base y.1 = gh'.base y.2.1 ∧ gh2.hdr y.1 = gh'.hdr y.2.1) → RepAVs U gh2 σ' w' (resAV d j vals).1 vs
  | [], _, _, .nil, _, _ => .nil
  | v :: r, j, _, .cons h hs, hsl, hb => by
    have rest : (∀ y ∈ resL n0 d (j + 1) r, σ'.blk y.1 = some y.2.2 ∧ gh2.base y.1 = gh'.base y.2.1 ∧ gh2.hdr y.1 = gh'.hdr y.2.1) → RepAVs U gh2 σ' w' (resAV d (j + 1) r).1 _ := fun hb =>
      resAV_rep hU n0 d A hF (j := j + 1) (by rw [← Nat.add_assoc]; exact hs) (fun hA u hu => hsl hA u (List.mem_cons_of_mem _ hu)) hb
    cases h with
    | d h =>
      refine .cons (.d ?_) (rest hb)
      by_cases hA : A
      · exact h.mono' (hF hA)
      · obtain ⟨cs, h1, h2⟩ := h
        exact ⟨cs, h1.noSl hU deep (hsl hA _ List.mem_cons_self), h2⟩
    | nil => exact .cons .nilp (rest hb)
    | row h1 h2 =>
      rename_i e l
      have h3 := hb _ List.mem_cons_self
      simp only at h3
      obtain ⟨sz, hsz⟩ := hasSize hU e
      refine .cons (.row rfl ⟨_, h3.1, Nat.le_refl _, fun _ e2 l2 hg => ⟨sz, ?_⟩⟩) (rest fun y hy => hb y (List.mem_cons_of_mem _ hy))
      cases hg
      refine ⟨hsz, ?_⟩
      show _ = Value.slice (gh2.hdr (resKey d j) []).1 _ (gh2.hdr (resKey d j) []).2
      rw [h3.2.2]
    | new h1 h2 =>
      have h3 := hb _ List.mem_cons_self
      simp only at h3
      refine .cons (.ptr ⟨_, h3.1, Nat.le_refl _, fun _ => ?_⟩) (rest fun y hy => hb y (List.mem_cons_of_mem _ hy))
      rw [← h3.2.1]
      exact .mem rfl .nil
theorem ArgsR.len : ∀ {as : List (Operand × TypeId)} {xs : List (Arg U)} {ls : List Lent}, ArgsR U E gh σ a w as xs ls → ls.length = xs.length
  | _, _, _, .nil => rfl
  | _, _, _, .fn _ h => by simp [ArgsR.len h]
  | _, _, _, .d _ h => by simp [ArgsR.len h]
  | _, _, _, .box _ _ _ _ h => by simp [ArgsR.len h]
  | _, _, _, .row _ _ h => by simp [ArgsR.len h]
theorem run_call_op {c : Call} {x : Operand} {f : FuncId} (ho : o.op = .call c) (hc : c.callee = .value x) (hx : a.eval x = .func (.func f) #[] #[]) :
    (execOp a.eval o).run P w = (callFunc f (c.args.map a.eval)).run P w := by
  unfold execOp
  rw [ho]
  simp only [Sem.run_bind, resolve, hc, hx, Deferred.ofValue, Sem.run_pure, Result.andThen_ok, invoke, Array.append_empty, Array.empty_append]
theorem opCall_fin {L : (Nat → Prop) → World → Prop} (hL : LMono L) (hU : ULaw U) (hE : EOk L E) (S : Sim U E gh σ a w) (hd : InN E o.dst) {c : Call} {x : Operand} {f : FuncId} (ho : o.op = .call c) (hc : c.callee = .value x) (hx : a.eval x = .func (.func f) #[] #[])
    {as : List (Operand × TypeId)} (has : as.map (·.1) = c.args.toList) {xs : List (Arg U)} {ls : List Lent} (hA : ArgsR U E gh σ a w as xs ls) (hdis : distinct ls = true) {R : Res U} {owns : List (List (List Nat))} (hC : CallOk P U L f xs owns R)
    {us : List (Upd U)} (h : (afterCall o.dst ls R owns : Out U).run σ = some us) : StepOk P U E o σ a w us := by
  unfold afterCall at h
  simp only at h
  split at h
  case isFalse => simp at h
  rename_i hrows
  let A : Prop := (R.vals.any RV.slices || R.boxes.any fun x => hasSl U deep x.t) = true
  have hnA : ¬ A → (∀ v ∈ R.vals, RV.slices v = false) ∧ ∀ y ∈ R.boxes, hasSl U deep y.t = false := by
    intro h
    have h : (R.vals.any RV.slices || R.boxes.any fun x => hasSl U deep x.t) = false := by simpa [A] using h
    simp only [Bool.or_eq_false_iff] at h
    refine ⟨fun v hv => by have := List.any_eq_false.1 h.1 v hv; simpa using this, fun y hy => by have := List.any_eq_false.1 h.2 y hy; simpa using this⟩
  have hus : ∃ m rl, GB σ 0 ls R.boxes owns m ∧ (∃ us1, us1 = (if A then frz (rowFs σ ls) else []) ∧ ((o.dst = none ∧ rl = [] ∧ us = us1 ++ gbUpd σ m) ∨ ∃ d, o.dst = some d ∧ rl = resL ls.length d 0 R.vals ∧ (∀ k b, Upd.blk k b ∈ rlUpd rl → σ.blk k = none) ∧
      us = us1 ++ gbUpd σ m ++ rlUpd rl ++ [.slot d (match (resAV d 0 R.vals).1 with | [v] => v | vs => .tup vs)])) := by
    have key : ∀ us1 : List (Upd U), (giveBack ls R.boxes owns fun us2 =>
        match o.dst with
        | none => .ret (us1 ++ us2)
        | some d => match resAV d 0 R.vals with
          | ([v], us3) => freshAll us3 (.ret (us1 ++ us2 ++ us3 ++ [.slot d v]))
          | (vs, us3) => freshAll us3 (.ret (us1 ++ us2 ++ us3 ++ [.slot d (.tup vs)])) : Out U).run σ = some us →
        ∃ m rl, GB σ 0 ls R.boxes owns m ∧ ((o.dst = none ∧ rl = [] ∧ us = us1 ++ gbUpd σ m) ∨ ∃ d, o.dst = some d ∧ rl = resL ls.length d 0 R.vals ∧ (∀ k b, Upd.blk k b ∈ rlUpd rl → σ.blk k = none) ∧
          us = us1 ++ gbUpd σ m ++ rlUpd rl ++ [.slot d (match (resAV d 0 R.vals).1 with | [v] => v | vs => .tup vs)]) := by
      intro us1 h
      obtain ⟨m, h, hm⟩ := giveBack_some 0 ls h
      cases hdst : o.dst with
      | none =>
        rw [hdst] at h
        simp only [run_ret, Option.some.injEq] at h
        exact ⟨m, [], hm, .inl ⟨rfl, rfl, h.symm⟩⟩
      | some d =>
        rw [hdst] at h
        simp only at h
        refine ⟨m, _, hm, .inr ⟨d, rfl, rfl, ?_⟩⟩
        have hru := resAV_upd ls.length d R.vals 0
        generalize hrv : resAV d 0 R.vals = rv at h hru ⊢
        obtain ⟨avs, us3⟩ := rv
        simp only at hru
        rw [← hru]
        split at h
        · rename_i v us3' heq
          cases heq
          obtain ⟨h1, h2⟩ := freshAll_some h
          simp only [run_ret, Option.some.injEq] at h1
          exact ⟨h2, h1.symm⟩
        · rename_i vs us3' hne heq
          cases heq
          obtain ⟨h1, h2⟩ := freshAll_some h
          simp only [run_ret, Option.some.injEq] at h1
          refine ⟨h2, ?_⟩
          rw [← h1]
          congr 2
          split
          · rename_i v heq
            simp only at heq
            subst heq
            exact (hne v rfl).elim
          · rfl
    split at h
    · rename_i hAA
      have h := freeze_run ls h
      obtain ⟨m, rl, h1, h2⟩ := key _ h
      exact ⟨m, rl, h1, _, by rw [if_pos hAA], h2⟩
    · rename_i hAA
      obtain ⟨m, rl, h1, h2⟩ := key _ h
      exact ⟨m, rl, h1, _, by rw [if_neg hAA], h2⟩
  clear h
  obtain ⟨m, rl, hm, us1, hus1, hus⟩ := hus
  obtain ⟨gh_f, S_f, e1, e2, e3, e4, gh1, E1, g1, g2, g3, g4, g5, g6, hEn⟩ := call_enters hU S hA hdis hrows hm
  have hlay1 : L gh.F w := hL E.F gh.F E.w w (fun b hb => ⟨S.frm.old b hb, S.frm.kept b (hE.Flt b hb) (hE.FS b hb)⟩) hE.lay
  have hlay : L E1.F E1.w := by
    rw [g1, g2]
    exact hL gh.F gh1.F w w (fun b hb => ⟨g5 b (e3 b hb), rfl⟩) hlay1
  have hcall := hC E1 gh1 _ hEn hlay
  rw [g1] at hcall
  have hargs : (as.map fun p => a.eval p.1).toArray = c.args.map a.eval := by
    have : (as.map fun p => a.eval p.1) = (as.map (·.1)).map a.eval := by rw [List.map_map]; rfl
    rw [this, has]
    apply Array.ext'
    simp
  rw [hargs] at hcall
  have hlen : ls.length = xs.length := hA.len
  have hb1 : ∀ bn, gh1.st bn = .no ∨ bn < w.heap.size := by
    have := hEn.frm.bound
    rw [g1] at this
    exact this
  have hkb : ∀ y ∈ m, (σ.puts (frz (rowFs σ ls))).blk y.2.1 = σ.blk y.2.1 := fun y hy => blk_frz_no _ _ _ fun z hz e => by
    obtain ⟨v, q, hz⟩ := rowFs_key hz
    exact distinct_box hdis (hm.key y hy).1 _ _ _ hz e
  have hrlOk : ∀ {gh' : Gh} {w' : World} {vs : List Value}, RepRVs U gh' w' xs.length R.vals vs → RlOk U σ gh' w' ls.length A rl := by
    intro gh' w' vs hv
    rcases hus with ⟨_, rfl, _⟩ | ⟨d, _, rfl, hfr, _⟩
    · exact ⟨fun y hy => (by cases hy), fun y hy => (by cases hy), fun y hy => (by cases hy), List.nodup_nil, List.nodup_nil, fun y hy => (by cases hy), fun _ y hy => (by cases hy)⟩
    · have hnd := resL_nodup ls.length d R.vals 0
      rw [← hlen] at hv
      have hb := resL_blk ls.length d (j := 0) hv
      refine ⟨fun y hy => hfr y.1 _ (List.mem_map.2 ⟨y, hy, rfl⟩), fun y hy => ?_, fun y hy => ?_, hnd.1, hnd.2, fun y hy => (hb y hy).1, fun hA y hy => (hb y hy).2 (hnA hA).1⟩
      · obtain ⟨i, _, h, _⟩ := resL_key _ _ hy
        rw [h]
        unfold resKey
        omega
      · obtain ⟨i, _, _, h⟩ := resL_key _ _ hy
        omega
  have fin : ∀ {v : Value} {w' : World}, RetOk U E1 xs owns R v w' → ∃ gh', Sim U E gh' (σ.puts us) (a.put o.dst v) w' := by
    intro v w' hret
    obtain ⟨gh', vs, hF', hBx, hRv, hv⟩ := hret
    have hR := hrlOk hRv
    obtain ⟨gh0, S0, hbase, hown, hF1, hF2, hb0, hno0, hslot0⟩ : ∃ gh0, Sim U E gh0 (σ.puts us1) a w ∧ gh0.base = gh.base ∧ (∀ bn k p, gh_f.st bn = .own k p → gh0.st bn = .own k p) ∧ (∀ bn, gh0.F bn → gh_f.F bn) ∧ (A → ∀ bn, gh_f.F bn → gh0.F bn) ∧
        (∀ y ∈ m, (σ.puts us1).blk y.2.1 = σ.blk y.2.1) ∧ (∀ k, σ.blk k = none → (σ.puts us1).blk k = none) ∧ ∀ n, (σ.puts us1).slot n = σ.slot n := by
      by_cases hAA : A
      · rw [hus1, if_pos hAA]
        refine ⟨gh_f, S_f, e1, fun _ _ _ h => h, fun _ h => h, fun _ _ h => h, hkb, fun k hk => ?_, fun n => slot_frz _ _ _⟩
        rw [blk_frz_no]
        · exact hk
        · intro y hy e
          obtain ⟨b, _, hb, _⟩ := rowFs_ok (σ := σ) ls y hy
          rw [e, hk] at hb
          cases hb
      · rw [hus1, if_neg hAA]
        exact ⟨gh, S, rfl, e4, e3, fun h => absurd h hAA, fun _ _ => rfl, fun _ h => h, fun _ => rfl⟩
    have hblk : ∀ k, (σ.puts us).blk k = ((σ.puts us1).puts (gbUpd σ m ++ rlUpd rl)).blk k := by
      intro k
      rcases hus with ⟨_, rfl, h⟩ | ⟨d, _, _, _, h⟩
      · rw [h, puts_append]
        simp only [rlUpd, List.map_nil, List.append_nil]
      · rw [h, puts_append, List.append_assoc, puts_append]
        rfl
    have M := call_merges (E := E) (A := A) hE.bx S0 hA hdis hm hbase hown hF1 hF2 hb0 hno0 g1 g2 g3 g4 g5 g6 hb1 hF' hBx hR (fun h => (hnA h).2) hblk
    refine ⟨_, S0.merge hU M (put_size ..) (put_defers ..) ?_⟩
    rcases hus with ⟨hdst, rfl, h⟩ | ⟨d, hdst, hrl, _, h⟩
    · intro n
      left
      rw [hdst]
      refine ⟨?_, rfl⟩
      rw [h, puts_append]
      refine slot_upds_no _ _ _ fun j v hj => ?_
      obtain ⟨_, _, _, _, hu⟩ := gbUpd_mem hj
      cases hu
    · rw [hdst]
      refine slots_put S0 (dst := some d) (x := match (resAV d 0 R.vals).1 with | [v] => v | vs => .tup vs) (by rw [← hdst]; exact hd) (fun n => ?_) fun _ => ?_
      · rw [h, puts_append]
        show ((σ.puts (us1 ++ gbUpd σ m ++ rlUpd rl)).put (.slot d _)).slot n = _
        rw [St.slot_put]
        simp only
        by_cases hdn : d = n
        · rw [if_pos hdn, if_pos hdn]
        · rw [if_neg hdn, if_neg hdn, List.append_assoc, puts_append]
          refine slot_upds_no _ _ _ fun j v hj => ?_
          rcases List.mem_append.1 hj with hj | hj
          · obtain ⟨_, _, _, _, hu⟩ := gbUpd_mem hj
            cases hu
          · obtain ⟨_, _, hu⟩ := rlUpd_mem hj
            cases hu
      · rw [← hlen] at hRv
        have hreps := resAV_rep (σ' := σ.puts us) hU ls.length d A (fun hA => M.mono hA) (j := 0) hRv (fun hA => (hnA hA).1) (fun y hy => by
          rw [← hrl] at hy
          have hc : cinvOf m rl y.1 = some y.2.1 := by
            unfold cinvOf
            have hgi : gbInv m y.1 = none := by
              cases hg : gbInv m y.1 with
              | none => rfl
              | some i =>
                obtain ⟨z, hz, h1, _⟩ := gbInv_some hg
                obtain ⟨_, b, hb, _⟩ := hm.key z hz
                rw [h1, hR.none y hy] at hb
                cases hb
            rw [hgi]
            simp only
            rw [find_by (·.1) hR.nd1 hy]
            rfl
          refine ⟨?_, by simp only [mergeGh, hc], by simp only [mergeGh, hc]⟩
          rw [hblk]
          refine blk_upds_yes _ _ _ _ (List.mem_append_right _ (List.mem_map.2 ⟨y, hy, rfl⟩)) fun b' hb' => ?_
          rcases List.mem_append.1 hb' with hb' | hb'
          · obtain ⟨z, hz, b2, hb2, hu⟩ := gbUpd_mem hb'
            injection hu with q1 q2
            rw [← q1, hR.none y hy] at hb2
            cases hb2
          · obtain ⟨z, hz, hu⟩ := rlUpd_mem hb'
            injection hu with q1 q2
            have hzy : z = y := by
              have r1 := find_by (·.1) hR.nd1 hz
              have r2 := find_by (·.1) hR.nd1 hy
              rw [← q1, r2] at r1
              exact (Option.some.inj r1).symm
            subst hzy
            exact q2)
        rw [hv]
        generalize (resAV d 0 R.vals).1 = avs at hreps ⊢
        cases hreps with
        | nil => exact .tup .nil
        | cons q1 q2 =>
          cases q2 with
          | nil => exact q1
          | cons q2 q3 => exact .tup (.cons q1 (.cons q2 q3))
  intro K Q hK
  unfold Oper.wp
  rw [run_call_op ho hc hx]
  unfold Invokes at hcall
  generalize (callFunc f (c.args.map a.eval)).run P w = rr at hcall ⊢
  cases rr with
  | halt x w' => exact hcall.elim
  | ok n w' =>
    cases n with
    | value v =>
      obtain ⟨gh', S'⟩ := fin hcall
      exact hK gh' _ _ S'
    | enter g args =>
      simp only [Oper.upon]
      refine Calls.mono hcall fun e w'' he => ?_
      cases e with
      | returned v =>
        obtain ⟨gh', S'⟩ := fin he
        exact hK gh' _ _ S'
      | panicked _ => exact he.elim
      | outgrown => exact he.elim
    | _ => exact hcall.elim
end
end Go.Ev
end
section
namespace Go.Ev
variable {U : Univ} {P : Program}
section
variable {E : Env} {gh : Gh} {σ : St U} {a : Act} {w : World} {o : Oper}
theorem opBin_rep {op : BinOp} {T : TypeId} {x y : AV U} {u v : Value} {ox oy : Operand} {av : AV U} {G : Ctx U} (hU : ULaw U) (hG : GOk P U G) (hx : RepAV U gh σ w x u) (hy : RepAV U gh σ w y v) (h : (opBin G op T x y : Rd U (AV U)).run σ = some av) :
    ∃ r, (eqGuard op T ox oy u v).run P w = .ok () w ∧ (binOp op T u v).run P w = .ok r w ∧ RepAV U gh σ w av r := by
  by_cases hst : ∃ x' y' : U.D, x = .d x' ∧ y = .d y' ∧ x'.t.isSt = true
  · obtain ⟨x', y', rfl, rfl, hs⟩ := hst
    obtain ⟨xt, x'⟩ := x'
    cases xt <;> simp [Ty.isSt] at hs
    rename_i id
    cases hx with
    | d hx =>
    cases hy with
    | d hy =>
    exact stBin_rep (ox := ox) (oy := oy) hU hG hx hy (by simpa only [opBin] using h) rfl
  · unfold opBin at h
    split at h
    · rename_i k n j m
      obtain ⟨rfl, hfx⟩ := hx.int_inv
      obtain ⟨rfl, hfy⟩ := hy.int_inv
      refine (fun ⟨r, h1, h2⟩ => ⟨r, eqGuard_plain (by simp) (by simp), h1, h2⟩ : (∃ r, (binOp op T _ _).run P w = .ok r w ∧ RepAV U gh σ w av r) → _) ?_
      split at h
      · simp only [run_chk] at h
        split at h
        case isFalse => cases h
        rename_i hm
        simp only [run_ret, Option.some.injEq] at h
        subst h
        refine ⟨_, ?_, rep_int (fit_wrap k _)⟩
        simp [binOp, Op.shift, Int.not_lt.2 hm]
      · simp only [run_chk] at h
        split at h
        case isFalse => cases h
        rename_i hm
        simp only [run_ret, Option.some.injEq] at h
        subst h
        refine ⟨_, ?_, rep_int (fit_fdiv hfx _)⟩
        simp [binOp, Op.shift, Int.not_lt.2 hm]
      · split at h
        case isFalse => simp at h
        rename_i hkj
        simp only [decide_eq_true_eq] at hkj
        subst hkj
        exact intBin_rep hfx h
    · rename_i p q
      have := hx.bool_inv
      subst this
      have := hy.bool_inv
      subst this
      obtain ⟨r, h1, h2⟩ := boolBin_rep (P := P) (gh := gh) (w := w) (x := p) (y := q) hG (by unfold opBin; exact h)
      exact ⟨r, eqGuard_plain (by simp) (by simp), h1, h2⟩
    · rename_i p q
      obtain ⟨rfl, _⟩ := hx.str_inv
      obtain ⟨rfl, _⟩ := hy.str_inv
      obtain ⟨r, h1, h2⟩ := strBin_rep (P := P) (gh := gh) (w := w) (x := p) (y := q) (G := G) (T := T) (by unfold opBin; exact h)
      exact ⟨r, eqGuard_plain (by simp) (by simp), h1, h2⟩
    · rename_i x' y' hn1 hn2 hn3
      exfalso
      unfold eqSt at h
      split at h
      · simp at h
      rename_i t hT
      split at h
      case isFalse => simp at h
      rename_i hc
      simp only [Bool.and_eq_true] at hc
      obtain ⟨⟨h1, h2⟩, h3⟩ := hc
      have h1 := Ty.beq_eq h1
      obtain ⟨xt, x'⟩ := x'
      obtain ⟨yt, y'⟩ := y'
      simp only at h1
      subst h1
      cases xt with
      | int k => exact hn1 k x' k y' rfl rfl
      | bool => exact hn2 x' y' rfl rfl
      | str => exact hn3 x' y' rfl rfl
      | sl e => simp [deep, eqTy] at h3
      | arr m e => simp [deep, eqTy] at h3
      | st id => exact hst ⟨_, _, rfl, rfl, rfl⟩
    · simp at h
theorem run_alt {α γ δ : Type} (o : Option (Fl γ δ)) (k : γ → Rd U α) (l : δ → Rd U α) : (Rd.alt o k l).run σ = o.bind fun x => x.elim (fun y => (k y).run σ) fun y => (l y).run σ := rfl
theorem opds_some {α : Type} (S : Sim U E gh σ a w) : ∀ (as : List Operand) {K : List (AV U) → Rd U α} {r : α}, (opds as K).run σ = some r → ∃ vs, (K vs).run σ = some r ∧ RepAVs U gh σ w vs (as.map a.eval)
  | [], K, r, h => ⟨[], h, .nil⟩
  | x :: as, K, r, h => by
    simp only [opds] at h
    replace h := bind_some' h
    obtain ⟨v, hv, h⟩ := h
    obtain ⟨vs, h, hvs⟩ := opds_some S as h
    exact ⟨v :: vs, h, .cons (opd_rep S hv) hvs⟩
theorem minmax_go (mx : Bool) {k : IntKind} : ∀ (vs : List (AV U)) (us : List Value) (n : Int) {av : AV U}, fitInt k n → RepAVs U gh σ w vs us → (opMinMax.go mx k n vs : Rd U (AV U)).run σ = some av →
    ∃ r, (us.foldlM (if mx then Builtin.max2 else Builtin.min2) (.int k n)).run P w = .ok r w ∧ RepAV U gh σ w av r
  | [], _, n, av, hf, .nil, h => by
    simp only [opMinMax.go, run_ret, Option.some.injEq] at h
    subst h
    exact ⟨.int k n, by simp, rep_int hf⟩
  | v :: vs, _, n, av, hf, .cons hv hvs, h => by
    unfold opMinMax.go at h
    split at h
    · rename_i heq; cases heq
    · rename_i j m r heq
      cases heq
      split at h
      case isFalse => simp at h
      rename_i hk
      simp only [decide_eq_true_eq] at hk
      subst hk
      obtain ⟨rfl, hm⟩ := hv.int_inv
      obtain ⟨r, h1, h2⟩ := minmax_go mx vs _ _ (by split <;> split <;> assumption) hvs h
      refine ⟨r, ?_, h2⟩
      rw [List.foldlM_cons]
      cases mx with
      | true => simpa [Builtin.max2] using h1
      | false => simpa [Builtin.min2] using h1
    · simp at h
theorem RepAVs.get : ∀ {vs : List (AV U)} {us : List Value} {j : Nat} {r : AV U}, RepAVs U gh σ w vs us → vs[j]? = some r → ∃ u, us[j]? = some u ∧ RepAV U gh σ w r u
  | [], _, _, _, _, h => by simp at h
  | v :: vs, _, 0, r, .cons h1 h2, h => by
    simp at h
    subst h
    exact ⟨_, rfl, h1⟩
  | v :: vs, _, j + 1, r, .cons h1 h2, h => by
    obtain ⟨u, h3, h4⟩ := RepAVs.get h2 (j := j) (r := r) (by simpa using h)
    exact ⟨u, by simpa using h3, h4⟩
theorem lenTy_some {G : Ctx U} {l : List TypeId} {v : AV U} (h : lenTy G l v = true) : ∃ T, l = [T] ∧ slOk U (G.ty T) v = true := by
  match l, h with
  | [T], h => exact ⟨T, rfl, h⟩
theorem opRun_step {L : (Nat → Prop) → World → Prop} (hL : LMono L) {G : Ctx U} (hU : ULaw U) (hG : GOk P U G) (hC : COk P U L G) (hE : EOk L E) (S : Sim U E gh σ a w) (hd : InN E o.dst) {us : List (Upd U)} (h : (opRun G o : Out U).run σ = some us) : StepOk P U E o σ a w us := by
  have val : ∀ {av : AV U} {r : Value}, (execOp a.eval o).run P w = .ok (.value r) w → RepAV U gh σ w av r → (Rd.ret (put o.dst av) : Out U).run σ = some us → StepOk P U E o σ a w us := by
    intro av r hx hr h
    simp only [run_ret, Option.some.injEq] at h
    subst h
    exact StepOk.value S hd hr hx
  unfold opRun at h
  split at h
  · rename_i x ho
    replace h := bind_some' h
    obtain ⟨v, hv, h⟩ := h
    exact val (by unfold execOp; rw [ho]; rfl) (opd_rep S hv) h
  · rename_i x ho
    replace h := bind_some' h
    obtain ⟨v, hv, h⟩ := h
    exact val (by unfold execOp; rw [ho]; rfl) (opd_rep S hv) h
  · rename_i c x y ho
    replace h := bind_some' h
    obtain ⟨vc, hvc, h⟩ := h
    replace h := boolOf_some h
    obtain ⟨bc, rfl, h⟩ := h
    replace h := bind_some' h
    obtain ⟨vx, hvx, h⟩ := h
    replace h := boolOf_some h
    obtain ⟨bx, rfl, h⟩ := h
    replace h := bind_some' h
    obtain ⟨vy, hvy, h⟩ := h
    replace h := boolOf_some h
    obtain ⟨by', rfl, h⟩ := h
    have hc := (opd_rep S hvc).bool_inv
    have hx := (opd_rep S hvx).bool_inv
    have hy := (opd_rep S hvy).bool_inv
    refine val (r := .bool (if bc = true then bx else by')) ?_ rep_bool h
    unfold execOp
    rw [ho]
    simp only [Sem.run_bind, hc, asBool, Sem.run_pure, Result.andThen_ok, hx, hy]
    cases bc <;> simp
  · rename_i T ho
    exact opAlloc_step hU hG S hd ho h
  · rename_i T x ho
    replace h := bind_some' h
    obtain ⟨v, hv, h⟩ := h
    exact opBox_step hU S hd ho (opd_rep S hv) h
  · rename_i T ps ho
    exact opBuild_step hU hG S hd ho h
  · rename_i T n ps ho
    exact opBuildSlice_step hU hG S hd ho h
  · rename_i T x ho
    replace h := bind_some' h
    obtain ⟨v, hv, h⟩ := h
    exact opLoad_step hU hG S hd ho (opd_rep S hv) h
  · rename_i T x y ho
    split at h
    · simp at h
    rename_i hdn
    replace h := bind_some' h
    obtain ⟨v, hv, h⟩ := h
    replace h := bind_some' h
    obtain ⟨u, hu, h⟩ := h
    exact opStore_step hU hG S (by simpa using hdn) ho (opd_rep S hv) (opd_rep S hu) h
  · rename_i x ho
    replace h := bind_some' h
    obtain ⟨v, hv, h⟩ := h
    replace hv := opd_rep S hv
    split at h
    · generalize hev : a.eval x = vv at hv
      cases hv with
      | ptr hp =>
        refine val (r := .pointer (some _)) ?_ (.ptr hp) h
        unfold execOp
        rw [ho]
        simp only [hev, Sem.run_pure]
    · generalize hev : a.eval x = vv at hv
      cases hv with
      | vptr h1 h2 h3 h4 =>
        refine val (r := .pointer (some _)) ?_ (.vptr h1 h2 h3 h4) h
        unfold execOp
        rw [ho]
        simp only [hev, Sem.run_pure]
    · simp at h
  · rename_i op T x y T2 ho
    replace h := bind_some' h
    obtain ⟨v, hv, h⟩ := h
    replace h := bind_some' h
    obtain ⟨u, hu, h⟩ := h
    replace h := bind_some' h
    obtain ⟨r, hr, h⟩ := h
    obtain ⟨rv, h1, h2, h3⟩ := opBin_rep (ox := x) (oy := y) hU hG (opd_rep S hv) (opd_rep S hu) hr
    refine val ?_ h3 h
    unfold execOp
    rw [ho]
    simp only [Sem.run_bind, h1, Result.andThen_ok, h2, Sem.run_pure]
  · rename_i op T x ho
    replace h := bind_some' h
    obtain ⟨v, hv, h⟩ := h
    replace h := bind_some' h
    obtain ⟨r, hr, h⟩ := h
    obtain ⟨rv, h1, h2⟩ := opUn_rep (P := P) (opd_rep S hv) hr
    refine val ?_ h2 h
    unfold execOp
    rw [ho]
    simp only [Sem.run_bind, h1, Result.andThen_ok, Sem.run_pure]
  · rename_i T0 T x ho
    replace h := bind_some' h
    obtain ⟨v, hv, h⟩ := h
    exact opConvert_step hU hG S hd ho (opd_rep S hv) h
  · rename_i f first captured ho
    split at h
    case isFalse => simp at h
    rename_i hc
    simp only [Bool.and_eq_true, Array.isEmpty_iff] at hc
    obtain ⟨rfl, rfl⟩ := hc
    refine val (r := .func (.func f) #[] #[]) ?_ .fn h
    unfold execOp
    rw [ho]
    simp [Instr.makeFunc]
  · rename_i T n c ho
    split at h
    case h_2 => simp at h
    rename_i EB hB
    replace h := bind_some' h
    obtain ⟨v, hv, h⟩ := h
    replace h := bind_some' h
    obtain ⟨u, hu, h⟩ := h
    exact opMake_step hU hG S hd ho hB (opd_rep S hv) (opd_rep S hu) h
  · rename_i T x lo hi ho
    replace h := bind_some' h
    obtain ⟨v, hv, h⟩ := h
    replace h := bind_some' h
    obtain ⟨l, hl, h⟩ := h
    replace h := bind_some' h
    obtain ⟨hh, hhh, h⟩ := h
    replace h := bind_some' h
    obtain ⟨r, hr, h⟩ := h
    have opt : ∀ {z : Option Operand} {u : Option (AV U)}, (match z with | some l => (opd l).bind fun v => .ret (some v) | none => .ret none : Rd U (Option (AV U))).run σ = some u → RepOpt U gh σ w u (z.map a.eval) := by
      intro z u h
      cases z with
      | none =>
        simp only [run_ret, Option.some.injEq] at h
        subst h
        exact .none
      | some z =>
        replace h := bind_some' h
        obtain ⟨v, hv, h⟩ := h
        simp only [run_ret, Option.some.injEq] at h
        subst h
        exact .some (opd_rep S hv)
    obtain ⟨rv, h1, h2⟩ := opSlice_rep (P := P) hU hG S (opd_rep S hv) (opt hl) (opt hhh) hr
    refine val ?_ h2 h
    unfold execOp
    rw [ho]
    simp only [Option.map_none, Sem.run_bind, h1, Result.andThen_ok, Sem.run_pure]
  · rename_i T x j ho
    replace h := bind_some' h
    obtain ⟨v, hv, h⟩ := h
    replace h := bind_some' h
    obtain ⟨r, hr, h⟩ := h
    obtain ⟨rv, h1, h2⟩ := opFieldAddr_rep (P := P) hU hG (opd_rep S hv) hr
    refine val ?_ h2 h
    unfold execOp
    rw [ho]
    simp only [Sem.run_bind, h1 w, Result.andThen_ok, Sem.run_pure]
  · rename_i T x j ho
    replace h := bind_some' h
    obtain ⟨v, hv, h⟩ := h
    replace h := bind_some' h
    obtain ⟨r, hr, h⟩ := h
    obtain ⟨rv, h1, h2⟩ := opField_rep (P := P) hU hG (opd_rep S hv) hr
    refine val ?_ h2 h
    unfold execOp
    rw [ho]
    simp only [Sem.run_bind, h1, Result.andThen_ok, Sem.run_pure]
  · rename_i T x i ho
    replace h := bind_some' h
    obtain ⟨v, hv, h⟩ := h
    replace h := bind_some' h
    obtain ⟨u, hu, h⟩ := h
    replace h := bind_some' h
    obtain ⟨r, hr, h⟩ := h
    obtain ⟨rv, h1, h2⟩ := opIndexAddr_rep (P := P) hU hG S (opd_rep S hv) (opd_rep S hu) hr
    refine val ?_ h2 h
    unfold execOp
    rw [ho]
    simp only [Sem.run_bind, h1 w, Result.andThen_ok, Sem.run_pure]
  · rename_i T x i ho
    replace h := bind_some' h
    obtain ⟨v, hv, h⟩ := h
    replace h := bind_some' h
    obtain ⟨u, hu, h⟩ := h
    replace h := bind_some' h
    obtain ⟨r, hr, h⟩ := h
    obtain ⟨rv, h1, h2⟩ := opIndex_rep (P := P) hU hG (opd_rep S hv) (opd_rep S hu) hr
    refine val ?_ h2 h
    unfold execOp
    rw [ho]
    simp only [Sem.run_bind, h1, Result.andThen_ok, Sem.run_pure]
  · rename_i x j ho
    replace h := bind_some' h
    obtain ⟨v, hv, h⟩ := h
    replace hv := opd_rep S hv
    split at h
    case h_2 => simp at h
    rename_i vs
    split at h
    case h_2 => simp at h
    rename_i r hr
    generalize hev : a.eval x = vv at hv
    cases hv with
    | tup hvs =>
      obtain ⟨u, hu, hr'⟩ := RepAVs.get hvs hr
      refine val (r := u) ?_ hr' h
      unfold execOp
      rw [ho]
      simp [hev, Instr.extract, hu]
  · rename_i c ho
    unfold opCallB at h
    split at h
    · rename_i x hc
      replace h := bind_some' h
      obtain ⟨v, hv, h⟩ := h
      replace hv := opd_rep S hv
      split at h
      case h_2 => simp at h
      rename_i f
      split at h
      case isFalse => simp at h
      rename_i hsz
      have hsz := (beq_iff_eq).1 hsz
      generalize hev : a.eval x = vv at hv
      cases hv with
      | fn =>
        unfold opCall at h
        replace h := argsOf_some hU S _ h
        obtain ⟨xs, ls, h, hA⟩ := h
        have has : (c.args.toList.zip c.argTypes.toList).map (·.1) = c.args.toList := by
          rw [show (fun x : Operand × TypeId => x.1) = Prod.fst from rfl, List.map_fst_zip]
          simp [hsz]
        split at h
        · simp at h
        rename_i hdis
        have hdis : distinct ls = true := by simpa using hdis
        split at h
        · rename_i R hR
          simp only [run_opt, Option.bind_eq_some_iff] at h
          obtain ⟨y, hy, h⟩ := h
          exact opCall_fin hL hU hE S hd ho hc hev has hA hdis (hC.call f xs R hR y hy) h
        · split at h
          · rename_i R hR
            obtain ⟨c1, c2⟩ := hC.call2 f xs R hR
            simp only [run_alt, Option.bind_eq_some_iff] at h
            obtain ⟨y, hy, h⟩ := h
            cases y with
            | go y => exact opCall_fin hL hU hE S hd ho hc hev has hA hdis (c1 y hy) h
            | ret y => exact opCall_fin hL hU hE S hd ho hc hev has hA hdis (c2 y hy) h
          · simp at h
    · rename_i hc
      replace h := opds_some S _ h
      obtain ⟨vs, h, hvs⟩ := h
      split at h
      case h_2 => simp at h
      rename_i v
      split at h
      · simp at h
      rename_i hok
      have hok : lenTy G c.argTypes.toList v = true := by simpa using hok
      obtain ⟨T, hT, hok⟩ := lenTy_some hok
      generalize hargs : c.args.toList.map a.eval = us0 at hvs
      cases hvs with
      | cons hv hnil =>
        rename_i u us1
        cases hnil
        replace h := lenOf_some hU S hv h
        obtain ⟨n, h, hn⟩ := h
        have hargs' : c.args.map a.eval = #[u] := by
          apply Array.ext'
          simpa using hargs
        have hTs : c.argTypes = #[T] := by
          apply Array.ext'
          simpa using hT
        have hfit : (n : Int) ≤ maxLen → fitInt .i64 (n : Int) := fun h => by
          unfold maxLen at h
          constructor
          · simp only [IntKind.min, IntKind.signed, IntKind.bits]; omega
          · simp only [IntKind.max, IntKind.signed, IntKind.bits]; omega
        have ex : (Builtin.len_ #[T] o.type #[u]).run P w = .ok (.int .i64 n) w → (execOp a.eval o).run P w = .ok (.value (.int .i64 n)) w := fun h => by
          unfold execOp
          rw [ho]
          simp only [Sem.run_bind, resolve, hc, Sem.run_pure, Result.andThen_ok, invoke, builtin, hargs', hTs, h]
        rcases hn with ⟨ad, cp, rfl, h1, h2⟩ | ⟨s, rfl, rfl, hs⟩
        · obtain ⟨e, he⟩ := slOk_sl hv hok rfl
          obtain ⟨EE, hu, _⟩ := (hG.ty T _ he).2
          refine val (ex ?_) (rep_int (hfit (by have := Nat.le_trans h1 h2; exact_mod_cast this))) h
          simp [Builtin.len_, run_underlying' hu, goInt]
        · have he := slOk_str hok
          have hu := (hG.ty T _ he).2
          obtain ⟨_, hsz⟩ := hv.str_inv
          rw [hs] at hsz
          refine val (ex ?_) (rep_int (hfit (by exact_mod_cast hsz))) h
          have hu : P.underlying T = some .string := hu
          simp [Builtin.len_, run_underlying' hu, goInt, hs]
    · rename_i hc
      replace h := opds_some S _ h
      obtain ⟨vs, h, hvs⟩ := h
      split at h
      case h_2 => simp at h
      rename_i k v q n
      split at h
      · simp at h
      rename_i hok
      have hok : lenTy G c.argTypes.toList (.row k v q (.full n)) = true := by simpa using hok
      obtain ⟨T, hT, hok⟩ := lenTy_some hok
      generalize hargs : c.args.toList.map a.eval = us0 at hvs
      cases hvs with
      | cons hv hnil =>
        rename_i u us1
        cases hnil
        obtain ⟨b, e, l, hb, hver, hdead, hg, h, r0, r1, r2, r3, _⟩ := fullOf_some S hv h
        obtain ⟨q1, q2, _⟩ := S.rowAt hU hb (dead_no hdead) hg
        have hargs' : c.args.map a.eval = #[u] := by
          apply Array.ext'
          simpa using hargs
        have hTs : c.argTypes = #[T] := by
          apply Array.ext'
          simpa using hT
        obtain ⟨e', he⟩ := slOk_sl hv hok r2
        obtain ⟨EE, hu, _⟩ := (hG.ty T _ he).2
        have hm : l.length ≤ maxLen := by omega
        have hfit : fitInt .i64 (l.length : Int) := by
          unfold maxLen at hm
          constructor
          · simp only [IntKind.min, IntKind.signed, IntKind.bits]; omega
          · simp only [IntKind.max, IntKind.signed, IntKind.bits]; omega
        have ex : (Builtin.cap_ #[T] o.type #[u]).run P w = .ok (.int .i64 l.length) w → (execOp a.eval o).run P w = .ok (.value (.int .i64 l.length)) w := fun h => by
          unfold execOp
          rw [ho]
          simp only [Sem.run_bind, resolve, hc, Sem.run_pure, Result.andThen_ok, invoke, builtin, hargs', hTs, h]
        refine val (ex ?_) (rep_int hfit) h
        rw [r2, r3]
        simp [Builtin.cap_, run_underlying' hu, goInt]
    · rename_i hc
      split at h
      case h_2 => simp at h
      rename_i s x T T' hargs htys
      split at h
      case h_2 => simp at h
      rename_i t EB hT hB
      replace h := bind_some' h
      obtain ⟨sv, hs, h⟩ := h
      replace h := bind_some' h
      obtain ⟨xv, hx, h⟩ := h
      have hargs' : c.args = #[s, x] := by apply Array.ext'; simpa using hargs
      have htys' : c.argTypes = #[T, T'] := by apply Array.ext'; simpa using htys
      split at h
      · rename_i hT'
        exact opAppend_step hU hG S hd ho hc hargs' htys' hT hB (isStr := true) hT' (opd_rep S hs) (opd_rep S hx) h
      · rename_i e hT'
        exact opAppend_step hU hG S hd ho hc hargs' htys' hT hB (isStr := false) ⟨e, hT'⟩ (opd_rep S hs) (opd_rep S hx) h
      · simp at h
    · rename_i hc
      replace h := opds_some S _ h
      obtain ⟨vs, h, hvs⟩ := h
      replace h := bind_some' h
      obtain ⟨r, hr, h⟩ := h
      unfold opMinMax at hr
      split at hr
      case h_2 => simp at hr
      rename_i k n r0
      generalize hargs : c.args.toList.map a.eval = us0 at hvs
      cases hvs with
      | cons hv hvs =>
        obtain ⟨rfl, hf⟩ := hv.int_inv
        obtain ⟨rv, h1, h2⟩ := minmax_go (P := P) true _ _ _ hf hvs hr
        refine val ?_ h2 h
        unfold execOp
        rw [ho]
        have hargs' : (c.args.map a.eval).toList = _ := (Array.toList_map ..).trans hargs
        simp only [Sem.run_bind, resolve, hc, Sem.run_pure, Result.andThen_ok, invoke, builtin, Builtin.max_, hargs']
        simp only [if_true] at h1
        rw [h1]
        rfl
    · rename_i hc
      replace h := opds_some S _ h
      obtain ⟨vs, h, hvs⟩ := h
      replace h := bind_some' h
      obtain ⟨r, hr, h⟩ := h
      unfold opMinMax at hr
      split at hr
      case h_2 => simp at hr
      rename_i k n r0
      generalize hargs : c.args.toList.map a.eval = us0 at hvs
      cases hvs with
      | cons hv hvs =>
        obtain ⟨rfl, hf⟩ := hv.int_inv
        obtain ⟨rv, h1, h2⟩ := minmax_go (P := P) false _ _ _ hf hvs hr
        refine val ?_ h2 h
        unfold execOp
        rw [ho]
        have hargs' : (c.args.map a.eval).toList = _ := (Array.toList_map ..).trans hargs
        simp only [Sem.run_bind, resolve, hc, Sem.run_pure, Result.andThen_ok, invoke, builtin, Builtin.min_, hargs']
        simp only [Bool.false_eq_true, if_false] at h1
        rw [h1]
        rfl
    · simp at h
  · simp at h
end
end Go.Ev
end
section
namespace Go.Ev
variable {U : Univ} {P : Program}
theorem evB_some {β : Type} {σ : St U} {x : Operand} {K : Bool → Option β} {r : β} (h : evB σ x K = some r) : ∃ b, (opd x : Rd U (AV U)).run σ = some (.d ⟨.bool, b⟩) ∧ K b = some r := by
  unfold evB at h
  rw [Rd.runK_eq] at h
  simp only [Option.bind_eq_some_iff] at h
  obtain ⟨b, hb, h⟩ := h
  replace hb := bind_some' hb
  obtain ⟨v, hv, hb⟩ := hb
  replace hb := boolOf_some hb
  obtain ⟨b', rfl, hb⟩ := hb
  simp only [run_ret, Option.some.injEq] at hb
  subst hb
  exact ⟨b', hv, h⟩
mutual
theorem RepAV.restrict {gh0 gh : Gh} {σ σe τ : St U} {w0 w : World} (hext : ∀ k b, σ.blk k = some b → σe.blk k = some b) (hτ : ∀ k, τ.blk k = σ.blk k) : ∀ {x : AV U} {v0 v : Value}, RepAV U gh0 σ w0 x v0 → RepAV U gh σe w x v → RepAV U gh τ w x v
  | _, _, _, _, .undef => .undef
  | _, _, _, _, .d h => .d h
  | _, _, _, _, .nilsl => .nilsl
  | _, _, _, _, .nilp => .nilp
  | _, _, _, _, .cagg => .cagg
  | _, _, _, _, .dz h1 h2 h3 => .dz h1 h2 h3
  | _, _, _, .ptr h0, .ptr h => .ptr (by
      obtain ⟨b0, g0, _⟩ := h0
      obtain ⟨b, g, h⟩ := h
      cases (hext _ _ g0).symm.trans g
      exact ⟨b0, (hτ _).trans g0, h⟩)
  | _, _, _, _, .vptr h1 h2 h3 h4 => .vptr h1 h2 h3 h4
  | _, _, _, .row _ h0, .row h1 h => .row h1 (by
      obtain ⟨b0, g0, _⟩ := h0
      obtain ⟨b, g, h⟩ := h
      cases (hext _ _ g0).symm.trans g
      exact ⟨b0, (hτ _).trans g0, h⟩)
  | _, _, _, .tup h0, .tup h => .tup (RepAVs.restrict hext hτ h0 h)
  | _, _, _, _, .fn => .fn
theorem RepAVs.restrict {gh0 gh : Gh} {σ σe τ : St U} {w0 w : World} (hext : ∀ k b, σ.blk k = some b → σe.blk k = some b) (hτ : ∀ k, τ.blk k = σ.blk k) : ∀ {x : List (AV U)} {v0 v : List Value}, RepAVs U gh0 σ w0 x v0 → RepAVs U gh σe w x v → RepAVs U gh τ w x v
  | _, _, _, .nil, .nil => .nil
  | _, _, _, .cons h0 hs0, .cons h hs => .cons (RepAV.restrict hext hτ h0 h) (RepAVs.restrict hext hτ hs0 hs)
end
section
variable {E : Env} {gh : Gh} {σ : St U} {a : Act} {w : World} {o : Oper}
theorem Sim.weaken {gh0 : Gh} {σe τ : St U} {w0 : World} {tm0 : Nat → Value} (S : Sim U E gh σe a w) (h0 : ∀ n, RepAV U gh0 σ w0 (σ.slot n) (tm0 n)) (hb : ∀ k, τ.blk k = σ.blk k) (hext : ∀ k b, σ.blk k = some b → σe.blk k = some b)
    (hs : ∀ n, τ.slot n = .undef ∨ (τ.slot n = σe.slot n ∧ σ.slot n = σe.slot n) ∨ ∃ x, τ.slot n = .d x ∧ σe.slot n = .d x) : Sim U E gh τ a w := by
  refine ⟨S.size, S.defers, fun n => ?_, fun k b hk => S.blks k b (hext k b ((hb k).symm.trans hk)), fun k b hk => S.owns k b (hext k b ((hb k).symm.trans hk)), S.frm, fun k b bn hk hbk => S.bases k b bn hk (hext k b ((hb k).symm.trans hbk))⟩
  rcases hs n with h | ⟨h1, h2⟩ | ⟨x, h1, h2⟩
  · rw [h]; exact .undef
  · have g0 := h0 n
    have g1 := S.slots n
    rw [h1]
    rw [h2] at g0
    exact RepAV.restrict hext hb g0 g1
  · rw [h1]
    have g1 := S.slots n
    rw [h2] at g1
    generalize a.tmps.getD n Go.undef = v at g1
    cases g1 with
    | d h => exact .d h
theorem told_wanted {ops : Array Oper} (S : Sim U E gh σ a w) {b : Bool} (h : told ops.toList σ o = some b) : Region.wanted o (yielded ops a.tmps) = b := by
  unfold told at h
  unfold Region.wanted
  split at h
  · rename_i hg
    rw [hg]
    cases h
    rfl
  · rename_i j w' hg
    rw [hg]
    simp only
    split at h
    · cases h
    · rename_i t ht
      unfold dstOf at ht
      rw [Array.getElem?_toList] at ht
      have hs := S.slots t
      unfold yielded
      rw [ht]
      simp only [Option.bind_some]
      split at h
      · rename_i c hc
        rw [hc] at hs
        have hv := hs.bool_inv
        cases h
        have : a.tmps[t]? = some (.bool c) := by
          rw [Array.getD_eq_getD_getElem?] at hv
          cases hx : a.tmps[t]? with
          | none => rw [hx] at hv; simp [Go.undef] at hv
          | some v => rw [hx] at hv; simpa using hv
        rw [this]
        cases c <;> cases w' <;> rfl
      · rename_i hc
        rw [hc] at hs
        cases h
        generalize hv : a.tmps.getD t Go.undef = v at hs
        cases hs with
        | tup hs =>
          cases hs
          rw [Array.getD_eq_getD_getElem?] at hv
          cases hx : a.tmps[t]? with
          | none => rfl
          | some v =>
            rw [hx] at hv
            simp at hv
            subst hv
            rfl
      · cases h
def PuRel (l : List Oper) (σ σ' : St U) : Prop := (∀ k b, σ.blk k = some b → σ'.blk k = some b) ∧ ∀ n, (∀ o ∈ l, o.dst ≠ some n) → σ'.slot n = σ.slot n
theorem PuRel.refl (σ : St U) : PuRel [] σ σ := ⟨fun _ _ h => h, fun _ _ => rfl⟩
theorem PuRel.trans {l m : List Oper} {σ σ1 σ2 : St U} (h1 : PuRel l σ σ1) (h2 : PuRel m σ1 σ2) : PuRel (l ++ m) σ σ2 :=
  ⟨fun k b h => h2.1 k b (h1.1 k b h), fun n hn => (h2.2 n fun o ho => hn o (List.mem_append_right _ ho)).trans (h1.2 n fun o ho => hn o (List.mem_append_left _ ho))⟩
theorem still_rel : ∀ (us : List (Upd U)) (σ0 σ : St U) (d : Option Nat), still σ0 d us = true → (∀ k b, σ0.blk k = some b → σ.blk k = some b) → (∀ k b, σ0.blk k = some b → (σ.puts us).blk k = some b) ∧ ∀ n, d ≠ some n → (σ.puts us).slot n = σ.slot n
  | [], _, _, _, _, hb => ⟨hb, fun _ _ => rfl⟩
  | .slot m v :: us, σ0, σ, d, h, hb => by
    simp only [still, Bool.and_eq_true, beq_iff_eq] at h
    obtain ⟨h1, h2⟩ := still_rel us σ0 (σ.put (.slot m v)) d h.2 hb
    refine ⟨h1, fun n hn => ?_⟩
    show ((σ.put (.slot m v)).puts us).slot n = _
    rw [h2 n hn, St.slot_put_ne]
    intro e
    subst e
    exact hn h.1
  | .blk k b :: us, σ0, σ, d, h, hb => by
    simp only [still, Bool.and_eq_true, Option.isNone_iff_eq_none] at h
    obtain ⟨h1, h2⟩ := still_rel us σ0 (σ.put (.blk k b)) d h.2 (fun j c hc => by
      rw [St.blk_put_ne]
      · exact hb j c hc
      · intro e
        subst e
        rw [h.1] at hc
        cases hc)
    exact ⟨h1, fun n hn => h2 n hn⟩
theorem RepAV.undef' {σ : St U} : RepAV U gh σ w (.tup []) Go.undef := .tup .nil
theorem Sim.skip (S : Sim U E gh σ a w) {d : Option Nat} (hd : InN E d) : Sim U E gh (σ.dst d (.tup [])) (a.put d Go.undef) w := by
  cases d with
  | none => exact S
  | some d => exact S.pure hd RepAV.undef'
theorem skips_sound {ops : Array Oper} {Q : Exit → Act → World → Prop} : ∀ (l : List Oper) {σ σ' : St U} {a : Act} {i : Nat} {tail : List Nat}, skips ops.toList l σ = some σ' → (∀ k o, l[k]? = some o → ops[i + k]? = some o) → (∀ o ∈ l, InN E o.dst) → Sim U E gh σ a w →
    (∀ a', Sim U E gh σ' a' w → PuRel l σ σ' → wpOps P ops Q tail a' w) → wpOps P ops Q (List.range' i l.length ++ tail) a w
  | [], σ, σ', a, i, tail, h, _, _, S, hK => by
    simp only [skips, Option.some.injEq] at h
    subst h
    exact hK a S (PuRel.refl _)
  | o :: l, σ, σ', a, i, tail, h, hi, hn, S, hK => by
    unfold skips at h
    split at h
    case h_2 => cases h
    rename_i ht
    have hw := told_wanted S ht
    simp only [List.length_cons, List.range'_succ, List.cons_append]
    have h0 : ops[i]? = some o := by simpa using hi 0 o rfl
    simp only [wpOps, h0, hw, Bool.false_eq_true, if_false]
    refine skips_sound l h (fun k o' hk => by have := hi (k + 1) o' (by simpa using hk); rwa [← Nat.add_assoc, Nat.add_right_comm] at this) (fun o' ho => hn o' (List.mem_cons_of_mem _ ho)) (S.skip (hn o List.mem_cons_self)) fun a' S' hP => hK a' S' ?_
    refine ⟨fun k b hb => hP.1 k b (by cases o.dst <;> exact hb), fun n hnn => ?_⟩
    rw [hP.2 n fun o' ho => hnn o' (List.mem_cons_of_mem _ ho)]
    have h1 := hnn o List.mem_cons_self
    unfold St.dst
    cases hd : o.dst with
    | none => rfl
    | some d =>
      rw [hd] at h1
      exact St.slot_put_ne _ _ fun e => h1 (by rw [e])
theorem forget_blk : ∀ (l : List Oper) (σ : St U) (k : Nat), (forget l σ).blk k = σ.blk k
  | [], _, _ => rfl
  | o :: l, σ, k => by
    simp only [forget]
    rw [forget_blk l]
    cases o.dst <;> rfl
theorem forget_slot : ∀ (l : List Oper) (σ : St U) (n : Nat), (forget l σ).slot n = .undef ∨ ((forget l σ).slot n = σ.slot n ∧ ∀ o ∈ l, o.dst ≠ some n)
  | [], σ, n => .inr ⟨rfl, fun o ho => by cases ho⟩
  | o :: l, σ, n => by
    simp only [forget]
    rcases forget_slot l (σ.dst o.dst .undef) n with h | ⟨h1, h2⟩
    · exact .inl h
    · rw [h1]
      unfold St.dst
      cases hd : o.dst with
      | none => exact .inr ⟨rfl, fun o' ho => by
          cases ho with
          | head => rw [hd]; simp
          | tail _ ho => exact h2 o' ho⟩
      | some d =>
        simp only
        rw [St.slot_put]
        by_cases hdn : d = n
        · rw [if_pos hdn]; exact .inl rfl
        · rw [if_neg hdn]
          exact .inr ⟨rfl, fun o' ho => by
            cases ho with
            | head => rw [hd]; intro e; cases e; exact hdn rfl
            | tail _ ho => exact h2 o' ho⟩
theorem forget_slot_no (l : List Oper) (σ : St U) (n : Nat) (h : ∀ o ∈ l, o.dst ≠ some n) : (forget l σ).slot n = σ.slot n := by
  induction l generalizing σ with
  | nil => rfl
  | cons o l ih =>
    simp only [forget]
    rw [ih _ fun o' ho => h o' (List.mem_cons_of_mem _ ho)]
    have h1 := h o List.mem_cons_self
    unfold St.dst
    cases hd : o.dst with
    | none => rfl
    | some d =>
      rw [hd] at h1
      exact St.slot_put_ne _ _ fun e => h1 (by rw [e])
theorem atPick_some {β : Type} {all : List Oper} {t : Nat} {b : Bool} {k : Option β} {r : β} (h : atPick all σ o t b k = some r) : told all σ o = some true ∧ σ.slot t = .d ⟨.bool, b⟩ ∧ k = some r := by
  unfold atPick at h
  split at h
  · rename_i ht
    split at h
    · rename_i c hc
      split at h
      · rename_i hcb
        subst hcb
        exact ⟨ht, hc, h⟩
      · cases h
    · cases h
  · cases h
theorem pick_step {ops : Array Oper} {Q : Exit → Act → World → Prop} {i t d : Nat} {tail : List Nat} {x y : Operand} {b v : Bool} (hi : ops[i]? = some o) (hop : o.op = .pick (.tmp t) x y) (hdst : o.dst = some d) (hn : InN E o.dst) (S : Sim U E gh σ a w) (ht : told ops.toList σ o = some true)
    (hb : σ.slot t = .d ⟨.bool, b⟩) (hv : (opd (if b then x else y) : Rd U (AV U)).run σ = some (.d ⟨.bool, v⟩)) (hK : ∀ a', Sim U E gh (σ.put (.slot d (.d ⟨.bool, v⟩))) a' w → wpOps P ops Q tail a' w) : wpOps P ops Q (i :: tail) a w := by
  have hw := told_wanted S ht
  simp only [wpOps, hi, hw, if_true]
  refine .inl ?_
  have h1 := (opd_rep S hv).bool_inv
  have h2 := S.slots t
  rw [hb] at h2
  have h2 : a.eval (.tmp t) = .bool b := h2.bool_inv
  have hx : (execOp a.eval o).run P w = .ok (.value (.bool v)) w := by
    unfold execOp
    rw [hop]
    simp only [Sem.run_bind, h2, asBool, Sem.run_pure, Result.andThen_ok]
    rw [← h1]
    cases b <;> rfl
  unfold Oper.wp
  rw [hx]
  refine hK _ ?_
  have := S.pure hn (rep_bool (b := v))
  rw [hdst] at this ⊢
  exact this
theorem evOps_sound {L : (Nat → Prop) → World → Prop} (hL : LMono L) {G : Ctx U} (hU : ULaw U) (hG : GOk P U G) (hC : COk P U L G) (hE : EOk L E) {dup : List Nat} {ops : Array Oper} {Q : Exit → Act → World → Prop} : ∀ (n : Nat) {β : Type} (pu : Bool) (g : List (Nat × Bool)) (l : List Oper) {σ : St U} {K : St U → Option β} {r : β} {i : Nat} {tail : List Nat} {gh : Gh} {a : Act} {w : World},
    evOps G dup ops.toList n pu g l σ K = some r → (∀ k o, l[k]? = some o → ops[i + k]? = some o) → (∀ o ∈ l, InN E o.dst) → Sim U E gh σ a w →
      (∀ σ' gh' a' w', K σ' = some r → Sim U E gh' σ' a' w' → (pu = true → PuRel l σ σ') → wpOps P ops Q tail a' w') → wpOps P ops Q (List.range' i l.length ++ tail) a w := by
  intro n
  induction n with
  | zero => intro β pu g l σ K r i tail gh a w h; cases h
  | succ n ih =>
    intro β pu g l σ K r i tail gh a w h hi hn S hK
    cases l with
    | nil =>
      simp only [evOps] at h
      exact hK σ gh a w h S fun _ => PuRel.refl σ
    | cons o l =>
      have h0 : ops[i]? = some o := by simpa using hi 0 o rfl
      unfold evOps at h
      split at h
      ·
        split at h
        case h_2 => cases h
        rename_i ht
        rw [Rd.runK_eq] at h
        simp only [Option.bind_eq_some_iff] at h
        obtain ⟨us, hus, h⟩ := h
        split at h
        case isFalse => cases h
        rename_i hst
        have hw := told_wanted S ht
        simp only [List.length_cons, List.range'_succ, List.cons_append]
        simp only [wpOps, h0, hw, if_true]
        refine .inl ?_
        refine opRun_step hL hU hG hC hE S (hn o List.mem_cons_self) hus _ _ fun gh' a' w' S' => ?_
        refine ih pu g l h (fun k o' hk => by have := hi (k + 1) o' (by simpa using hk); rwa [← Nat.add_assoc, Nat.add_right_comm] at this) (fun o' ho => hn o' (List.mem_cons_of_mem _ ho)) S' fun σ' gh' a' w' hk hs hp => hK σ' gh' a' w' hk hs fun hpu => ?_
        subst hpu
        simp only [Bool.not_true, Bool.false_or] at hst
        obtain ⟨q1, q2⟩ := still_rel us σ σ o.dst hst fun _ _ h => h
        have hp := hp rfl
        exact ⟨fun k b hb => hp.1 k b (q1 k b hb), fun m hm => (hp.2 m fun o' ho => hm o' (List.mem_cons_of_mem _ ho)).trans (q2 m (hm o List.mem_cons_self))⟩
      ·
        split at h
        · cases h
        rename_i j w' hgd
        split at h
        · cases h
        rename_i t htd
        simp only at h
        split at h
        case h_2 => cases h
        rename_i d c x y ty ps af gd rest' hdrop
        split at h
        case isFalse => cases h
        rename_i hct
        have hct := (beq_iff_eq).1 hct
        subst hct
        let pk : Oper := ⟨some d, .pick (.tmp c) x y, ty, ps, af, gd⟩
        have hsplit : o :: l = ((o :: l).takeWhile fun q => !inCtx g q) ++ pk :: rest' := by
          rw [← hdrop, List.takeWhile_append_dropWhile]
        generalize hgrp : ((o :: l).takeWhile fun q => !inCtx g q) = grp at h hsplit
        have hlen : (o :: l).length = grp.length + (1 + rest'.length) := by rw [hsplit]; simp; omega
        have hidx : List.range' i (o :: l).length ++ tail = List.range' i grp.length ++ ((i + grp.length) :: (List.range' (i + grp.length + 1) rest'.length ++ tail)) := by
          rw [hlen, ← List.range'_append_1, List.append_assoc]
          congr 1
          rw [Nat.add_comm 1, List.range'_succ, List.cons_append]
        rw [hidx]
        have hig : ∀ k o', grp[k]? = some o' → ops[i + k]? = some o' := fun k o' hk => hi k o' (by rw [hsplit, List.getElem?_append_left (getElem?_lt hk)]; exact hk)
        have hip : ops[i + grp.length]? = some pk := hi _ _ (by rw [hsplit, List.getElem?_append_right (Nat.le_refl _)]; simp)
        have hir : ∀ k o', rest'[k]? = some o' → ops[i + grp.length + 1 + k]? = some o' := fun k o' hk => by
          have := hi (grp.length + 1 + k) o' (by rw [hsplit, List.getElem?_append_right (by omega)]; simpa [show grp.length + 1 + k - grp.length = k + 1 by omega] using hk)
          rwa [← Nat.add_assoc, ← Nat.add_assoc] at this
        have hng : ∀ o' ∈ grp, InN E o'.dst := fun o' ho => hn o' (by rw [hsplit]; exact List.mem_append_left _ ho)
        have hnp : InN E pk.dst := hn pk (by rw [hsplit]; exact List.mem_append_right _ List.mem_cons_self)
        have hnr : ∀ o' ∈ rest', InN E o'.dst := fun o' ho => hn o' (by rw [hsplit]; exact List.mem_append_right _ (List.mem_cons_of_mem _ ho))
        replace h := evB_some h
        obtain ⟨b, hb, h⟩ := h
        have hb : σ.slot c = .d ⟨.bool, b⟩ := by simpa [opd] using hb
        have hsl1 : ∀ n, (σ.put (.slot c (.d ⟨.bool, b⟩))).slot n = σ.slot n := fun n => by
          rw [St.slot_put]
          by_cases e : c = n
          · subst e
            rw [if_pos rfl, hb]
          · rw [if_neg e]
        have S1 : Sim U E gh (σ.put (.slot c (.d ⟨.bool, b⟩))) a w := S.ext hsl1 fun k => rfl
        have hsame : ∀ {m : List Oper} {σ' : St U}, PuRel m (σ.put (.slot c (.d ⟨.bool, b⟩))) σ' → PuRel m σ σ' := fun hp => ⟨fun k b hb => hp.1 k b hb, fun n hm => (hp.2 n hm).trans (hsl1 n)⟩
        have after : ∀ {σ0 : St U} {gh' : Gh} {a' : Act} {w1 : World} {v : Bool}, evOps G dup ops.toList n pu g rest' (σ0.put (.slot d (.d ⟨.bool, v⟩))) K = some r → Sim U E gh' (σ0.put (.slot d (.d ⟨.bool, v⟩))) a' w1 → (pu = true → (∀ k b, σ.blk k = some b → σ0.blk k = some b) ∧ ∀ n, (∀ o' ∈ grp, o'.dst ≠ some n) → d ≠ n → σ0.slot n = σ.slot n) →
            wpOps P ops Q (List.range' (i + grp.length + 1) rest'.length ++ tail) a' w1 := by
          intro σ0 gh' a' w1 v h S' hp0
          refine ih pu g rest' h hir hnr S' fun σ' gh' a' w' hk hs hp => hK σ' gh' a' w' hk hs fun hpu => ?_
          have hp := hp hpu
          obtain ⟨p1, p2⟩ := hp0 hpu
          refine ⟨fun k b hb => hp.1 k b (p1 k b hb), fun m hm => ?_⟩
          have m1 : ∀ o' ∈ grp, o'.dst ≠ some m := fun o' ho => hm o' (by rw [hsplit]; exact List.mem_append_left _ ho)
          have m2 : d ≠ m := fun e => hm pk (by rw [hsplit]; exact List.mem_append_right _ List.mem_cons_self) (by show some d = _; rw [e])
          rw [hp.2 m fun o' ho => hm o' (by rw [hsplit]; exact List.mem_append_right _ (List.mem_cons_of_mem _ ho)), St.slot_put_ne _ _ m2]
          exact p2 m m1 m2
        split at h
        ·
          split at h
          · rename_i hbw
            subst hbw
            refine ih pu _ grp h hig hng S1 fun σ' gh' a' w1 hk hs hp => ?_
            obtain ⟨ht, hsl, hk⟩ := atPick_some hk
            obtain ⟨v, hv, hk⟩ := evB_some hk
            refine pick_step hip rfl rfl hnp hs ht hsl hv fun a2 S2 => after hk S2 fun hpu => ?_
            have hp := hsame (hp hpu)
            exact ⟨hp.1, fun n hm _ => hp.2 n hm⟩
          · rename_i hbw
            have hbw : b = !w' := by cases b <;> cases w' <;> simp_all
            subst hbw
            simp only [Option.bind_eq_some_iff] at h
            obtain ⟨σ', hsk, h⟩ := h
            refine skips_sound grp hsk hig hng S1 fun a' hs hp => ?_
            obtain ⟨ht, hsl, hk⟩ := atPick_some h
            obtain ⟨v, hv, hk⟩ := evB_some hk
            have hv' : (opd (if !w' then x else y) : Rd U (AV U)).run σ' = some (.d ⟨.bool, v⟩) := by cases w' <;> exact hv
            refine pick_step hip rfl rfl hnp hs ht hsl hv' fun a2 S2 => after hk S2 fun hpu => ?_
            have hp := hsame hp
            exact ⟨hp.1, fun n hm _ => hp.2 n hm⟩
        ·
          simp only [Option.bind_eq_some_iff] at h
          obtain ⟨v0, hv0, h⟩ := h
          have fin : ∀ {σ' : St U} {gh' : Gh} {a' : Act} {w1 : World}, Sim U E gh' (σ'.put (.slot d (.d ⟨.bool, v0⟩))) a' w1 → PuRel grp σ σ' → wpOps P ops Q (List.range' (i + grp.length + 1) rest'.length ++ tail) a' w1 := by
            intro σ' gh' a' w1 S2 hp
            have S3 : Sim U E gh' ((forget grp σ).put (.slot d (.d ⟨.bool, v0⟩))) a' w1 := by
              refine S2.weaken (σ := σ.put (.slot d .undef)) (tm0 := tmOf a) (w0 := w) (gh0 := gh) (fun n => ?_) (fun k => forget_blk grp σ k) (fun k b hb => hp.1 k b hb) fun n => ?_
              · rw [St.slot_put]
                by_cases e : d = n
                · rw [if_pos e]; exact .undef
                · rw [if_neg e]
                  have := S.slots n
                  generalize hx : σ.slot n = xx at this ⊢
                  exact RepAV.restrict (σ := σ) (σe := σ) (τ := σ.put (.slot d .undef)) (fun _ _ h => h) (fun _ => rfl) this this
              · rw [St.slot_put, St.slot_put, St.slot_put]
                by_cases e : d = n
                · rw [if_pos e, if_pos e]
                  exact .inr (.inr ⟨_, rfl, rfl⟩)
                · rw [if_neg e, if_neg e, if_neg e]
                  rcases forget_slot grp σ n with h1 | ⟨h1, h2⟩
                  · exact .inl h1
                  · refine .inr (.inl ⟨?_, (hp.2 n h2).symm⟩)
                    rw [h1, hp.2 n h2]
            refine after h S3 fun _ => ⟨fun k b hb => (forget_blk grp σ k).trans hb, fun n hm _ => ?_⟩
            exact forget_slot_no grp σ n hm
          split at hv0
          · rename_i hbw
            subst hbw
            refine ih true _ grp hv0 hig hng S1 fun σ' gh' a' w1 hk hs hp => ?_
            obtain ⟨ht, hsl, hk⟩ := atPick_some hk
            obtain ⟨v, hv, hk⟩ := evB_some hk
            cases hk
            exact pick_step hip rfl rfl hnp hs ht hsl hv fun a2 S2 => fin S2 (hsame (hp rfl))
          · rename_i hbw
            have hbw : b = !w' := by cases b <;> cases w' <;> simp_all
            subst hbw
            simp only [Option.bind_eq_some_iff] at hv0
            obtain ⟨σ', hsk, hv0⟩ := hv0
            refine skips_sound grp hsk hig hng S1 fun a' hs hp => ?_
            obtain ⟨ht, hsl, hk⟩ := atPick_some hv0
            obtain ⟨v, hv, hk⟩ := evB_some hk
            cases hk
            have hv' : (opd (if !w' then x else y) : Rd U (AV U)).run σ' = some (.d ⟨.bool, v0⟩) := by cases w' <;> exact hv
            exact pick_step hip rfl rfl hnp hs ht hsl hv' fun a2 S2 => fin S2 (hsame hp)
end
end Go.Ev
end
