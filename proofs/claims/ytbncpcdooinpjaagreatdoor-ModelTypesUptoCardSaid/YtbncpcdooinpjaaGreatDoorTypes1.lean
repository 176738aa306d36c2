/- A part of the proof in YtbncpcdooinpjaaGreatDoorTypes12: lemmas and contracts; nothing is claimed here. -/
import Derived.Calls
import Derived.KernelRfl
import Derived.Laws.AppendOwn
import Derived.Laws.OwnMore
import Derived.Below
import Derived.Laws.Closers25b
set_option linter.unusedVariables false
set_option linter.unusedSimpArgs false
section
namespace Go.Ev
inductive Ty where
  | int (k : IntKind) | bool | str | sl (e : Ty) | arr (n : Nat) (e : Ty) | st (id : Nat)
def Ty.beq : Ty → Ty → Bool
  | .int a, .int b => decide (a = b)
  | .bool, .bool => true
  | .str, .str => true
  | .sl a, .sl b => a.beq b
  | .arr n a, .arr m b => (n == m) && a.beq b
  | .st a, .st b => a == b
  | _, _ => false
theorem Ty.beq_eq : ∀ {a b : Ty}, a.beq b = true → a = b := by
  intro a
  induction a with
  | int k => intro b h; cases b <;> simp [Ty.beq] at h; rw [h]
  | bool => intro b h; cases b <;> simp [Ty.beq] at h; rfl
  | str => intro b h; cases b <;> simp [Ty.beq] at h; rfl
  | sl e ih => intro b h; cases b <;> simp [Ty.beq] at h; rw [ih h]
  | arr n e ih => intro b h; cases b <;> simp [Ty.beq] at h; rw [h.1, ih h.2]
  | st id => intro b h; cases b <;> simp [Ty.beq] at h; rw [h]
theorem Ty.beq_self (a : Ty) : a.beq a = true := by
  induction a <;> simp_all [Ty.beq]
abbrev Ty.den (C : Nat → Type) : Ty → Type
  | .int _ => Int
  | .bool => Bool
  | .str => ByteArray
  | .sl e => List (e.den C)
  | .arr _ e => List (e.den C)
  | .st id => C id
structure D (C : Nat → Type) where
  t : Ty
  x : t.den C
def D.as {C : Nat → Type} (t : Ty) (d : D C) : Option (t.den C) :=
  if h : d.t.beq t = true then some (cast (congrArg (Ty.den C) (Ty.beq_eq h)) d.x) else none
theorem D.as_some {C : Nat → Type} {t : Ty} {d : D C} {x : t.den C} (h : d.as t = some x) : d = ⟨t, x⟩ := by
  obtain ⟨u, y⟩ := d
  unfold D.as at h
  split at h
  · rename_i hb
    have := Ty.beq_eq hb
    simp only at this
    subst this
    simpa using h
  · simp at h
structure Univ where
  car : Nat → Type
  tys : Nat → List Ty
  get : (id : Nat) → car id → List (D car)
  put : (id : Nat) → List (D car) → Option (car id)
  zero : (id : Nat) → Option (car id)
abbrev Univ.D (U : Univ) := Ev.D U.car
inductive Step where
  | fld (j : Nat) | ix (i : Int)
inductive Win where
  | all | pre (n : Int) | mid (o n : Int) | full (n : Int)
inductive AV (U : Univ) where
  | undef
  | d (x : U.D)
  | nilsl
  | nilp
  | cagg (cs : List Value)
  | dz (x : U.D) (nils : List (List Nat))
  | ptr (k v : Nat) (p : List Step) (t : Ty)
  | vptr (x : U.D)
  | row (k v : Nat) (q : List Nat) (w : Win)
  | tup (vs : List (AV U))
  | fn (f : Nat)
structure Blk (U : Univ) where
  x : U.D
  mem : Bool
  own : List (List Nat)
  dead : List (List Nat)
  ver : Nat
inductive Fl (V R : Type) where
  | go (v : V)
  | ret (r : R)
def Fl.elim {V R β : Type} (x : Fl V R) (f : V → β) (g : R → β) : β :=
  match x with
  | .go v => f v
  | .ret r => g r
inductive Rd (U : Univ) (α : Type) : Type 1 where
  | ret (a : α)
  | fail
  | slot (n : Nat) (k : AV U → Rd U α)
  | blk (n : Nat) (k : Option (Blk U) → Rd U α)
  | opt {γ : Type} (o : Option γ) (k : γ → Rd U α)
  | alt {γ δ : Type} (o : Option (Fl γ δ)) (k : γ → Rd U α) (l : δ → Rd U α)
  | chk (p : Prop) (i : Decidable p) (k : Rd U α)
def Rd.bind {U : Univ} {α β : Type} : Rd U α → (α → Rd U β) → Rd U β
  | .ret a, f => f a
  | .fail, _ => .fail
  | .slot n k, f => .slot n fun v => (k v).bind f
  | .blk n k, f => .blk n fun b => (k b).bind f
  | .opt o k, f => .opt o fun x => (k x).bind f
  | .alt o k l, f => .alt o (fun x => (k x).bind f) fun x => (l x).bind f
  | .chk p i k, f => .chk p i (k.bind f)
structure St (U : Univ) where
  sl : List (Nat × AV U)
  hp : List (Nat × Option (Blk U))
def lookup {α : Type} (z : α) : List (Nat × α) → Nat → α
  | [], _ => z
  | (k, v) :: r, n => if (k == n) = true then v else lookup z r n
def St.slot {U : Univ} (σ : St U) (n : Nat) : AV U := lookup .undef σ.sl n
def St.blk {U : Univ} (σ : St U) (n : Nat) : Option (Blk U) := lookup none σ.hp n
def Rd.runK {U : Univ} {α β : Type} (σ : St U) : Rd U α → (α → Option β) → Option β
  | .ret a, K => K a
  | .fail, _ => none
  | .slot n k, K => (k (σ.slot n)).runK σ K
  | .blk n k, K => (k (σ.blk n)).runK σ K
  | .opt o k, K => o.bind fun x => (k x).runK σ K
  | .alt o k l, K => o.bind fun x => x.elim (fun y => (k y).runK σ K) fun y => (l y).runK σ K
  | .chk p i k, K => @ite _ p i (k.runK σ K) none
def Rd.run {U : Univ} {α : Type} (σ : St U) (r : Rd U α) : Option α := r.runK σ some
theorem Rd.runK_eq {U : Univ} {α β : Type} (σ : St U) (r : Rd U α) (K : α → Option β) : r.runK σ K = (r.run σ).bind K := by
  unfold Rd.run
  induction r with
  | ret a => rfl
  | fail => rfl
  | slot n k ih => exact ih _
  | blk n k ih => exact ih _
  | opt o k ih => cases o with
    | none => rfl
    | some x => exact ih x
  | alt o k l ih1 ih2 => cases o with
    | none => rfl
    | some x => cases x with
      | go y => exact ih1 y
      | ret y => exact ih2 y
  | chk p i k ih =>
    simp only [Rd.runK]
    split
    · exact ih
    · rfl
theorem Rd.run_bind {U : Univ} {α β : Type} (σ : St U) (r : Rd U α) (f : α → Rd U β) : (r.bind f).run σ = (r.run σ).bind fun a => (f a).run σ := by
  unfold Rd.run
  induction r with
  | ret a => rfl
  | fail => rfl
  | slot n k ih => exact ih _
  | blk n k ih => exact ih _
  | opt o k ih => cases o with
    | none => rfl
    | some x => exact ih x
  | alt o k l ih1 ih2 => cases o with
    | none => rfl
    | some x => cases x with
      | go y => exact ih1 y
      | ret y => exact ih2 y
  | chk p i k ih =>
    simp only [Rd.bind, Rd.runK]
    split
    · exact ih
    · rfl
inductive Upd (U : Univ) where
  | slot (n : Nat) (v : AV U)
  | blk (n : Nat) (b : Option (Blk U))
def St.put {U : Univ} (σ : St U) : Upd U → St U
  | .slot n v => { σ with sl := (n, v) :: σ.sl }
  | .blk n b => { σ with hp := (n, b) :: σ.hp }
def St.puts {U : Univ} (σ : St U) : List (Upd U) → St U
  | [] => σ
  | u :: r => (σ.put u).puts r
end Go.Ev
end
section
namespace Go.Ev
variable {U : Univ}
inductive Arg (U : Univ) where
  | d (x : U.D)
  | box (x : U.D)
  | fn (f : Nat)
inductive RV (U : Univ) where
  | d (x : U.D)
  | row (x : U.D)
  | new (x : U.D) (own : List (List Nat))
  | nil
structure Res (U : Univ) where
  vals : List (RV U)
  boxes : List U.D
structure PRes (U : Univ) : Type 1 where
  γ : Type
  o : Option γ
  enc : γ → Res U
  owns : List (List (List Nat))
structure PRes2 (U : Univ) : Type 1 where
  γ : Type
  δ : Type
  o : Option (Fl γ δ)
  enc : γ → Res U
  enc2 : δ → Res U
  owns : List (List (List Nat))
structure Ctx (U : Univ) where
  ty : TypeId → Option Ty
  bytes : TypeId → Option Nat
  call : FuncId → List (Arg U) → Option (PRes U)
  call2 : FuncId → List (Arg U) → Option (PRes2 U)
  full : Nat → Bool
def lk {α : Type} (l : List (Nat × α)) (n : Nat) : Option α := lookup none (l.map fun p => (p.1, some p.2)) n
namespace Rd
end Rd
def ofConst : Value → Rd U (AV U)
  | .int k n => if decide (k.min ≤ n ∧ n ≤ k.max) then .ret (.d ⟨.int k, n⟩) else .fail
  | .bool b => .ret (.d ⟨.bool, b⟩)
  | .string s => if decide (s.size ≤ 1048576) then .ret (.d ⟨.str, s⟩) else .fail
  | .slice none 0 0 => .ret .nilsl
  | .pointer none => .ret .nilp
  | .agg cs => .ret (.cagg cs.toList)
  | _ => .fail
def opd : Operand → Rd U (AV U)
  | .tmp t => .slot t .ret
  | .const v => ofConst v
  | .func f => .ret (.fn f)
  | .global _ => .fail
def room (n : Nat) : Prop := Nat.ble n 140737488355328 = true
instance (n : Nat) : Decidable (room n) := instDecidableEqBool (Nat.ble n 140737488355328) true
theorem room_iff (n : Nat) : room n ↔ n ≤ 140737488355328 := by unfold room; rw [Nat.ble_eq]
def idx {α : Type} (l : List α) (i : Int) : Option α := if 0 ≤ i then l[i.toNat]? else none
def sub {α : Type} (l : List α) (a b : Int) : List α := (l.drop a.toNat).take (b - a).toNat
def getP {α : Type} : List Step → U.D → (U.D → Rd U α) → Rd U α
  | [], d, k => k d
  | .fld j :: p, d, k =>
    match d with
    | ⟨.st id, x⟩ =>
      match (U.get id x)[j]? with
      | some y => getP p y k
      | none => .fail
    | _ => .fail
  | .ix i :: p, d, k =>
    match d with
    | ⟨.sl e, l⟩ => .opt (idx l i) fun x => getP p ⟨e, x⟩ k
    | ⟨.arr _ e, l⟩ => .opt (idx l i) fun x => getP p ⟨e, x⟩ k
    | _ => .fail
def getQ (U : Univ) : List Nat → U.D → Option U.D
  | [], d => some d
  | j :: q, d =>
    match d with
    | ⟨.st id, x⟩ =>
      match (U.get id x)[j]? with
      | some y => getQ U q y
      | none => none
    | _ => none
def setP {α : Type} : List Step → U.D → U.D → (U.D → Rd U α) → Rd U α
  | [], d, y, k => if y.t.beq d.t then k y else .fail
  | .fld j :: p, d, y, k =>
    match d with
    | ⟨.st id, x⟩ =>
      match (U.get id x)[j]? with
      | some z => setP p z y fun z' =>
        match U.put id ((U.get id x).set j z') with
        | some x' => k ⟨.st id, x'⟩
        | none => .fail
      | none => .fail
    | _ => .fail
  | .ix i :: p, d, y, k =>
    match d with
    | ⟨.sl e, l⟩ => .opt (idx l i) fun z => setP p ⟨e, z⟩ y fun z' =>
      match z'.as e with
      | some v => k ⟨.sl e, l.set i.toNat v⟩
      | none => .fail
    | ⟨.arr n e, l⟩ => .opt (idx l i) fun z => setP p ⟨e, z⟩ y fun z' =>
      match z'.as e with
      | some v => k ⟨.arr n e, l.set i.toNat v⟩
      | none => .fail
    | _ => .fail
def flds : List Step → Option (List Nat)
  | [] => some []
  | .fld j :: p => (flds p).map (j :: ·)
  | .ix _ :: _ => none
def front : List Step → List Nat
  | .fld j :: p => j :: front p
  | _ => []
def pre : List Nat → List Nat → Bool
  | [], _ => true
  | a :: p, b :: q => a == b && pre p q
  | _ :: _, [] => false
def hasIx : List Step → Bool
  | [] => false
  | .ix _ :: _ => true
  | .fld _ :: p => hasIx p
def hasSl (U : Univ) : Nat → Ty → Bool
  | 0, _ => true
  | n + 1, t => match t with
    | .int _ | .bool | .str => false
    | .sl _ => true
    | .arr _ e => hasSl U n e
    | .st id => (U.tys id).any (hasSl U n)
def slP (U : Univ) : Nat → Ty → List (List Nat)
  | 0, _ => []
  | n + 1, t => match t with
    | .sl _ => [[]]
    | .st id => ((U.tys id).zipIdx.map fun (u, j) => (slP U n u).map (j :: ·)).flatten
    | _ => []
def Ty.isSl : Ty → Bool
  | .sl _ => true
  | _ => false
def Blk.fit (b : Blk U) (v : Nat) (p : List Step) : Bool :=
  (!hasIx p || v == b.ver) && b.dead.all fun q => !(pre q (front p) || pre (front p) q)
def readP {α : Type} (k v : Nat) (p : List Step) (K : Blk U → U.D → Rd U α) : Rd U α :=
  .blk k fun
    | some b => if b.fit v p then getP p b.x (K b) else .fail
    | none => .fail
def rowOf {α : Type} (k v : Nat) (q : List Nat) (K : Blk U → U.D → Rd U α) : Rd U α :=
  .blk k fun
    | some b => if (b.dead.all fun o => !(pre o q || pre q o)) && v == b.ver then (match getQ U q b.x with | some x => K b x | none => .fail) else .fail
    | none => .fail
def win (x : U.D) (w : Win) : Option U.D :=
  match x with
  | ⟨.sl e, l⟩ => match w with
    | .all => some ⟨.sl e, l⟩
    | .pre n => some ⟨.sl e, l.take n.toNat⟩
    | .full n => some ⟨.sl e, l.take n.toNat⟩
    | .mid o n => some ⟨.sl e, sub l o (o + n)⟩
  | _ => none
def Win.head : Win → Bool
  | .mid _ _ => false
  | _ => true
def zeroD (U : Univ) : Nat → Ty → Option U.D
  | 0, _ => none
  | n + 1, t => match t with
    | .int k => some ⟨.int k, 0⟩
    | .bool => some ⟨.bool, false⟩
    | .str => some ⟨.str, ByteArray.empty⟩
    | .sl e => some ⟨.sl e, []⟩
    | .arr m e => match zeroD U n e with
      | some z => (z.as e).map fun x => ⟨.arr m e, List.replicate m x⟩
      | none => none
    | .st id => (U.zero id).map fun x => ⟨.st id, x⟩
def deep : Nat := 8
def zeroCells (U : Univ) : Nat → Ty → List Value → Option (List Value)
  | 0, _, _ => none
  | n + 1, t, cs => match t, cs with
    | .int k, .int j 0 :: r => if decide (j = k) then some r else none
    | .bool, .bool false :: r => some r
    | .str, .string s :: r => if s.size == 0 then some r else none
    | .sl _, .slice none 0 0 :: r => some r
    | .arr m e, cs => go m e cs (zeroCells U n e)
    | .st id, cs => (U.tys id).foldl (fun o u => o.bind (zeroCells U n u)) (some cs)
    | _, _ => none
 where
  go (m : Nat) (_e : Ty) (cs : List Value) (f : List Value → Option (List Value)) : Option (List Value) :=
    match m with
    | 0 => some cs
    | m + 1 => (f cs).bind fun r => go m _e r f
def Ty.isAgg : Ty → Bool
  | .st _ => true
  | .arr _ _ => true
  | _ => false
def plainOf {α : Type} (t : Ty) (v : AV U) (K : U.D → Rd U α) : Rd U α :=
  match v with
  | .d x => if x.t.beq t then K x else .fail
  | .dz x _ => if x.t.beq t then K x else .fail
  | .nilsl => match t with
    | .sl e => K ⟨.sl e, []⟩
    | _ => .fail
  | .cagg cs => match t.isAgg, zeroCells U deep t cs, zeroD U deep t with
    | true, some [], some z => K z
    | _, _, _ => .fail
  | .row k v q w => rowOf k v q fun _ x => match win x w with
    | some y => if y.t.beq t then K y else .fail
    | none => .fail
  | _ => .fail
def intOf {α : Type} (v : AV U) (K : IntKind → Int → Rd U α) : Rd U α :=
  match v with
  | .d ⟨.int k, n⟩ => K k n
  | _ => .fail
def boolOf {α : Type} (v : AV U) (K : Bool → Rd U α) : Rd U α :=
  match v with
  | .d ⟨.bool, b⟩ => K b
  | _ => .fail
def lenOf {α : Type} (v : AV U) (K : Int → Rd U α) : Rd U α :=
  match v with
  | .d ⟨.sl _, l⟩ => K (l.length : Int)
  | .d ⟨.str, s⟩ => K (s.size : Int)
  | .nilsl => K 0
  | .row k v q w => rowOf k v q fun _ x => match x with
    | ⟨.sl _, l⟩ => match w with
      | .all => K (l.length : Int)
      | .pre n => K n
      | .full n => K n
      | .mid _ n => K n
    | _ => .fail
  | _ => .fail
abbrev Out (U : Univ) := Rd U (List (Upd U))
def put (dst : Option Nat) (v : AV U) : List (Upd U) :=
  match dst with
  | some d => [.slot d v]
  | none => []
def newBlk (x : U.D) (mem : Bool) (own : List (List Nat)) : Blk U := ⟨x, mem, own, [], 0⟩
def fresh {α : Type} (d : Nat) (K : Rd U α) : Rd U α :=
  .blk d fun
    | none => K
    | some _ => .fail
def newRow (dst : Option Nat) (x : U.D) : Out U :=
  match dst with
  | some d => fresh d <| .ret [.blk d (some (newBlk x false [[]])), .slot d (.row d 0 [] .all)]
  | none => .fail
def newRowF (dst : Option Nat) (us : List (Upd U)) (x : U.D) : Out U :=
  match dst with
  | some d => fresh d <| .ret (us ++ [.blk d (some (newBlk x false [[]])), .slot d (.row d 0 [] .all)])
  | none => .fail
def Blk.frozen (b : Blk U) (q : List Nat) : Blk U := { b with own := b.own.filter fun o => !pre q o }
def opLoad (G : Ctx U) (dst : Option Nat) (T : TypeId) (a : AV U) : Out U :=
  match G.ty T, a with
  | some t, .vptr x => if x.t.beq t then .ret (put dst (.d x)) else .fail
  | some t, .ptr k v p _ => readP k v p fun b y =>
    if !y.t.beq t then .fail
    else match flds p with
      | none => .ret (put dst (.d y))
      | some q =>
        if y.t.isSl && b.own.contains q then .ret (put dst (.row k b.ver q .all))
        else if b.own.any (pre q) then .ret (.blk k (some (b.frozen q)) :: put dst (.d y))
        else .ret (put dst (.d y))
  | _, _ => .fail
def Blk.cut (b : Blk U) (q : List Nat) (x : U.D) (own : List (List Nat)) : Blk U :=
  { b with x := x, own := own ++ b.own.filter (fun o => !pre q o), dead := b.dead.filter (fun o => !pre q o), ver := b.ver + 1 }
def Blk.moved (b : Blk U) (q : List Nat) : Option (Blk U) :=
  some { b with own := b.own.filter (fun o => !pre q o), dead := q :: b.dead, ver := b.ver + 1 }
def wrOk (U : Univ) (own : List (List Nat)) : Ty → List Nat → Bool → List Step → Bool
  | _, _, _, [] => true
  | .st id, q, inner, .fld j :: p => match (U.tys id)[j]? with
    | some t => wrOk U own t (q ++ [j]) inner p
    | none => false
  | .arr _ e, q, _, .ix _ :: p => wrOk U own e q true p
  | .sl e, q, inner, .ix _ :: p => !inner && own.contains q && wrOk U own e q true p
  | _, _, _, _ => false
def plainF {α : Type} (t : Ty) (v : AV U) (K : U.D → Option (Nat × Blk U) → Rd U α) : Rd U α :=
  match v with
  | .row k ver q w => rowOf k ver q fun b x => match win x w with
    | some y => if y.t.beq t then (if b.own.any (pre q) then K y (some (k, b.frozen q)) else K y none) else .fail
    | none => .fail
  | v => plainOf t v fun x => K x none
def deadAhead (b : Blk U) (q : List Nat) : Bool := b.dead.any fun o => pre o q && !pre q o
def storeF (k : Nat) (b : Blk U) (p : List Step) (q : List Nat) (t : Ty) (x : AV U) : Out U :=
  match x with
  | .d y => if y.t.beq t then setP p b.x y fun z => .ret [.blk k (some (b.cut q z []))] else .fail
  | .cagg cs => plainOf t (.cagg cs) fun y => setP p b.x y fun z => .ret [.blk k (some (b.cut q z ((slP U deep t).map (q ++ ·))))]
  | .dz y nils => if y.t.beq t then setP p b.x y fun z => .ret [.blk k (some (b.cut q z (nils.map (q ++ ·))))] else .fail
  | .nilsl => match t with
    | .sl e => setP p b.x ⟨.sl e, []⟩ fun z => .ret [.blk k (some (b.cut q z [q]))]
    | _ => .fail
  | .row k' v' q' w => rowOf k' v' q' fun b' y => match win y w with
    | some y' =>
      if !y'.t.beq t then .fail
      else setP p b.x y' fun z =>
        if b'.own.contains q' && w.head then
          if k' == k then (if q' == q then .ret [.blk k (some (b.cut q z [q]))] else .fail)
          else .ret [.blk k' (b'.moved q'), .blk k (some (b.cut q z [q]))]
        else if k' == k then .fail
        else if b'.own.contains q' then .fail
        else .ret [.blk k (some (b.cut q z []))]
    | none => .fail
  | _ => .fail
def storeI (U : Univ) (k v : Nat) (b : Blk U) (p : List Step) (t : Ty) (x : AV U) : Out U :=
  plainF t x fun y f => if b.fit v p && wrOk U b.own b.x.t [] false p then setP p b.x y fun z => match f with
    | none => .ret [.blk k (some { b with x := z })]
    | some (j, c) => if j == k then .fail else .ret [.blk j (some c), .blk k (some { b with x := z })]
    else .fail
def opStore (G : Ctx U) (T : TypeId) (a x : AV U) : Out U :=
  match G.ty T, a with
  | some t, .ptr k v p _ => .blk k fun
    | none => .fail
    | some b =>
      if hasIx p && !(v == b.ver) then .fail
      else match flds p with
        | none => storeI U k v b p t x
        | some q => if deadAhead b q || !b.mem then .fail else storeF k b p q t x
  | _, _ => .fail
def opFieldAddr (G : Ctx U) (T : TypeId) (a : AV U) (j : Nat) : Rd U (AV U) :=
  match G.ty T, a with
  | some (.st i), .ptr k v p (.st id) => if i == id then (match (U.tys id)[j]? with
    | some t => .ret (.ptr k v (p ++ [.fld j]) t)
    | none => .fail) else .fail
  | some (.st i), .vptr ⟨.st id, x⟩ => if i == id then (match (U.get id x)[j]? with
    | some y => .ret (.vptr y)
    | none => .fail) else .fail
  | _, _ => .fail
def opField (G : Ctx U) (T : TypeId) (a : AV U) (j : Nat) : Rd U (AV U) :=
  match G.ty T, a with
  | some (.st i), .dz ⟨.st id, x⟩ _ => if i == id then (match (U.get id x)[j]? with
    | some y => .ret (.d y)
    | none => .fail) else .fail
  | some (.st i), .d ⟨.st id, x⟩ => if i == id then (match (U.get id x)[j]? with
    | some y => .ret (.d y)
    | none => .fail) else .fail
  | _, _ => .fail
def opIndexAddr (G : Ctx U) (T : TypeId) (a i : AV U) : Rd U (AV U) :=
  intOf i fun _ i =>
  match G.ty T, a with
  | some (.sl e), .d ⟨.sl e', l⟩ => if e.beq e' then .opt (idx l i) fun x => .ret (.vptr ⟨e', x⟩) else .fail
  | some (.sl e), .row k v q w => rowOf k v q fun _ x => match x with
    | ⟨.sl e', l⟩ => if e.beq e' then (match w with
      | .all => .chk (0 ≤ i ∧ i < (l.length : Int)) inferInstance (.ret (.ptr k v (q.map .fld ++ [.ix i]) e))
      | .pre n => .chk (0 ≤ i ∧ i < n) inferInstance (.ret (.ptr k v (q.map .fld ++ [.ix i]) e))
      | .full n => .chk (0 ≤ i ∧ i < n) inferInstance (.ret (.ptr k v (q.map .fld ++ [.ix i]) e))
      | .mid o n => .chk (0 ≤ i ∧ i < n) inferInstance (.ret (.ptr k v (q.map .fld ++ [.ix (o + i)]) e))) else .fail
    | _ => .fail
  | some (.arr n e), .vptr ⟨.arr m e', l⟩ => if n == m && e.beq e' then .opt (idx l i) fun x => .ret (.vptr ⟨e', x⟩) else .fail
  | some (.arr n e), .ptr k v p (.arr m e') => if n == m && e.beq e' then .chk (0 ≤ i ∧ i < (n : Int)) inferInstance (.ret (.ptr k v (p ++ [.ix i]) e)) else .fail
  | _, _ => .fail
def opIndex (G : Ctx U) (T : TypeId) (a i : AV U) : Rd U (AV U) :=
  intOf i fun _ i =>
  match G.ty T, a with
  | some (.arr n e), .d ⟨.arr m e', l⟩ => if n == m && e.beq e' then .opt (idx l i) fun x => .ret (.d ⟨e', x⟩) else .fail
  | some .str, .d ⟨.str, s⟩ => .opt (idx s.data.toList i) fun x => .ret (.d ⟨.int .u8, (x.toNat : Int)⟩)
  | _, _ => .fail
def bnd {α : Type} (z : Int) (v : Option (AV U)) (K : Int → Rd U α) : Rd U α :=
  match v with
  | none => K z
  | some v => intOf v fun _ n => K n
def slOk (U : Univ) (t : Option Ty) (a : AV U) : Bool :=
  match t, a with
  | some .str, .d ⟨.str, _⟩ => true
  | some (.sl e), .d ⟨.sl e', _⟩ => e.beq e'
  | some (.sl _), .nilsl => true
  | some (.sl _), .row _ _ _ _ => true
  | _, _ => false
def sliced (x : AV U) (lo : Bool) (l h : Int) : Rd U (AV U) :=
  match x with
  | .d ⟨.str, s⟩ => .ret (.d ⟨.str, s.extract l.toNat h.toNat⟩)
  | .d ⟨.sl e, x⟩ => match lo with
    | false => .ret (.d ⟨.sl e, x.take h.toNat⟩)
    | true => .ret (.d ⟨.sl e, sub x l h⟩)
  | .nilsl => .ret .nilsl
  | .row k v q w => match lo, w with
    | false, .mid o _ => .ret (.row k v q (.mid o h))
    | false, .all => .ret (.row k v q (.pre h))
    | false, .pre _ => .ret (.row k v q (.pre h))
    | true, .mid o _ => .ret (.row k v q (.mid (o + l) (h - l)))
    | true, .all => .ret (.row k v q (.mid l (h - l)))
    | true, .pre _ => .ret (.row k v q (.mid l (h - l)))
    | _, .full _ => .fail
  | _ => .fail
def rowTy {α : Type} (t : Option Ty) (x : AV U) (K : Rd U α) : Rd U α :=
  match x, t with
  | .row k v q _, some t => rowOf k v q fun _ x => if x.t.beq t then K else .fail
  | .row _ _ _ _, none => .fail
  | _, _ => K
def opSlice0 (G : Ctx U) (T : TypeId) (a : AV U) (lo hi : Option (AV U)) : Rd U (AV U) :=
  if slOk U (G.ty T) a then
    rowTy (G.ty T) a <| lenOf a fun n => bnd 0 lo fun l => bnd n hi fun h => .chk (0 ≤ l ∧ l ≤ h ∧ h ≤ n) inferInstance (sliced a lo.isSome l h)
  else .fail
def fullOf {α : Type} (k v : Nat) (q : List Nat) (K : Int → Rd U α) : Rd U α :=
  rowOf k v q fun _ x => match x with
    | ⟨.sl _, l⟩ => K (l.length : Int)
    | _ => .fail
def opSlice (G : Ctx U) (T : TypeId) (a : AV U) (lo hi : Option (AV U)) : Rd U (AV U) :=
  match a, lo, hi with
  | .row k v q (.full n), none, some h =>
    rowTy (G.ty T) (.row k v q (.full n)) <| fullOf k v q fun c => intOf h fun _ h => .chk (h = c) inferInstance (.ret (.row k v q .all))
  | a, lo, hi => opSlice0 G T a lo hi
def appended {α : Type} (e : Ty) (x : AV U) (isStr : Bool) (K : List (e.den U.car) → Rd U α) : Rd U α :=
  match isStr with
  | true => match x with
    | .d ⟨.str, b⟩ => match (D.mk (C := U.car) (.sl (.int .u8)) (b.data.toList.map fun c => (c.toNat : Int))).as (.sl e) with
      | some l => K l
      | none => .fail
    | _ => .fail
  | false => plainOf (.sl e) x fun y => match y.as (.sl e) with
    | some l => K l
    | none => .fail
def appendTo0 (d : Nat) (e : Ty) (E : Nat) (s : AV U) (ys : List (e.den U.car)) : Out U :=
  match s with
  | .nilsl => .chk (room (ys.length * E)) inferInstance
      (fresh d <| .ret [.blk d (some (newBlk ⟨.sl e, ys⟩ false [[]])), .slot d (.row d 0 [] .all)])
  | .row k v q w => rowOf k v q fun b y => match win y w with
    | some y' =>
      match y'.as (.sl e) with
      | some l =>
        if b.own.contains q && w.head then
          .chk (room ((l.length + ys.length) * E)) inferInstance
            (fresh d <| .ret [.blk k (b.moved q), .blk d (some (newBlk ⟨.sl e, l ++ ys⟩ false [[]])), .slot d (.row d 0 [] .all)])
        else .fail
      | none => .fail
    | none => .fail
  | _ => .fail
def appendTo (d : Nat) (e : Ty) (E : Nat) (s : AV U) (ys : List (e.den U.car)) : Out U :=
  match s with
  | .row k v q (.full n) => rowOf k v q fun b y => match y.as (.sl e) with
    | some l => if b.own.contains q then
        .chk (n + (ys.length : Int) ≤ (l.length : Int)) inferInstance
          (fresh d <| .ret [.blk k (b.moved q), .blk d (some (newBlk ⟨.sl e, l.take n.toNat ++ ys ++ l.drop (n + (ys.length : Int)).toNat⟩ false [[]])), .slot d (.row d 0 [] (.full (n + (ys.length : Int))))])
      else .fail
    | none => .fail
  | s => appendTo0 d e E s ys
def opAppend (dst : Option Nat) (ft : Ty) (E : Nat) (s x : AV U) (isStr : Bool) : Out U :=
  match dst, ft with
  | some d, .sl e => appended e x isStr (appendTo d e E s)
  | _, _ => .fail
def isFull (G : Ctx U) (dst : Option Nat) : Bool :=
  match dst with
  | some d => G.full d
  | none => false
def madeRow (full : Bool) (dst : Option Nat) (e : Ty) (x : e.den U.car) (n c : Int) : Out U :=
  match full with
  | true => (match dst with
    | some d => fresh d <| .ret [.blk d (some (newBlk ⟨.sl e, List.replicate c.toNat x⟩ false [[]])), .slot d (.row d 0 [] (.full n))]
    | none => .fail)
  | false => newRow dst ⟨.sl e, List.replicate n.toNat x⟩
def opMake (G : Ctx U) (dst : Option Nat) (T : TypeId) (E : Nat) (n c : AV U) : Out U :=
  match G.ty T with
  | some (.sl e) => intOf n fun _ n => intOf c fun _ c =>
    match zeroD U deep e with
    | some z => match z.as e with
      | some x => .chk (0 ≤ n ∧ n ≤ c ∧ room (c.toNat * E)) inferInstance (madeRow (isFull G dst) dst e x n c)
      | none => .fail
    | none => .fail
  | _ => .fail
def lessB : List UInt8 → List UInt8 → Bool
  | _, [] => false
  | [], _ :: _ => true
  | a :: x, b :: y => decide (a < b) || (a == b && lessB x y)
def intBin (op : BinOp) (k : IntKind) (a b : Int) : Rd U (AV U) :=
  match op with
  | .add => .ret (.d ⟨.int k, k.wrap (a + b)⟩)
  | .sub => .ret (.d ⟨.int k, k.wrap (a - b)⟩)
  | .mul => .ret (.d ⟨.int k, k.wrap (a * b)⟩)
  | .quo => .chk (¬ b = 0) inferInstance (.ret (.d ⟨.int k, k.wrap (a.tdiv b)⟩))
  | .rem => .chk (¬ b = 0) inferInstance (.ret (.d ⟨.int k, a.tmod b⟩))
  | .and => .ret (.d ⟨.int k, k.wrap ((BitVec.ofInt k.bits a &&& BitVec.ofInt k.bits b).toNat)⟩)
  | .or => .ret (.d ⟨.int k, k.wrap ((BitVec.ofInt k.bits a ||| BitVec.ofInt k.bits b).toNat)⟩)
  | .xor => .ret (.d ⟨.int k, k.wrap ((BitVec.ofInt k.bits a ^^^ BitVec.ofInt k.bits b).toNat)⟩)
  | .andNot => .ret (.d ⟨.int k, k.wrap ((BitVec.ofInt k.bits a &&& ~~~BitVec.ofInt k.bits b).toNat)⟩)
  | .eql => .ret (.d ⟨.bool, a == b⟩)
  | .neq => .ret (.d ⟨.bool, a != b⟩)
  | .lss => .ret (.d ⟨.bool, decide (a < b)⟩)
  | .leq => .ret (.d ⟨.bool, decide (a ≤ b)⟩)
  | .gtr => .ret (.d ⟨.bool, decide (a > b)⟩)
  | .geq => .ret (.d ⟨.bool, decide (a ≥ b)⟩)
  | _ => .fail
def eqTy (U : Univ) : Nat → Ty → Bool
  | 0, _ => false
  | n + 1, t => match t with
    | .int _ | .bool | .str => true
    | .st id => (U.tys id).all (eqTy U n)
    | _ => false
mutual
def eqD (U : Univ) : Nat → U.D → U.D → Option Bool
  | 0, _, _ => none
  | n + 1, x, y => match x, y with
    | ⟨.int _, a⟩, ⟨.int _, b⟩ => some (a == b)
    | ⟨.bool, a⟩, ⟨.bool, b⟩ => some (a == b)
    | ⟨.str, a⟩, ⟨.str, b⟩ => some (a.data.toList == b.data.toList)
    | ⟨.st i, a⟩, ⟨.st j, b⟩ => eqDs U n (U.get i a) (U.get j b)
    | _, _ => none
def eqDs (U : Univ) : Nat → List U.D → List U.D → Option Bool
  | _, [], [] => some true
  | 0, _, _ => none
  | n + 1, x :: xs, y :: ys => match eqD U n x y, eqDs U n xs ys with
    | some a, some b => some (a && b)
    | _, _ => none
  | _, _, _ => none
end
def eqSt (G : Ctx U) (op : BinOp) (T : TypeId) (x y : U.D) : Rd U (AV U) :=
  match G.ty T with
  | none => .fail
  | some t =>
    if x.t.beq y.t && t.beq x.t && eqTy U deep x.t then
      match eqD U 24 x y, op with
      | some r, .eql => .ret (.d ⟨.bool, r⟩)
      | some r, .neq => .ret (.d ⟨.bool, !r⟩)
      | _, _ => .fail
    else .fail
def opBin (G : Ctx U) (op : BinOp) (T : TypeId) (x y : AV U) : Rd U (AV U) :=
  match x, y with
  | .d ⟨.int k, a⟩, .d ⟨.int j, b⟩ =>
    match op with
    | .shl => .chk (0 ≤ b) inferInstance (.ret (.d ⟨.int k, k.wrap (a * 2 ^ min b.toNat k.bits)⟩))
    | .shr => .chk (0 ≤ b) inferInstance (.ret (.d ⟨.int k, a.fdiv (2 ^ min b.toNat k.bits)⟩))
    | _ => if decide (k = j) then intBin op k a b else .fail
  | .d ⟨.bool, a⟩, .d ⟨.bool, b⟩ =>
    match op, G.ty T with
    | .eql, some .bool => .ret (.d ⟨.bool, a == b⟩)
    | .neq, some .bool => .ret (.d ⟨.bool, !(a == b)⟩)
    | _, _ => .fail
  | .d ⟨.str, a⟩, .d ⟨.str, b⟩ =>
    match op with
    | .add => .chk (room (a.size + b.size)) inferInstance (.ret (.d ⟨.str, a ++ b⟩))
    | .eql => .ret (.d ⟨.bool, a.data.toList == b.data.toList⟩)
    | .neq => .ret (.d ⟨.bool, !(a.data.toList == b.data.toList)⟩)
    | .lss => .ret (.d ⟨.bool, lessB a.data.toList b.data.toList⟩)
    | .leq => .ret (.d ⟨.bool, lessB a.data.toList b.data.toList || a.data.toList == b.data.toList⟩)
    | .gtr => .ret (.d ⟨.bool, !(lessB a.data.toList b.data.toList || a.data.toList == b.data.toList)⟩)
    | .geq => .ret (.d ⟨.bool, !(lessB a.data.toList b.data.toList)⟩)
    | _ => .fail
  | .d x, .d y => eqSt G op T x y
  | _, _ => .fail
def opUn (op : UnOp) (x : AV U) : Rd U (AV U) :=
  match op, x with
  | .not, .d ⟨.bool, b⟩ => .ret (.d ⟨.bool, !b⟩)
  | .neg, .d ⟨.int k, n⟩ => .ret (.d ⟨.int k, k.wrap (0 - n)⟩)
  | .xor, .d ⟨.int k, n⟩ => intBin .xor k (if k.signed then -1 else k.max) n
  | _, _ => .fail
def toBytes (l : List Int) : ByteArray := ⟨(l.map fun n => UInt8.ofNat n.toNat).toArray⟩
def opConvert (G : Ctx U) (dst : Option Nat) (T0 T : TypeId) (x : AV U) : Out U :=
  match G.ty T0 with
  | none => .fail
  | some t0 =>
  match G.ty T, x with
  | some (.int k), .d ⟨.int _, n⟩ => .ret (put dst (.d ⟨.int k, k.wrap n⟩))
  | some .str, .d ⟨.str, s⟩ => .ret (put dst (.d ⟨.str, s⟩))
  | some .str, v => if !t0.beq (.sl (.int .u8)) then .fail else plainOf (.sl (.int .u8)) v fun y => match y.as (.sl (.int .u8)) with
    | some l => .ret (put dst (.d ⟨.str, toBytes l⟩))
    | none => .fail
  | some (.sl (.int .u8)), .d ⟨.str, s⟩ => .ret (put dst (.d ⟨.sl (.int .u8), s.data.toList.map fun c => (c.toNat : Int)⟩))
  | _, _ => .fail
def fillD (ds : List U.D) : List (Nat × U.D) → Option (List U.D)
  | [] => some ds
  | (i, x) :: r => match ds[i]? with
    | some z => if x.t.beq z.t then fillD (ds.set i x) r else none
    | none => none
def plains {α : Type} (ts : Nat → Option Ty) : List (Nat × Operand) → (List (Nat × U.D) → List (Nat × Blk U) → Rd U α) → Rd U α
  | [], K => K [] []
  | (i, o) :: r, K => (opd o).bind fun v => match ts i with
    | some t => plainF t v fun x f => plains ts r fun l fs => match f with
      | none => K ((i, x) :: l) fs
      | some (k, b) => if fs.any fun y => y.1 == k then .fail else K ((i, x) :: l) ((k, b) :: fs)
    | none => .fail
def frz (fs : List (Nat × Blk U)) : List (Upd U) := fs.map fun y => .blk y.1 (some y.2)
def fillL {α : Type} (l : List α) : List (Nat × α) → Option (List α)
  | [] => some l
  | (i, x) :: r => if decide (i < l.length) then fillL (l.set i x) r else none
def asAll (e : Ty) : List (Nat × U.D) → Option (List (Nat × e.den U.car))
  | [] => some []
  | (i, x) :: r => match x.as e, asAll e r with
    | some y, some l => some ((i, y) :: l)
    | _, _ => none
def opBuild (G : Ctx U) (dst : Option Nat) (T : TypeId) (ps : List (Nat × Operand)) : Out U :=
  match G.ty T with
  | some (.st id) => match U.zero id with
    | some z => plains (fun i => (U.tys id)[i]?) ps fun l fs => match fillD (U.get id z) l with
      | some ds => match U.put id ds with
        | some x => .ret (frz fs ++ put dst (match (slP U deep (.st id)).filter (fun q => !(ps.any fun p => pre [p.1] q)) with
          | [] => .d ⟨.st id, x⟩
          | nils => .dz ⟨.st id, x⟩ nils))
        | none => .fail
      | none => .fail
    | none => .fail
  | some (.arr n e) => match zeroD U deep (.arr n e) with
    | some z => plains (fun _ => some e) ps fun l fs => match z.as (.arr n e), asAll e l with
      | some zl, some l' => match fillL zl l' with
        | some r => .ret (frz fs ++ put dst (.d ⟨.arr n e, r⟩))
        | none => .fail
      | _, _ => .fail
    | none => .fail
  | _ => .fail
def opBuildSlice (G : Ctx U) (dst : Option Nat) (T : TypeId) (n : Nat) (ps : List (Nat × Operand)) : Out U :=
  match G.ty T, G.bytes T with
  | some (.sl e), some _ => if Nat.ble n 4096 then (match zeroD U deep e with
    | some z => match z.as e with
      | some z' => plains (fun _ => some e) ps fun l fs => match asAll e l with
        | some l' => match fillL (List.replicate n z') l' with
          | some r => newRowF dst (frz fs) ⟨.sl e, r⟩
          | none => .fail
        | none => .fail
      | none => .fail
    | none => .fail) else .fail
  | _, _ => .fail
def opAlloc (G : Ctx U) (dst : Option Nat) (T : TypeId) : Out U :=
  match dst, G.ty T with
  | some d, some t => match zeroD U deep t with
    | some z => fresh d <| .ret [.blk d (some (newBlk z true (slP U deep t))), .slot d (.ptr d 0 [] t)]
    | none => .fail
  | _, _ => .fail
def opBox (G : Ctx U) (dst : Option Nat) (T : TypeId) (v : AV U) : Out U :=
  match dst, G.ty T with
  | some d, some t => fresh d <| match v with
    | .nilsl => plainOf t v fun x => .ret [.blk d (some (newBlk x true [[]])), .slot d (.ptr d 0 [] t)]
    | .d x => if x.t.beq t then .ret [.blk d (some (newBlk x true [])), .slot d (.ptr d 0 [] t)] else .fail
    | .cagg cs => plainOf t (.cagg cs) fun x => .ret [.blk d (some (newBlk x true (slP U deep t))), .slot d (.ptr d 0 [] t)]
    | .dz x nils => if x.t.beq t then .ret [.blk d (some (newBlk x true nils)), .slot d (.ptr d 0 [] t)] else .fail
    | .row k ver q w => rowOf k ver q fun b y => match win y w with
      | some y' =>
        if !y'.t.beq t then .fail
        else if b.own.contains q && w.head then .ret [.blk k (b.moved q), .blk d (some (newBlk y' true [[]])), .slot d (.ptr d 0 [] t)]
        else if b.own.contains q then .fail
        else .ret [.blk d (some (newBlk y' true [])), .slot d (.ptr d 0 [] t)]
      | none => .fail
    | _ => .fail
  | _, _ => .fail
inductive Lent where
  | no
  | box (k : Nat)
  | row (k v : Nat) (q : List Nat)
def Lent.isRow (k : Nat) : Lent → Bool
  | .row j _ _ => j == k
  | _ => false
def argsOf {α : Type} (G : Ctx U) : List (Operand × TypeId) → (List (Arg U) → List Lent → Rd U α) → Rd U α
  | [], K => K [] []
  | (o, T) :: r, K => (opd o).bind fun v => match v with
    | .fn f => argsOf G r fun as ls => K (.fn f :: as) (.no :: ls)
    | .ptr k _ [] _ => .blk k fun
      | some b => if b.mem && b.dead.isEmpty then argsOf G r fun as ls => K (.box b.x :: as) (.box k :: ls) else .fail
      | none => .fail
    | .row k ver q w => rowOf k ver q fun _ y => match win y w with
      | some y' => argsOf G r fun as ls => K (.d y' :: as) (.row k ver q :: ls)
      | none => .fail
    | v => match G.ty T with
      | some t => plainOf t v fun x => argsOf G r fun as ls => K (.d x :: as) (.no :: ls)
      | none => .fail
def freeze (ls : List Lent) (K : List (Upd U) → Out U) : Out U :=
  match ls with
  | [] => K []
  | .row k _ q :: r => if r.any (Lent.isRow k) then freeze r K
    else .blk k fun
    | some b => freeze r fun us => K (.blk k (some (b.frozen q)) :: us)
    | none => .fail
  | _ :: r => freeze r K
def giveBack (ls : List Lent) (xs : List U.D) (os : List (List (List Nat))) (K : List (Upd U) → Out U) : Out U :=
  match ls, xs, os with
  | [], [], [] => K []
  | .box k :: r, x :: xs, o :: os => .blk k fun
    | some b => if x.t.beq b.x.t && o.all b.own.contains then giveBack r xs os fun us => K (.blk k (some { b with x := x, own := o, ver := b.ver + 1 }) :: us) else .fail
    | none => .fail
  | .no :: r, xs, os => giveBack r xs os K
  | .row _ _ _ :: r, xs, os => giveBack r xs os K
  | _, _, _ => .fail
def distinct : List Lent → Bool
  | [] => true
  | .box k :: r => (r.all fun | .box j => !(j == k) | .row j _ _ => !(j == k) | .no => true) && distinct r
  | .row k _ _ :: r => (r.all fun | .box j => !(j == k) | _ => true) && distinct r
  | .no :: r => distinct r
def rowsOk : List Lent → Bool
  | [] => true
  | .row k _ q :: r => (r.all fun | .row j _ o => !(j == k) || o == q | _ => true) && rowsOk r
  | _ :: r => rowsOk r
def RV.slices : RV U → Bool
  | .d x => hasSl U deep x.t
  | .row x => match x.t with | .sl e => hasSl U deep e | _ => true
  | .new x _ => hasSl U deep x.t
  | .nil => false
def resKey (d j : Nat) : Nat := 100000 + 100 * d + j
def resAV (d : Nat) : Nat → List (RV U) → List (AV U) × List (Upd U)
  | _, [] => ([], [])
  | j, .d x :: r => let (vs, us) := resAV d (j + 1) r; (.d x :: vs, us)
  | j, .new x own :: r => let (vs, us) := resAV d (j + 1) r; (.ptr (resKey d j) 0 [] x.t :: vs, .blk (resKey d j) (some (newBlk x true own)) :: us)
  | j, .nil :: r => let (vs, us) := resAV d (j + 1) r; (.nilp :: vs, us)
  | j, .row x :: r => let (vs, us) := resAV d (j + 1) r; (.row (resKey d j) 0 [] .all :: vs, .blk (resKey d j) (some (newBlk x false [[]])) :: us)
def freshAll {α : Type} : List (Upd U) → Rd U α → Rd U α
  | [], K => K
  | .blk k _ :: r, K => fresh k (freshAll r K)
  | _ :: r, K => freshAll r K
def afterCall (dst : Option Nat) (ls : List Lent) (R : Res U) (owns : List (List (List Nat))) : Out U :=
  (fun (K : List (Upd U) → Out U) => if rowsOk ls then (if R.vals.any RV.slices || R.boxes.any (fun x => hasSl U deep x.t) then freeze ls K else K []) else .fail) fun us1 =>
  giveBack ls R.boxes owns fun us2 =>
  match dst with
  | none => .ret (us1 ++ us2)
  | some d => match resAV d 0 R.vals with
    | ([v], us3) => freshAll us3 (.ret (us1 ++ us2 ++ us3 ++ [.slot d v]))
    | (vs, us3) => freshAll us3 (.ret (us1 ++ us2 ++ us3 ++ [.slot d (.tup vs)]))
def opCall (G : Ctx U) (dst : Option Nat) (f : FuncId) (as : List (Operand × TypeId)) : Out U :=
  argsOf G as fun xs ls =>
  if !distinct ls then .fail
  else match G.call f xs with
    | some R => .opt R.o fun r => afterCall dst ls (R.enc r) R.owns
    | none => match G.call2 f xs with
      | some R => .alt R.o (fun r => afterCall dst ls (R.enc r) R.owns) fun r => afterCall dst ls (R.enc2 r) R.owns
      | none => .fail
def opMinMax (mx : Bool) (as : List (AV U)) : Rd U (AV U) :=
  match as with
  | .d ⟨.int k, a⟩ :: r => go k a r
  | _ => .fail
 where
  go (k : IntKind) (a : Int) : List (AV U) → Rd U (AV U)
    | [] => .ret (.d ⟨.int k, a⟩)
    | .d ⟨.int j, b⟩ :: r => if decide (k = j) then go k (if mx then (if b > a then b else a) else (if b < a then b else a)) r else .fail
    | _ => .fail
def opds {α : Type} : List Operand → (List (AV U) → Rd U α) → Rd U α
  | [], K => K []
  | o :: r, K => (opd o).bind fun v => opds r fun vs => K (v :: vs)
end Go.Ev
end
section
namespace Go.Ev
variable {U : Univ}
def lenTy (G : Ctx U) : List TypeId → AV U → Bool
  | [T], v => slOk U (G.ty T) v
  | _, _ => false
def opCallB (G : Ctx U) (o : Oper) (c : Call) : Out U :=
  match c.callee with
  | .value f => (opd f).bind fun v => match v with
    | .fn f => if c.args.size == c.argTypes.size then opCall G o.dst f (c.args.toList.zip c.argTypes.toList) else .fail
    | _ => .fail
  | .builtin .len => opds c.args.toList fun vs => match vs with
    | [v] => if !lenTy G c.argTypes.toList v then .fail else lenOf v fun n => .ret (put o.dst (.d ⟨.int .i64, n⟩))
    | _ => .fail
  | .builtin .cap => opds c.args.toList fun vs => match vs with
    | [.row k v q (.full n)] => if !lenTy G c.argTypes.toList (.row k v q (.full n)) then .fail else fullOf k v q fun n => .ret (put o.dst (.d ⟨.int .i64, n⟩))
    | _ => .fail
  | .builtin .append => match c.args.toList, c.argTypes.toList with
    | [s, x], [T, T'] => match G.ty T, G.bytes T with
      | some t, some E => (opd s).bind fun s => (opd x).bind fun x => match G.ty T' with
        | some .str => opAppend o.dst t E s x true
        | some (.sl _) => opAppend o.dst t E s x false
        | _ => .fail
      | _, _ => .fail
    | _, _ => .fail
  | .builtin .max => opds c.args.toList fun vs => (opMinMax true vs).bind fun v => .ret (put o.dst v)
  | .builtin .min => opds c.args.toList fun vs => (opMinMax false vs).bind fun v => .ret (put o.dst v)
  | _ => .fail
def opRun (G : Ctx U) (o : Oper) : Out U :=
  match o.op with
  | .move x | .assign x => (opd x).bind fun v => .ret (put o.dst v)
  | .pick c a b => (opd c).bind fun c => boolOf c fun c => (opd a).bind fun a => boolOf a fun a => (opd b).bind fun b => boolOf b fun b =>
    .ret (put o.dst (.d ⟨.bool, if c = true then a else b⟩))
  | .alloc T => opAlloc G o.dst T
  | .box T v => (opd v).bind fun v => opBox G o.dst T v
  | .build T ps => opBuild G o.dst T ps.toList
  | .buildSlice T n ps => opBuildSlice G o.dst T n ps.toList
  | .load T a => (opd a).bind fun a => opLoad G o.dst T a
  | .store T a x => if o.dst.isSome then .fail else (opd a).bind fun a => (opd x).bind fun x => opStore G T a x
  | .nilCheck x => (opd x).bind fun v => match v with
    | .ptr k v p t => .ret (put o.dst (.ptr k v p t))
    | .vptr x => .ret (put o.dst (.vptr x))
    | _ => .fail
  | .binOp op T x y _ => (opd x).bind fun x => (opd y).bind fun y => (opBin G op T x y).bind fun v => .ret (put o.dst v)
  | .unOp op _ x => (opd x).bind fun x => (opUn op x).bind fun v => .ret (put o.dst v)
  | .convert T0 T x => (opd x).bind fun x => opConvert G o.dst T0 T x
  | .makeFunc (.func f) first captured => if first.isEmpty && captured.isEmpty then .ret (put o.dst (.fn f)) else .fail
  | .makeSlice T n c => match G.bytes T with
    | some E => (opd n).bind fun n => (opd c).bind fun c => opMake G o.dst T E n c
    | none => .fail
  | .slice T x lo hi none => (opd x).bind fun x =>
    (match lo with | some l => (opd l).bind fun v => .ret (some v) | none => .ret none : Rd U (Option (AV U))).bind fun lo =>
    (match hi with | some h => (opd h).bind fun v => .ret (some v) | none => .ret none : Rd U (Option (AV U))).bind fun hi =>
    (opSlice G T x lo hi).bind fun v => .ret (put o.dst v)
  | .fieldAddr T x j => (opd x).bind fun x => (opFieldAddr G T x j).bind fun v => .ret (put o.dst v)
  | .field T x j => (opd x).bind fun x => (opField G T x j).bind fun v => .ret (put o.dst v)
  | .indexAddr T x i => (opd x).bind fun x => (opd i).bind fun i => (opIndexAddr G T x i).bind fun v => .ret (put o.dst v)
  | .index T x i => (opd x).bind fun x => (opd i).bind fun i => (opIndex G T x i).bind fun v => .ret (put o.dst v)
  | .extract x j => (opd x).bind fun x => match x with
    | .tup vs => match vs[j]? with
      | some v => .ret (put o.dst v)
      | none => .fail
    | _ => .fail
  | .call c => opCallB G o c
  | _ => .fail
def still (σ : St U) (d : Option Nat) : List (Upd U) → Bool
  | [] => true
  | .slot n _ :: r => d == some n && still σ d r
  | .blk k _ :: r => (σ.blk k).isNone && still σ d r
def inCtx (g : List (Nat × Bool)) (o : Oper) : Bool :=
  match o.guard with
  | none => true
  | some p => g.contains p
def dstOf (all : List Oper) (j : Nat) : Option Nat := (all[j]?).bind (·.dst)
def evB {β : Type} (σ : St U) (x : Operand) (K : Bool → Option β) : Option β :=
  ((opd x).bind fun v => boolOf v .ret).runK σ K
def told (all : List Oper) (σ : St U) (o : Oper) : Option Bool :=
  match o.guard with
  | none => some true
  | some (j, w) => match dstOf all j with
    | none => none
    | some t => match σ.slot t with
      | .d ⟨.bool, b⟩ => some (b == w)
      | .tup [] => some false
      | _ => none
def St.dst (σ : St U) (d : Option Nat) (v : AV U) : St U :=
  match d with
  | some d => σ.put (.slot d v)
  | none => σ
def skips (all : List Oper) : List Oper → St U → Option (St U)
  | [], σ => some σ
  | o :: r, σ => match told all σ o with
    | some false => skips all r (σ.dst o.dst (.tup []))
    | _ => none
def forget : List Oper → St U → St U
  | [], σ => σ
  | o :: r, σ => forget r (σ.dst o.dst .undef)
def atPick {β : Type} (all : List Oper) (σ : St U) (o : Oper) (t : Nat) (b : Bool) (k : Option β) : Option β :=
  match told all σ o with
  | some true => match σ.slot t with
    | .d ⟨.bool, c⟩ => if c = b then k else none
    | _ => none
  | _ => none
def evOps (G : Ctx U) (dup : List Nat) (all : List Oper) {β : Type} : Nat → Bool → List (Nat × Bool) → List Oper → St U → (St U → Option β) → Option β
  | 0, _, _, _, _, _ => none
  | _ + 1, _, _, [], σ, K => K σ
  | n + 1, pu, g, o :: rest, σ, K =>
    if inCtx g o then
      match told all σ o with
      | some true => (opRun G o).runK σ fun us => if !pu || still σ o.dst us then evOps G dup all n pu g rest (σ.puts us) K else none
      | _ => none
    else match o.guard with
    | none => none
    | some (j, w) =>
      match dstOf all j with
      | none => none
      | some t =>
        let grp := (o :: rest).takeWhile fun q => !inCtx g q
        match (o :: rest).dropWhile fun q => !inCtx g q with
        | ⟨some d, .pick (.tmp c) x y, ty, ps, af, gd⟩ :: rest' =>
          if c == t then
              evB σ (.tmp t) fun b =>
              if dup.contains d then
                if b = w then
                  evOps G dup all n pu ((j, w) :: g) grp (σ.put (.slot t (.d ⟨.bool, w⟩))) fun σ' => atPick all σ' ⟨some d, .pick (.tmp c) x y, ty, ps, af, gd⟩ t w (evB σ' (if w then x else y) fun r => evOps G dup all n pu g rest' (σ'.put (.slot d (.d ⟨.bool, r⟩))) K)
                else (skips all grp (σ.put (.slot t (.d ⟨.bool, !w⟩)))).bind fun σ' => atPick all σ' ⟨some d, .pick (.tmp c) x y, ty, ps, af, gd⟩ t (!w) (evB σ' (if w then y else x) fun r => evOps G dup all n pu g rest' (σ'.put (.slot d (.d ⟨.bool, r⟩))) K)
              else
                ((if b = w then
                  evOps G dup all n true ((j, w) :: g) grp (σ.put (.slot t (.d ⟨.bool, w⟩))) fun σ' => atPick all σ' ⟨some d, .pick (.tmp c) x y, ty, ps, af, gd⟩ t w (evB σ' (if w then x else y) some)
                else (skips all grp (σ.put (.slot t (.d ⟨.bool, !w⟩)))).bind fun σ' => atPick all σ' ⟨some d, .pick (.tmp c) x y, ty, ps, af, gd⟩ t (!w) (evB σ' (if w then y else x) some)) : Option Bool).bind fun r => evOps G dup all n pu g rest' ((forget grp σ).put (.slot d (.d ⟨.bool, r⟩))) K
          else none
        | _ => none
def Rd.runA {α β : Type} (σ : St U) : Rd U α → List Nat → (α → List Nat → Option β) → Option β
  | .ret a, l, K => K a l
  | .fail, _, _ => none
  | .slot n k, l, K => (k (σ.slot n)).runA σ (2 * n :: l) K
  | .blk n k, l, K => (k (σ.blk n)).runA σ ((2 * n + 1) :: l) K
  | .opt o k, l, K => o.bind fun x => (k x).runA σ l K
  | .alt o k k', l, K => o.bind fun x => x.elim (fun y => (k y).runA σ l K) fun y => (k' y).runA σ l K
  | .chk p i k, l, K => @ite _ p i (k.runA σ l K) none
def keyOf : Upd U → Nat
  | .slot n _ => 2 * n
  | .blk n _ => 2 * n + 1
structure Hs where
  i : Nat
  ask : List Nat
  wr : List Nat
  light : Bool
def overlap (a b : List Nat) : Bool := a.any b.contains
def apartHs (x y : Hs) : Bool := !overlap x.ask y.wr && !overlap y.ask x.wr && !overlap x.wr y.wr
def hsOk (A : Nat) (hs : List Hs) (x : Hs) : Bool := hs.all fun h => A.testBit h.i || apartHs x h
def lightOp (o : Oper) : Bool :=
  match o.op with
  | .move _ | .nilCheck _ | .fieldAddr _ _ _ | .indexAddr _ _ _ | .store _ _ _ => true
  | _ => false
def lateOk (G : Ctx U) (last : Bool) (o : Oper) (σ : St U) (A : Nat) (hs : List Hs) : Bool :=
  match last, o with
  | true, ⟨none, .store T (.tmp p) (.tmp v), _, _, _, none⟩ =>
    match σ.slot p, σ.slot v, G.ty T with
    | .ptr k _ q (.sl e), .row _ _ _ _, some t => t.beq (.sl e) && !hasIx q && hs.all fun h => A.testBit h.i || (h.light && !h.wr.contains (2 * p) && !h.wr.contains (2 * v) && !h.wr.contains (2 * k + 1))
    | _, _, _ => false
  | _, _ => false
def gkey (all : List Oper) (o : Oper) : List Nat :=
  match o.guard with
  | none => []
  | some (j, _) => match dstOf all j with
    | some t => [2 * t]
    | none => []
def skipsA (all : List Oper) (A : Array Nat) {β : Type} : List Hs → Nat → List Oper → St U → (List Hs → St U → Option β) → Option β
  | hs, _, [], σ, K => K hs σ
  | hs, i, o :: r, σ, K => match told all σ o, o.dst with
    | some false, some d => if hsOk (A.getD i 0) hs ⟨i, gkey all o, [2 * d], false⟩ then skipsA all A (⟨i, gkey all o, [2 * d], false⟩ :: hs) (i + 1) r (σ.put (.slot d (.tup []))) K else none
    | _, _ => none
def evDraw (G : Ctx U) (all : List Oper) (A : Array Nat) {β : Type} : Nat → List (Nat × Bool) → List Hs → Nat → List Oper → St U → (List Hs → St U → Option β) → Option β
  | 0, _, _, _, _, _, _ => none
  | _ + 1, _, hs, _, [], σ, K => K hs σ
  | n + 1, g, hs, i, o :: rest, σ, K =>
    if inCtx g o then
      match told all σ o with
      | some true => (opRun G o).runA σ (gkey all o) fun us ask =>
        if hsOk (A.getD i 0) hs ⟨i, ask, us.map keyOf, lightOp o⟩ || lateOk G (i + 1 == all.length) o σ (A.getD i 0) hs then evDraw G all A n g (⟨i, ask, us.map keyOf, lightOp o⟩ :: hs) (i + 1) rest (σ.puts us) K else none
      | _ => none
    else match o.guard with
    | none => none
    | some (j, w) =>
      match dstOf all j with
      | none => none
      | some t =>
        let grp := (o :: rest).takeWhile fun q => !inCtx g q
        match (o :: rest).dropWhile fun q => !inCtx g q with
        | ⟨some d, .pick (.tmp c) x y, ty, ps, af, gd⟩ :: rest' =>
          if c == t then
              evB σ (.tmp t) fun b =>
                if b = w then
                  evDraw G all A n ((j, w) :: g) hs i grp (σ.put (.slot t (.d ⟨.bool, w⟩))) fun hs σ' =>
                    atPick all σ' ⟨some d, .pick (.tmp c) x y, ty, ps, af, gd⟩ t w (((opd (if w then x else y)).bind fun v => boolOf v .ret).runA σ' (2 * t :: gkey all ⟨some d, .pick (.tmp c) x y, ty, ps, af, gd⟩) fun r ask =>
                      if hsOk (A.getD (i + grp.length) 0) hs ⟨i + grp.length, ask, [2 * d], false⟩ then
                        evDraw G all A n g (⟨i + grp.length, ask, [2 * d], false⟩ :: hs) (i + grp.length + 1) rest' (σ'.put (.slot d (.d ⟨.bool, r⟩))) K
                      else none)
                else
                  skipsA all A hs i grp (σ.put (.slot t (.d ⟨.bool, !w⟩))) fun hs σ' =>
                    atPick all σ' ⟨some d, .pick (.tmp c) x y, ty, ps, af, gd⟩ t (!w) (((opd (if w then y else x)).bind fun v => boolOf v .ret).runA σ' (2 * t :: gkey all ⟨some d, .pick (.tmp c) x y, ty, ps, af, gd⟩) fun r ask =>
                      if hsOk (A.getD (i + grp.length) 0) hs ⟨i + grp.length, ask, [2 * d], false⟩ then
                        evDraw G all A n g (⟨i + grp.length, ask, [2 * d], false⟩ :: hs) (i + grp.length + 1) rest' (σ'.put (.slot d (.d ⟨.bool, r⟩))) K
                      else none)
          else none
        | _ => none
def topoPass (md : Region.Mode) : Nat → List Oper → Nat → Nat
  | _, [], m => m
  | i, o :: r, m => topoPass md (i + 1) r (if o.after.all fun e => !Region.binds md e || m.testBit e.on then m ||| 2 ^ i else m)
def topoOk (md : Region.Mode) (ops : Array Oper) : Bool :=
  topoPass md 0 ops.toList (topoPass md 0 ops.toList (topoPass md 0 ops.toList 0)) + 1 == 2 ^ ops.size
inductive Ex where
  | normal | exit (id : Nat) | ret
def Tup (C : Nat → Type) : List Ty → Type
  | [] => Unit
  | [t] => t.den C
  | t :: u :: r => t.den C × Tup C (u :: r)
def decT (C : Nat → Type) : (ts : List Ty) → List (D C) → Option (Tup C ts)
  | [], [] => some ()
  | [t], [x] => x.as t
  | t :: u :: r, x :: xs => match x.as t, decT C (u :: r) xs with
    | some y, some ys => some (y, ys)
    | _, _ => none
  | _, _ => none
def encT (C : Nat → Type) : (ts : List Ty) → Tup C ts → List (D C)
  | [], _ => []
  | [t], x => [⟨t, x⟩]
  | t :: u :: r, x => ⟨t, x.1⟩ :: encT C (u :: r) x.2
inductive KT where
  | slot (n : Nat) (t : Ty)
  | vptr (n : Nat) (t : Ty)
  | ptr (n k : Nat) (p : List Nat) (t : Ty)
  | row (n : Nat) (e : Ty)
  | rowF (n : Nat) (e : Ty)
  | box (k : Nat) (t : Ty) (own : List (List Nat))
  | fn (n f : Nat)
  | win (n m : Nat) (e : Ty)
def tysOf : List KT → List Ty
  | [] => []
  | .slot _ t :: r => t :: tysOf r
  | .vptr _ t :: r => t :: tysOf r
  | .row _ e :: r => .sl e :: tysOf r
  | .rowF _ e :: r => .sl e :: .int .i64 :: tysOf r
  | .box _ t _ :: r => t :: tysOf r
  | .ptr _ _ _ _ :: r => tysOf r
  | .fn _ _ :: r => tysOf r
  | .win _ _ _ :: r => .int .i64 :: .int .i64 :: tysOf r
def build : List KT → List U.D → St U → St U
  | [], _, τ => τ
  | .slot n _ :: r, x :: xs, τ => build r xs (τ.put (.slot n (.d x)))
  | .vptr n _ :: r, x :: xs, τ => build r xs (τ.put (.slot n (.vptr x)))
  | .row n _ :: r, x :: xs, τ => build r xs ((τ.put (.slot n (.row n 0 [] .all))).put (.blk n (some (newBlk x false [[]]))))
  | .rowF n _ :: r, x :: ⟨.int _, c⟩ :: xs, τ => build r xs ((τ.put (.slot n (.row n 0 [] (.full c)))).put (.blk n (some (newBlk x false []))))
  | .box k _ own :: r, x :: xs, τ => build r xs (τ.put (.blk k (some (newBlk x true own))))
  | .ptr n k p t :: r, xs, τ => build r xs (τ.put (.slot n (.ptr k 0 (p.map .fld) t)))
  | .fn n f :: r, xs, τ => build r xs (τ.put (.slot n (.fn f)))
  | .win n m _ :: r, ⟨.int _, o⟩ :: ⟨.int _, l⟩ :: xs, τ => build r xs (τ.put (.slot n (.row m 0 [] (.mid o l))))
  | _ :: _, _, τ => τ
def fldsEq (p : List Step) (q : List Nat) : Bool :=
  match flds p with
  | some r => r == q
  | none => false
def canonD {β : Type} : St U → List KT → (List U.D → Option β) → Option β
  | _, [], K => K []
  | σ, .slot n t :: r, K => match σ.slot n with
    | .row k v q w => (plainOf t (.row k v q w) .ret).runK σ fun x => match σ.blk k with
      | some b => canonD (σ.put (.blk k (some (b.frozen q)))) r fun xs => K (x :: xs)
      | none => none
    | v => (plainOf t v .ret).runK σ fun x => canonD σ r fun xs => K (x :: xs)
  | σ, .vptr n t :: r, K => match σ.slot n with
    | .vptr x => if x.t.beq t then canonD σ r fun xs => K (x :: xs) else none
    | _ => none
  | σ, .row n e :: r, K =>
    match σ.slot n with
    | .nilsl => canonD σ r fun xs => K (⟨.sl e, []⟩ :: xs)
    | .row k v [] w => match σ.blk k with
      | some b => if !b.mem && b.own.contains [] && v == b.ver && b.x.t.beq (.sl e) && b.dead.isEmpty && w.head then
          match win b.x w with
          | some y => canonD (σ.put (.blk k none)) r fun xs => K (y :: xs)
          | none => none
        else none
      | none => none
    | _ => none
  | σ, .rowF n e :: r, K =>
    match σ.slot n with
    | .row k v [] (.full c) => match σ.blk k with
      | some b => if v == b.ver && b.x.t.beq (.sl e) && b.dead.isEmpty then
          canonD (σ.put (.blk k (some (b.frozen [])))) r fun xs => K (b.x :: ⟨.int .i64, c⟩ :: xs)
        else none
      | none => none
    | _ => none
  | σ, .box k t own :: r, K =>
    match σ.blk k with
    | some b => if b.mem && b.dead.isEmpty && b.x.t.beq t && own.all b.own.contains then canonD (σ.put (.blk k none)) r fun xs => K (b.x :: xs) else none
    | none => none
  | σ, .ptr n k p t :: r, K => match σ.slot n with
    | .ptr k' _ p' t' => if k' == k && fldsEq p' p && t'.beq t then canonD σ r K else none
    | _ => none
  | σ, .fn n f :: r, K => match σ.slot n with
    | .fn f' => if f' == f then canonD σ r K else none
    | _ => none
  | σ, .win n m e :: r, K => match σ.slot n with
    | .nilsl => canonD σ r fun xs => K (⟨.int .i64, (0 : Int)⟩ :: ⟨.int .i64, (0 : Int)⟩ :: xs)
    | .row k v [] w => match σ.slot m, σ.blk k with
      | .row k' v' [] .all, some b =>
        if k == k' && v == b.ver && v' == b.ver && !b.mem && b.x.t.beq (.sl e) && b.dead.isEmpty then
          match b.x, w with
          | ⟨.sl _, l⟩, .all => canonD σ r fun xs => K (⟨.int .i64, (0 : Int)⟩ :: ⟨.int .i64, (l.length : Int)⟩ :: xs)
          | _, .pre n => canonD σ r fun xs => K (⟨.int .i64, (0 : Int)⟩ :: ⟨.int .i64, n⟩ :: xs)
          | _, .full n => canonD σ r fun xs => K (⟨.int .i64, (0 : Int)⟩ :: ⟨.int .i64, n⟩ :: xs)
          | _, .mid o n => canonD σ r fun xs => K (⟨.int .i64, o⟩ :: ⟨.int .i64, n⟩ :: xs)
          | _, _ => none
        else none
      | _, _ => none
    | _ => none
def empty : St U := ⟨[], []⟩
abbrev Vars (U : Univ) (ks : List KT) := Tup U.car (tysOf ks)
def slotsOf : List KT → List Nat
  | [] => []
  | .slot n _ :: r => n :: slotsOf r
  | .vptr n _ :: r => n :: slotsOf r
  | .ptr n _ _ _ :: r => n :: slotsOf r
  | .row n _ :: r => n :: slotsOf r
  | .rowF n _ :: r => n :: slotsOf r
  | .fn n _ :: r => n :: slotsOf r
  | .win n _ _ :: r => n :: slotsOf r
  | .box _ _ _ :: r => slotsOf r
def blksOf : List KT → List Nat
  | [] => []
  | .row n _ :: r => n :: blksOf r
  | .rowF n _ :: r => n :: blksOf r
  | .box k _ _ :: r => k :: blksOf r
  | _ :: r => blksOf r
def boxesOf : List KT → List Nat
  | [] => []
  | .box k _ _ :: r => k :: boxesOf r
  | _ :: r => boxesOf r
def apartL : List Nat → Bool
  | [] => true
  | n :: r => !r.contains n && apartL r
def ksOk (ks : List KT) : Bool :=
  apartL (slotsOf ks) && apartL (blksOf ks) && ks.all fun
    | .ptr _ k _ _ => (boxesOf ks).contains k
    | .win _ m e => ks.any fun
      | .row n f => n == m && f.beq e
      | _ => false
    | _ => true
def canonV (σ : St U) {β : Type} (ks : List KT) (K : Vars U ks → Option β) : Option β :=
  if ksOk ks then
    canonD σ ks fun ds => match decT U.car (tysOf ks) ds with
      | some v => K v
      | none => none
  else none
def encS (ks : List KT) (v : Vars U ks) : St U := build ks (encT U.car (tysOf ks) v) empty
structure Join where
  ks : List KT
  rs : Option (List KT)
structure ELoop (U : Univ) where
  ks : List KT
  xid : Nat
  xs : List KT
  imp : Vars U ks → Option (Vars U xs)
structure ELoopR (U : Univ) where
  ks : List KT
  xid : Nat
  xs : List KT
  rs : List KT
  imp : Vars U ks → Option (Fl (Vars U xs) (Vars U rs))
structure Hint (U : Univ) where
  dup : List Nat
  loop : Nat → Option (ELoop U)
  loopR : Nat → Option (ELoopR U)
  join : Nat → Option Join
def meet {β : Type} (j : Option Join) (run : {γ : Type} → (Ex → St U → Option γ) → Option γ) (K : Ex → St U → Option β) : Option β :=
  match j with
  | none => run K
  | some ⟨ks, none⟩ => (run fun e σ => match e with
      | .normal => canonV σ ks some
      | _ => none).bind fun v => K .normal (encS ks v)
  | some ⟨ks, some rs⟩ => (run fun e σ => match e with
      | .normal => canonV σ ks fun v => some (Fl.go v)
      | .ret => canonV σ rs fun r => some (Fl.ret r)
      | .exit _ => none).bind fun (o : Fl (Vars U ks) (Vars U rs)) => match o with
      | .go v => K .normal (encS ks v)
      | .ret r => K .ret (encS rs r)
def known (σ : St U) (c : Operand) (b : Bool) : St U :=
  match c with
  | .tmp t => σ.put (.slot t (.d ⟨.bool, b⟩))
  | _ => σ
def evC (G : Ctx U) (H : Hint U) : Code → Nat → {β : Type} → St U → (Ex → St U → Option β) → Option β
  | .skip, _, _, σ, K => K .normal σ
  | .region _ ops false, _, _, σ, K => evOps G H.dup ops.toList (3 * ops.size + 3) false [] ops.toList σ (K .normal)
  | .region _ ops true, _, _, σ, K => if topoOk .any ops && topoOk .text ops && topoOk .gc ops then evDraw G ops.toList (Region.before ops) (3 * ops.size + 3) [] [] 0 ops.toList σ (fun _ σ' => K .normal σ') else none
  | .seq a b, q, _, σ, K => evC G H a (2 * q) σ fun e σ' => match e with
    | .normal => evC G H b (2 * q + 1) σ' K
    | e => K e σ'
  | .cond c x y, q, _, σ, K => evB σ c fun b =>
    meet (H.join q) (fun K' => if b = true then evC G H x (2 * q) (known σ c true) K' else evC G H y (2 * q + 1) (known σ c false) K') K
  | .block id c, q, _, σ, K =>
    meet (H.join q) (fun K' => evC G H c (2 * q) σ fun e σ' => match e with
      | .exit i => if i == id then K' .normal σ' else K' (.exit i) σ'
      | e => K' e σ') K
  | .loop _, q, _, σ, K => match H.loop q, H.loopR q with
    | some L, _ => canonV σ L.ks fun v => (L.imp v).bind fun x => K (.exit L.xid) (encS L.xs x)
    | none, some L => canonV σ L.ks fun v => (L.imp v).bind fun o => match o with
      | .go x => K (.exit L.xid) (encS L.xs x)
      | .ret r => K .ret (encS L.rs r)
    | none, none => none
  | .exit id, _, _, σ, K => K (.exit id) σ
  | .ret, _, _, σ, K => K .ret σ
  | .scope c, q, _, σ, K => evC G H c (2 * q) σ K
  | .label _, _, _, σ, K => K .normal σ
  | _, _, _, _, _ => none
def loopT (G : Ctx U) (H : Hint U) (c : Code) (q : Nat) (L : ELoop U) : Nat → Vars U L.ks → Option (Vars U L.xs)
  | 0, _ => none
  | n + 1, v => evC G H c (2 * q) (encS L.ks v) fun e σ => match e with
    | .normal => canonV σ L.ks (loopT G H c q L n)
    | .exit id => if id == L.xid then canonV σ L.xs some else none
    | .ret => none
def loopRT (G : Ctx U) (H : Hint U) (c : Code) (q : Nat) (L : ELoopR U) : Nat → Vars U L.ks → Option (Fl (Vars U L.xs) (Vars U L.rs))
  | 0, _ => none
  | n + 1, v => evC G H c (2 * q) (encS L.ks v) fun e σ => match e with
    | .normal => canonV σ L.ks (loopRT G H c q L n)
    | .exit id => if id == L.xid then canonV σ L.xs fun x => some (.go x) else none
    | .ret => canonV σ L.rs fun r => some (.ret r)
theorem loopT_eq (G : Ctx U) (H : Hint U) (c : Code) (q : Nat) (L : ELoop U) (g : Nat → Vars U L.ks → Option (Vars U L.xs)) (h0 : ∀ v, g 0 v = none)
    (hs : ∀ n v, (evC G H c (2 * q) (encS L.ks v) fun e σ => match e with
      | .normal => canonV σ L.ks (g n)
      | .exit id => if id == L.xid then canonV σ L.xs some else none
      | .ret => none) = g (n + 1) v) : ∀ n v, loopT G H c q L n v = g n v := by
  intro n
  induction n with
  | zero => intro v; rw [h0]; rfl
  | succ n ih =>
    intro v
    have e : loopT G H c q L n = g n := funext ih
    rw [← hs n v, ← e]
    rfl
theorem loopRT_eq (G : Ctx U) (H : Hint U) (c : Code) (q : Nat) (L : ELoopR U) (g : Nat → Vars U L.ks → Option (Fl (Vars U L.xs) (Vars U L.rs))) (h0 : ∀ v, g 0 v = none)
    (hs : ∀ n v, (evC G H c (2 * q) (encS L.ks v) fun e σ => match e with
      | .normal => canonV σ L.ks (g n)
      | .exit id => if id == L.xid then canonV σ L.xs fun x => some (.go x) else none
      | .ret => canonV σ L.rs fun r => some (.ret r)) = g (n + 1) v) : ∀ n v, loopRT G H c q L n v = g n v := by
  intro n
  induction n with
  | zero => intro v; rw [h0]; rfl
  | succ n ih =>
    intro v
    have e : loopRT G H c q L n = g n := funext ih
    rw [← hs n v, ← e]
    rfl
inductive RM where
  | d (t : Ty)
  | row (t : Ty)
  | new (t : Ty) (own : List (List Nat))
  | nil
def RM.tys : List RM → List Ty
  | [] => []
  | .d t :: r => t :: RM.tys r
  | .row t :: r => t :: RM.tys r
  | .new t _ :: r => t :: RM.tys r
  | .nil :: r => RM.tys r
def decL : List RM → List (RV U) → Option (List U.D)
  | [], [] => some []
  | .d t :: ms, .d x :: vs => if x.t.beq t then (match decL ms vs with | some xs => some (x :: xs) | none => none) else none
  | .row t :: ms, .row x :: vs => if x.t.beq t then (match decL ms vs with | some xs => some (x :: xs) | none => none) else none
  | .new t own :: ms, .new x own' :: vs => if x.t.beq t && own == own' then (match decL ms vs with | some xs => some (x :: xs) | none => none) else none
  | .nil :: ms, .nil :: vs => decL ms vs
  | _, _ => none
structure Sig where
  res : List RM
  boxes : List (Ty × List (List Nat))
def Sig.tys (s : Sig) : List Ty := RM.tys s.res ++ s.boxes.map (·.1)
def Sig.dec (s : Sig) (r : Res U) : Option (Tup U.car s.tys) :=
  match decL s.res r.vals with
  | some xs => decT U.car s.tys (xs ++ r.boxes)
  | none => none
def encM : List RM → List U.D → List (RV U)
  | [], _ => []
  | .d _ :: ms, x :: xs => .d x :: encM ms xs
  | .row _ :: ms, x :: xs => .row x :: encM ms xs
  | .new _ own :: ms, x :: xs => .new x own :: encM ms xs
  | .nil :: ms, xs => .nil :: encM ms xs
  | _ :: _, [] => []
def Sig.enc (s : Sig) (y : Tup U.car s.tys) : Res U :=
  ⟨encM s.res (encT U.car s.tys y), (encT U.car s.tys y).drop (RM.tys s.res).length⟩
def Sig.pres (s : Sig) (o : Option (Tup U.car s.tys)) : PRes U := ⟨Tup U.car s.tys, o, s.enc, s.boxes.map (·.2)⟩
def Sig.pres2 (s u : Sig) (o : Option (Fl (Tup U.car s.tys) (Tup U.car u.tys))) : PRes2 U := ⟨Tup U.car s.tys, Tup U.car u.tys, o, s.enc, u.enc, s.boxes.map (·.2)⟩
def start : Nat → List (Arg U) → List (List (List Nat)) → St U → St U
  | _, [], _, σ => σ
  | i, .d x :: r, os, σ => start (i + 1) r os (σ.put (.slot i (.d x)))
  | i, .fn f :: r, os, σ => start (i + 1) r os (σ.put (.slot i (.fn f)))
  | i, .box x :: r, os, σ => start (i + 1) r os.tail ((σ.put (.slot i (.ptr i 0 [] x.t))).put (.blk i (some (newBlk x true (os.headD [])))))
def boxesBack {β : Type} : Nat → List (Arg U) → List (List (List Nat)) → St U → (List U.D → Option β) → Option β
  | _, [], _, _, K => K []
  | i, .box _ :: r, os, σ, K => match σ.blk i with
    | some b => if b.mem && b.dead.isEmpty && (os.headD []).all b.own.contains then boxesBack (i + 1) r os.tail σ fun xs => K (b.x :: xs) else none
    | none => none
  | i, _ :: r, os, σ, K => boxesBack (i + 1) r os σ K
def cellTy (G : Ctx U) (T : TypeId) (u : Ty) : Bool :=
  match G.ty T with
  | some t => t.beq u
  | none => false
def resOf (G : Ctx U) {β : Type} : List ResultVar → List RM → St U → (List (RV U) → St U → Option β) → Option β
  | [], [], σ, K => K [] σ
  | .cell t T :: ts, .d u :: ms, σ, K => match σ.slot t with
    | .ptr k v p _ => if !cellTy G T u then none else (readP k v p fun _ y => if y.t.beq u then .ret y else .fail).runK σ fun x => match σ.blk k, flds p with
      | some b, some q => resOf G ts ms (σ.put (.blk k (some (b.frozen q)))) fun vs => K (.d x :: vs)
      | _, _ => none
    | _ => none
  | .tmp t :: ts, .d u :: ms, σ, K => match σ.slot t with
    | .row k v q w => (plainOf u (.row k v q w) .ret).runK σ fun x => match σ.blk k with
      | some b => resOf G ts ms (σ.put (.blk k (some (b.frozen q)))) fun vs => K (.d x :: vs)
      | none => none
    | v => (plainOf u v .ret).runK σ fun x => resOf G ts ms σ fun vs => K (.d x :: vs)
  | .tmp t :: ts, .nil :: ms, σ, K => match σ.slot t with
    | .nilp => resOf G ts ms σ fun vs => K (.nil :: vs)
    | _ => none
  | .tmp t :: ts, .new u own :: ms, σ, K => match σ.slot t with
    | .ptr k _ [] _ => match σ.blk k with
      | some b => if b.mem && b.dead.isEmpty && b.x.t.beq u && own.all b.own.contains then
          resOf G ts ms (σ.put (.blk k none)) fun vs => K (.new b.x own :: vs)
        else none
      | none => none
    | _ => none
  | .tmp t :: ts, .row u :: ms, σ, K => match σ.slot t with
    | .nilsl => (plainOf u .nilsl .ret).runK σ fun x => resOf G ts ms σ fun vs => K (.row x :: vs)
    | .row k v q w => match σ.blk k with
      | some b => if b.own.contains q && v == b.ver && w.head && b.dead.isEmpty then
          match getQ U q b.x with
          | some y0 => match win y0 w with
            | some y => if y.t.beq u then resOf G ts ms (σ.put (.blk k none)) fun vs => K (.row y :: vs) else none
            | none => none
          | none => none
        else none
      | none => none
    | _ => none
  | _, _, _, _ => none
def evFn (G : Ctx U) (H : Hint U) (s : Sig) (fn : Func) (xs : List (Arg U)) : Option (Tup U.car s.tys) :=
  match fn.body with
  | some c => evC G H c 1 (start 0 xs (s.boxes.map (·.2)) empty) fun e σ => match e with
    | .exit _ => none
    | _ => resOf G fn.results.toList s.res σ fun vs σ' => boxesBack 0 xs (s.boxes.map (·.2)) σ' fun bs => s.dec ⟨vs, bs⟩
  | none => none
def pick : List Bool → Code → Code
  | [], c => c
  | x :: p, .seq a b => pick p (if x then b else a)
  | x :: p, .cond _ a b => pick p (if x then b else a)
  | _ :: p, .block _ c => pick p c
  | _ :: p, .loop c => pick p c
  | _ :: p, .scope c => pick p c
  | _ :: _, c => c
def bodyOf (fn : Func) : Code := fn.body.getD .skip
inductive PM where
  | d (t : Ty)
  | box (t : Ty)
  | fn (f : Nat)
def ptys : List PM → List Ty
  | [] => []
  | .d t :: r => t :: ptys r
  | .box t :: r => t :: ptys r
  | .fn _ :: r => ptys r
def decP : List PM → List (Arg U) → Option (List U.D)
  | [], [] => some []
  | .d t :: r, .d x :: as => if x.t.beq t then (match decP r as with | some xs => some (x :: xs) | none => none) else none
  | .box t :: r, .box x :: as => if x.t.beq t then (match decP r as with | some xs => some (x :: xs) | none => none) else none
  | .fn f :: r, .fn g :: as => if f == g then decP r as else none
  | _, _ => none
def encP : List PM → List U.D → List (Arg U)
  | [], _ => []
  | .d _ :: r, x :: xs => .d x :: encP r xs
  | .box _ :: r, x :: xs => .box x :: encP r xs
  | .fn f :: r, xs => .fn f :: encP r xs
  | _ :: _, [] => []
def encA (ps : List PM) (v : Tup U.car (ptys ps)) : List (Arg U) := encP ps (encT U.car (ptys ps) v)
def entry (ps : List PM) (s : Sig) (f : Tup U.car (ptys ps) → Option (Tup U.car s.tys)) (as : List (Arg U)) : Option (PRes U) :=
  match decP ps as with
  | some xs => match decT U.car (ptys ps) xs with
    | some v => some (s.pres (f v))
    | none => none
  | none => none
def entry2 (ps : List PM) (s u : Sig) (f : Tup U.car (ptys ps) → Option (Fl (Tup U.car s.tys) (Tup U.car u.tys))) (as : List (Arg U)) : Option (PRes2 U) :=
  match decP ps as with
  | some xs => match decT U.car (ptys ps) xs with
    | some v => some (s.pres2 u (f v))
    | none => none
  | none => none
end Go.Ev
end
section
namespace Go.Ev
variable {U : Univ}
mutual
inductive Sz (U : Univ) : Ty → Nat → Prop
  | int {k : IntKind} : Sz U (.int k) 1
  | bool : Sz U .bool 1
  | str : Sz U .str 1
  | sl {e : Ty} : Sz U (.sl e) 1
  | arr {m : Nat} {e : Ty} {n : Nat} : Sz U e n → Sz U (.arr m e) (m * n)
  | st {id n : Nat} : SzL U (U.tys id) n → Sz U (.st id) n
inductive SzL (U : Univ) : List Ty → Nat → Prop
  | nil : SzL U [] 0
  | cons {t : Ty} {ts : List Ty} {n m : Nat} : Sz U t n → SzL U ts m → SzL U (t :: ts) (n + m)
end
mutual
theorem Sz.uniq {t : Ty} {n m : Nat} : Sz U t n → Sz U t m → n = m
  | .int, h => by cases h; rfl
  | .bool, h => by cases h; rfl
  | .str, h => by cases h; rfl
  | .sl, h => by cases h; rfl
  | .arr g, h => by cases h with | arr g' => rw [Sz.uniq g g']
  | .st g, h => by cases h with | st g' => exact SzL.uniq g g'
theorem SzL.uniq {ts : List Ty} {n m : Nat} : SzL U ts n → SzL U ts m → n = m
  | .nil, h => by cases h; rfl
  | .cons g gs, h => by cases h with | cons g' gs' => rw [Sz.uniq g g', SzL.uniq gs gs']
end
def Cells (w : World) (ad : Addr) (cs : List Value) : Prop := ∀ j v, cs[j]? = some v → w.cell? (ad.add j) = some v
def fitInt (k : IntKind) (n : Int) : Prop := k.min ≤ n ∧ n ≤ k.max
mutual
inductive Rep (U : Univ) (F : Nat → Prop) (w : World) : U.D → List Value → Prop
  | int {k : IntKind} {n : Int} : fitInt k n → Rep U F w ⟨.int k, n⟩ [.int k n]
  | bool {b : Bool} : Rep U F w ⟨.bool, b⟩ [.bool b]
  | str {s : ByteArray} : s.size ≤ maxLen → Rep U F w ⟨.str, s⟩ [.string s]
  | sl {e : Ty} {l : List (e.den U.car)} {a : Option Addr} {cap : Nat} {ad : Addr} {xs : List Value} : RepL U F w (l.map (D.mk e)) xs →
      (l ≠ [] → a = some ad ∧ ad.spot = none ∧ F ad.block ∧ Cells w ad xs) → l.length ≤ cap → cap ≤ maxLen → Rep U F w ⟨.sl e, l⟩ [.slice a l.length cap]
  | arr {m : Nat} {e : Ty} {l : List (e.den U.car)} {xs : List Value} : RepL U F w (l.map (D.mk e)) xs → l.length = m → Rep U F w ⟨.arr m e, l⟩ xs
  | st {id : Nat} {x : U.car id} {xs : List Value} : RepL U F w (U.get id x) xs → Rep U F w ⟨.st id, x⟩ xs
inductive RepL (U : Univ) (F : Nat → Prop) (w : World) : List U.D → List Value → Prop
  | nil : RepL U F w [] []
  | cons {x : U.D} {xs : List U.D} {c cs : List Value} : Rep U F w x c → RepL U F w xs cs → RepL U F w (x :: xs) (c ++ cs)
end
structure ULaw (U : Univ) : Prop where
  tys : ∀ id (x : U.car id), (U.get id x).map D.t = U.tys id
  put : ∀ id ds x, U.put id ds = some x → U.get id x = ds
  zero : ∀ id x, U.zero id = some x → ∀ d ∈ U.get id x, ∃ n, zeroD U n d.t = some d
  size : ∀ id, ∃ n, SzL U (U.tys id) n
theorem Cells.mono {w w' : World} {ad : Addr} {cs : List Value} (h : Cells w ad cs) (hb : w'.heap[ad.block]? = w.heap[ad.block]?) : Cells w' ad cs := by
  intro j v hj
  have := h j v hj
  have e : (ad.add j).block = ad.block := by unfold Addr.add; split <;> rfl
  rw [World.cell?_of_block (w := w)]
  · exact this
  · rw [e]; exact hb
mutual
theorem Rep.mono {F F' : Nat → Prop} {w w' : World} (hF : ∀ b, F b → F' b ∧ w'.heap[b]? = w.heap[b]?) : ∀ {x : U.D} {cs : List Value}, Rep U F w x cs → Rep U F' w' x cs
  | _, _, .int h => .int h
  | _, _, .bool => .bool
  | _, _, .str h => .str h
  | _, _, .sl h1 h2 h3 h4 => .sl (RepL.mono hF h1) (fun hl => let ⟨a1, a2, a3, a4⟩ := h2 hl; ⟨a1, a2, (hF _ a3).1, a4.mono (hF _ a3).2⟩) h3 h4
  | _, _, .arr h1 h2 => .arr (RepL.mono hF h1) h2
  | _, _, .st h => .st (RepL.mono hF h)
theorem RepL.mono {F F' : Nat → Prop} {w w' : World} (hF : ∀ b, F b → F' b ∧ w'.heap[b]? = w.heap[b]?) : ∀ {x : List U.D} {cs : List Value}, RepL U F w x cs → RepL U F' w' x cs
  | _, _, .nil => .nil
  | _, _, .cons h hs => .cons (Rep.mono hF h) (RepL.mono hF hs)
end
theorem SzL.map_mk {e : Ty} {n : Nat} (h : Sz U e n) : ∀ (l : List (e.den U.car)), SzL U ((l.map (D.mk e)).map D.t) (l.length * n)
  | [] => by
    simp only [List.map_nil, List.length_nil, Nat.zero_mul]
    exact .nil
  | _ :: l => by
    simp only [List.map_cons, List.length_cons, Nat.add_mul, Nat.one_mul]
    rw [Nat.add_comm]
    exact .cons h (SzL.map_mk h l)
mutual
theorem Rep.length {F : Nat → Prop} {w : World} (hU : ULaw U) : ∀ {x : U.D} {cs : List Value} {n : Nat}, Rep U F w x cs → Sz U x.t n → cs.length = n
  | _, _, _, .int _, h => by cases h; rfl
  | _, _, _, .bool, h => by cases h; rfl
  | _, _, _, .str _, h => by cases h; rfl
  | _, _, _, .sl _ _ _ _, h => by cases h; rfl
  | _, _, _, .arr (l := l) h1 h2, h => by
    cases h with
    | arr hz =>
      rw [← h2]
      exact RepL.length hU h1 (SzL.map_mk hz l)
  | _, _, _, .st (id := id) (x := x) h1, h => by
    cases h with
    | st hz => exact RepL.length hU h1 (by rw [hU.tys id x]; exact hz)
theorem RepL.length {F : Nat → Prop} {w : World} (hU : ULaw U) : ∀ {xs : List U.D} {cs : List Value} {n : Nat}, RepL U F w xs cs → SzL U (xs.map D.t) n → cs.length = n
  | _, _, _, .nil, h => by cases h; rfl
  | _, _, _, .cons h1 h2, h => by
    cases h with
    | cons ha hb =>
      rw [List.length_append, Rep.length hU h1 ha, RepL.length hU h2 hb]
end
theorem RepL.length_map {F : Nat → Prop} {w : World} (hU : ULaw U) {e : Ty} {l : List (e.den U.car)} {cs : List Value} {n : Nat} (h : RepL U F w (l.map (D.mk e)) cs) (hz : Sz U e n) : cs.length = l.length * n :=
  h.length hU (SzL.map_mk hz l)
theorem RepL.append {F : Nat → Prop} {w : World} : ∀ {xs ys : List U.D} {cs ds : List Value}, RepL U F w xs cs → RepL U F w ys ds → RepL U F w (xs ++ ys) (cs ++ ds)
  | _, _, _, _, .nil, h => h
  | _, _, _, _, .cons h hs, h2 => by
    rw [List.cons_append, List.append_assoc]
    exact .cons h (RepL.append hs h2)
theorem RepL.get {F : Nat → Prop} {w : World} : ∀ {xs : List U.D} {cs : List Value} {i : Nat} {d : U.D}, RepL U F w xs cs → xs[i]? = some d →
    ∃ c1 c c2, cs = c1 ++ (c ++ c2) ∧ RepL U F w (xs.take i) c1 ∧ Rep U F w d c ∧ RepL U F w (xs.drop (i + 1)) c2
  | _, _, _, _, .nil, h => by simp at h
  | _, _, 0, _, .cons (c := c) (cs := cs) h hs, e => by
    simp at e
    subst e
    exact ⟨[], c, cs, rfl, .nil, h, by simpa using hs⟩
  | _, _, i + 1, _, .cons (c := c) h hs, e => by
    simp at e
    obtain ⟨c1, c', c2, rfl, h1, h2, h3⟩ := RepL.get hs e
    exact ⟨c ++ c1, c', c2, by simp [List.append_assoc], .cons h h1, h2, by simpa using h3⟩
theorem RepL.sets {F : Nat → Prop} {w : World} {xs : List U.D} {i : Nat} {d d' : U.D} {c1 c c2 : List Value} (h : xs[i]? = some d) (h1 : RepL U F w (xs.take i) c1) (h2 : Rep U F w d' c) (h3 : RepL U F w (xs.drop (i + 1)) c2) :
    RepL U F w (xs.set i d') (c1 ++ (c ++ c2)) := by
  have hi : i < xs.length := by
    rcases Nat.lt_or_ge i xs.length with h' | h'
    · exact h'
    · simp [List.getElem?_eq_none h'] at h
  have e : xs.set i d' = xs.take i ++ d' :: xs.drop (i + 1) := by
    rw [List.set_eq_take_append_cons_drop, if_pos hi]
  rw [e]
  exact RepL.append h1 (.cons h2 h3)
mutual
theorem Rep.one {F : Nat → Prop} {w : World} : ∀ {x : U.D} {cs : List Value}, Rep U F w x cs → ∀ v ∈ cs, v.oneCell' = true
  | _, _, .int _, v, hv => by simp at hv; subst hv; rfl
  | _, _, .bool, v, hv => by simp at hv; subst hv; rfl
  | _, _, .str _, v, hv => by simp at hv; subst hv; rfl
  | _, _, .sl _ _ _ _, v, hv => by simp at hv; subst hv; rfl
  | _, _, .arr h1 _, v, hv => RepL.one h1 v hv
  | _, _, .st h1, v, hv => RepL.one h1 v hv
theorem RepL.one {F : Nat → Prop} {w : World} : ∀ {xs : List U.D} {cs : List Value}, RepL U F w xs cs → ∀ v ∈ cs, v.oneCell' = true
  | _, _, .nil, v, hv => by simp at hv
  | _, _, .cons h1 h2, v, hv => by
    rcases List.mem_append.1 hv with hv | hv
    · exact Rep.one h1 v hv
    · exact RepL.one h2 v hv
end
theorem RepL.offset {F : Nat → Prop} {w : World} (hU : ULaw U) {xs : List U.D} {i n : Nat} {c1 : List Value} (h : RepL U F w (xs.take i) c1) (hz : SzL U ((xs.map D.t).take i) n) : c1.length = n := by
  refine h.length hU ?_
  rw [List.map_take]
  exact hz
def subP (j : Nat) : List (List Nat) → List (List Nat)
  | [] => []
  | (a :: q) :: r => if a == j then q :: subP j r else subP j r
  | [] :: r => subP j r
theorem subP_contains (j : Nat) (q : List Nat) : ∀ l : List (List Nat), (subP j l).contains q = l.contains (j :: q)
  | [] => rfl
  | [] :: r => by
    have := subP_contains j q r
    simp only [subP, List.contains_cons, this]
    simp
  | (a :: p) :: r => by
    have := subP_contains j q r
    by_cases h : a = j
    · subst h
      simp only [subP, beq_self_eq_true, if_true, List.contains_cons, this]
      simp
    · have h' : (a == j) = false := by simpa using h
      have h2 : ((j :: q) == (a :: p)) = false := by simp; intro e; exact absurd e.symm h
      simp only [subP, h', List.contains_cons, h2, Bool.false_or, Bool.false_eq_true, if_false]
      exact this
abbrev Hdr := List Nat → Option Addr × Nat
def Ty.isSt : Ty → Bool
  | .st _ => true
  | _ => false
mutual
inductive RepO (U : Univ) (F : Nat → Prop) (w : World) : Hdr → List (List Nat) → List (List Nat) → U.D → List Value → Prop
  | dead {η : Hdr} {own dd : List (List Nat)} {x : U.D} {v : Value} : dd.contains [] = true → own.contains [] = false → x.t.isSl = true → v.oneCell' = true → RepO U F w η own dd x [v]
  | leaf {η : Hdr} {own dd : List (List Nat)} {x : U.D} {cs : List Value} : x.t.isSl = false → x.t.isSt = false → Rep U F w x cs → RepO U F w η own dd x cs
  | frz {η : Hdr} {own dd : List (List Nat)} {e : Ty} {l : List (e.den U.car)} {a : Option Addr} {cap : Nat} : own.contains [] = false → dd.contains [] = false →
      Rep U F w ⟨.sl e, l⟩ [.slice a l.length cap] → η [] = (a, cap) → RepO U F w η own dd ⟨.sl e, l⟩ [.slice a l.length cap]
  | row {η : Hdr} {own dd : List (List Nat)} {e : Ty} {l : List (e.den U.car)} {a : Option Addr} {cap tag n : Nat} {xs : List Value} : own.contains [] = true → dd.contains [] = false → Sz U e n →
      RepL U F w (l.map (D.mk e)) xs → w.ownsRow 0 tag n (.slice a l.length cap) l.length xs → η [] = (a, cap) → RepO U F w η own dd ⟨.sl e, l⟩ [.slice a l.length cap]
  | st {η : Hdr} {own dd : List (List Nat)} {id : Nat} {x : U.car id} {cs : List Value} : RepOL U F w η own dd 0 (U.get id x) cs → RepO U F w η own dd ⟨.st id, x⟩ cs
inductive RepOL (U : Univ) (F : Nat → Prop) (w : World) : Hdr → List (List Nat) → List (List Nat) → Nat → List U.D → List Value → Prop
  | nil {η : Hdr} {own dd : List (List Nat)} {j : Nat} : RepOL U F w η own dd j [] []
  | cons {η : Hdr} {own dd : List (List Nat)} {j : Nat} {x : U.D} {xs : List U.D} {c cs : List Value} : RepO U F w (fun q => η (j :: q)) (subP j own) (subP j dd) x c → RepOL U F w η own dd (j + 1) xs cs →
      RepOL U F w η own dd j (x :: xs) (c ++ cs)
end
theorem ownsRow_mono {w w' : World} {base tag n len : Nat} {a : Option Addr} {l cap : Nat} {xs : List Value} (h : w.ownsRow base tag n (.slice a l cap) len xs) (hb : ∀ ad, a = some ad → w'.heap[ad.block]? = w.heap[ad.block]?) :
    w'.ownsRow base tag n (.slice a l cap) len xs := by
  refine ⟨h.1, ?_⟩
  rcases h.2 with h2 | ⟨g, c, cur, e1, e2, e3, e4⟩
  · exact .inl h2
  · refine .inr ⟨g, c, cur, e1, e2, ?_, e4⟩
    injection e1 with e1
    rw [hb ⟨g, 0, none⟩ e1]
    exact e3
mutual
theorem RepO.mono {F F' : Nat → Prop} {w w' : World} (hF : ∀ b, F b → F' b ∧ w'.heap[b]? = w.heap[b]?) : ∀ {η : Hdr} {own dd : List (List Nat)} {x : U.D} {cs : List Value},
    (∀ q ad cap, own.contains q = true → η q = (some ad, cap) → w'.heap[ad.block]? = w.heap[ad.block]?) → RepO U F w η own dd x cs → RepO U F' w' η own dd x cs
  | _, _, _, _, _, _, .dead h1 h2 h3 h4 => .dead h1 h2 h3 h4
  | _, _, _, _, _, _, .leaf h1 h2 h3 => .leaf h1 h2 (h3.mono hF)
  | _, _, _, _, _, _, .frz h1 h2 h3 h4 => .frz h1 h2 (h3.mono hF) h4
  | _, _, _, _, _, hη, .row h1 h2 h3 h5 h6 h7 => .row h1 h2 h3 (h5.mono hF) (ownsRow_mono h6 fun ad e => hη [] ad _ h1 (h7.trans (congrArg (·, _) e))) h7
  | _, _, _, _, _, hη, .st h => .st (RepOL.mono hF hη h)
theorem RepOL.mono {F F' : Nat → Prop} {w w' : World} (hF : ∀ b, F b → F' b ∧ w'.heap[b]? = w.heap[b]?) : ∀ {η : Hdr} {own dd : List (List Nat)} {j : Nat} {x : List U.D} {cs : List Value},
    (∀ q ad cap, own.contains q = true → η q = (some ad, cap) → w'.heap[ad.block]? = w.heap[ad.block]?) → RepOL U F w η own dd j x cs → RepOL U F' w' η own dd j x cs
  | _, _, _, _, _, _, _, .nil => .nil
  | _, _, _, j, _, _, hη, .cons h hs => .cons (RepO.mono hF (fun q ad cap hq e => hη (j :: q) ad cap (by rw [← subP_contains]; exact hq) e) h) (RepOL.mono hF hη hs)
end
end Go.Ev
end
section
namespace Go.Ev
variable {U : Univ}
def getV (U : Univ) : List Step → U.D → Option U.D
  | [], d => some d
  | .fld j :: p, d =>
    match d with
    | ⟨.st id, x⟩ =>
      match (U.get id x)[j]? with
      | some y => getV U p y
      | none => none
    | _ => none
  | .ix i :: p, d =>
    match d with
    | ⟨.sl e, l⟩ => (idx l i).bind fun x => getV U p ⟨e, x⟩
    | ⟨.arr _ e, l⟩ => (idx l i).bind fun x => getV U p ⟨e, x⟩
    | _ => none
theorem run_getP {α : Type} (σ : St U) : ∀ (p : List Step) (d : U.D) (K : U.D → Rd U α), (getP p d K).run σ = (getV U p d).bind fun y => (K y).run σ := by
  intro p
  induction p with
  | nil => intro d K; rfl
  | cons s p ih =>
    intro d K
    obtain ⟨t, x⟩ := d
    cases s with
    | fld j =>
      cases t <;> try rfl
      rename_i id
      simp only [getP, getV]
      cases (U.get id x)[j]? with
      | none => rfl
      | some y => exact ih y K
    | ix i =>
      cases t <;> try rfl
      · rename_i e
        simp only [getP, getV, Rd.run, Rd.runK]
        cases idx x i with
        | none => rfl
        | some y => exact ih ⟨e, y⟩ K
      · rename_i m e
        simp only [getP, getV, Rd.run, Rd.runK]
        cases idx x i with
        | none => rfl
        | some y => exact ih ⟨e, y⟩ K
def setV (U : Univ) : List Step → U.D → U.D → Option U.D
  | [], d, y => if y.t.beq d.t then some y else none
  | .fld j :: p, d, y =>
    match d with
    | ⟨.st id, x⟩ =>
      match (U.get id x)[j]? with
      | some z => (setV U p z y).bind fun z' =>
        match U.put id ((U.get id x).set j z') with
        | some x' => some ⟨.st id, x'⟩
        | none => none
      | none => none
    | _ => none
  | .ix i :: p, d, y =>
    match d with
    | ⟨.sl e, l⟩ => (idx l i).bind fun z => (setV U p ⟨e, z⟩ y).bind fun z' =>
      match z'.as e with
      | some v => some ⟨.sl e, l.set i.toNat v⟩
      | none => none
    | ⟨.arr n e, l⟩ => (idx l i).bind fun z => (setV U p ⟨e, z⟩ y).bind fun z' =>
      match z'.as e with
      | some v => some ⟨.arr n e, l.set i.toNat v⟩
      | none => none
    | _ => none
theorem run_setP {α : Type} (σ : St U) : ∀ (p : List Step) (d y : U.D) (K : U.D → Rd U α), (setP p d y K).run σ = (setV U p d y).bind fun z => (K z).run σ := by
  intro p
  induction p with
  | nil =>
    intro d y K
    simp only [setP, setV]
    split <;> rfl
  | cons s p ih =>
    intro d y K
    obtain ⟨t, x⟩ := d
    cases s with
    | fld j =>
      cases t <;> try rfl
      rename_i id
      simp only [setP, setV]
      cases (U.get id x)[j]? with
      | none => rfl
      | some z =>
        simp only [ih]
        cases setV U p z y with
        | none => rfl
        | some z' =>
          simp only [Option.bind_some]
          cases U.put id ((U.get id x).set j z') <;> rfl
    | ix i =>
      cases t <;> try rfl
      · rename_i e
        simp only [setP, setV, Rd.run, Rd.runK]
        cases idx x i with
        | none => rfl
        | some z =>
          have := ih ⟨e, z⟩ y (fun z' => match z'.as e with | some v => K ⟨.sl e, x.set i.toNat v⟩ | none => .fail)
          refine this.trans ?_
          simp only [Option.bind_some]
          cases setV U p ⟨e, z⟩ y with
          | none => rfl
          | some z' =>
            simp only [Option.bind_some]
            cases z'.as e <;> rfl
      · rename_i m e
        simp only [setP, setV, Rd.run, Rd.runK]
        cases idx x i with
        | none => rfl
        | some z =>
          have := ih ⟨e, z⟩ y (fun z' => match z'.as e with | some v => K ⟨.arr m e, x.set i.toNat v⟩ | none => .fail)
          refine this.trans ?_
          simp only [Option.bind_some]
          cases setV U p ⟨e, z⟩ y with
          | none => rfl
          | some z' =>
            simp only [Option.bind_some]
            cases z'.as e <;> rfl
inductive At (U : Univ) : Ty → List Step → Nat → Ty → Prop
  | nil {t : Ty} : At U t [] 0 t
  | fld {id j o o' : Nat} {u t' : Ty} {p : List Step} : (U.tys id)[j]? = some u → SzL U ((U.tys id).take j) o → At U u p o' t' → At U (.st id) (.fld j :: p) (o + o') t'
  | ix {m n o' : Nat} {e t' : Ty} {i : Int} {p : List Step} : 0 ≤ i → i < m → Sz U e n → At U e p o' t' → At U (.arr m e) (.ix i :: p) (i.toNat * n + o') t'
theorem At.nil_inv {t t' : Ty} {o : Nat} (h : At U t [] o t') : o = 0 ∧ t' = t := by
  cases h
  exact ⟨rfl, rfl⟩
theorem idx_some {α : Type} {l : List α} {i : Int} {x : α} (h : idx l i = some x) : 0 ≤ i ∧ l[i.toNat]? = some x := by
  unfold idx at h
  split at h
  · exact ⟨by assumption, h⟩
  · cases h
theorem Rep.at {F : Nat → Prop} {w : World} (hU : ULaw U) : ∀ {p : List Step} {x y : U.D} {o : Nat} {t' : Ty} {cs : List Value}, At U x.t p o t' → Rep U F w x cs → getV U p x = some y →
    y.t = t' ∧ ∃ c1 c c2, cs = c1 ++ (c ++ c2) ∧ c1.length = o ∧ Rep U F w y c := by
  intro p
  induction p with
  | nil =>
    intro x y o t' cs ha hr hg
    simp only [getV, Option.some.injEq] at hg
    subst hg
    obtain ⟨rfl, rfl⟩ := ha.nil_inv
    exact ⟨rfl, [], cs, [], by simp, rfl, hr⟩
  | cons s p ih =>
    intro x y o t' cs ha hr hg
    obtain ⟨t, x⟩ := x
    change At U t (s :: p) o t' at ha
    cases ha with
    | fld h1 h2 h3 =>
      rename_i id j o o' u
      simp only [getV] at hg
      cases hr with
      | st hr =>
        cases hj : (U.get id x)[j]? with
        | none => simp [hj] at hg
        | some z =>
          simp only [hj] at hg
          have hz : z.t = u := by
            have e := hU.tys id x
            have : ((U.get id x).map D.t)[j]? = some z.t := by simp [hj]
            rw [e, h1] at this
            simpa using this.symm
          obtain ⟨c1, c, c2, rfl, g1, g2, g3⟩ := hr.get hj
          have hl : c1.length = o := g1.offset hU (by rw [hU.tys id x]; exact h2)
          obtain ⟨e1, d1, d, d2, rfl, e2, e3⟩ := ih (by rw [hz]; exact h3) g2 hg
          exact ⟨e1, c1 ++ d1, d, d2 ++ c2, by simp [List.append_assoc], by simp [hl, e2], e3⟩
    | ix h1 h2 h3 h4 =>
      rename_i m n o' e i
      simp only [getV] at hg
      cases hr with
      | arr hr hm =>
        cases hj : idx x i with
        | none => simp [hj] at hg
        | some z =>
          simp only [hj, Option.bind_some] at hg
          obtain ⟨_, hi⟩ := idx_some hj
          have hi' : (x.map (D.mk e) : List U.D)[i.toNat]? = some ⟨e, z⟩ := by simp [hi]
          obtain ⟨c1, c, c2, rfl, g1, g2, g3⟩ := hr.get hi'
          have hl : c1.length = i.toNat * n := by
            rw [← List.map_take] at g1
            have := g1.length_map hU h3
            rw [this, List.length_take]
            congr 1
            have : i.toNat < x.length := by
              rcases Nat.lt_or_ge i.toNat x.length with h' | h'
              · exact h'
              · simp [List.getElem?_eq_none h'] at hi
            omega
          obtain ⟨e1, d1, d, d2, rfl, e2, e3⟩ := ih h4 g2 hg
          exact ⟨e1, c1 ++ d1, d, d2 ++ c2, by simp [List.append_assoc], by simp [hl, e2], e3⟩
theorem getElem?_lt {α : Type} {l : List α} {i : Nat} {x : α} (h : l[i]? = some x) : i < l.length := by
  rcases Nat.lt_or_ge i l.length with h' | h'
  · exact h'
  · simp [List.getElem?_eq_none h'] at h
theorem Rep.put {F : Nat → Prop} {w : World} (hU : ULaw U) : ∀ {p : List Step} {x y' x' : U.D} {o n : Nat} {t' : Ty} {cs : List Value}, At U x.t p o t' → Sz U t' n → Rep U F w x cs → setV U p x y' = some x' →
    x'.t = x.t ∧ y'.t = t' ∧ ∃ c1 c c2, cs = c1 ++ (c ++ c2) ∧ c1.length = o ∧ c.length = n ∧ ∀ c', Rep U F w y' c' → Rep U F w x' (c1 ++ (c' ++ c2)) := by
  intro p
  induction p with
  | nil =>
    intro x y' x' o n t' cs ha hz hr hg
    simp only [setV] at hg
    split at hg
    · rename_i hb
      have ht := Ty.beq_eq hb
      simp only [Option.some.injEq] at hg
      subst hg
      obtain ⟨rfl, rfl⟩ := ha.nil_inv
      exact ⟨ht, ht, [], cs, [], by simp, rfl, hr.length hU hz, fun c' h => by simpa using h⟩
    · cases hg
  | cons s p ih =>
    intro x y' x' o n t' cs ha hz hr hg
    obtain ⟨t, x⟩ := x
    change At U t (s :: p) o t' at ha
    cases ha with
    | fld h1 h2 h3 =>
      rename_i id j o o' u
      simp only [setV] at hg
      cases hr with
      | st hr =>
        cases hj : (U.get id x)[j]? with
        | none => simp [hj] at hg
        | some z =>
          simp only [hj] at hg
          cases hs : setV U p z y' with
          | none => simp [hs] at hg
          | some z' =>
            simp only [hs, Option.bind_some] at hg
            cases hp : U.put id ((U.get id x).set j z') with
            | none => simp [hp] at hg
            | some x2 =>
              simp only [hp, Option.some.injEq] at hg
              subst hg
              have hzt : z.t = u := by
                have e := hU.tys id x
                have : ((U.get id x).map D.t)[j]? = some z.t := by simp [hj]
                rw [e, h1] at this
                simpa using this.symm
              obtain ⟨c1, c, c2, rfl, g1, g2, g3⟩ := hr.get hj
              have hl : c1.length = o := g1.offset hU (by rw [hU.tys id x]; exact h2)
              obtain ⟨e0, e1, d1, d, d2, rfl, e2, e3, e4⟩ := ih (by rw [hzt]; exact h3) hz g2 hs
              refine ⟨rfl, e1, c1 ++ d1, d, d2 ++ c2, by simp [List.append_assoc], by simp [hl, e2], e3, fun c' hc => .st ?_⟩
              rw [hU.put id _ _ hp]
              have := RepL.sets hj g1 (e4 c' hc) g3
              simpa [List.append_assoc] using this
    | ix h1 h2 h3 h4 =>
      rename_i m k o' e i
      simp only [setV] at hg
      cases hr with
      | arr hr hm =>
        cases hj : idx x i with
        | none => simp [hj] at hg
        | some z =>
          simp only [hj, Option.bind_some] at hg
          obtain ⟨_, hi⟩ := idx_some hj
          cases hs : setV U p ⟨e, z⟩ y' with
          | none => simp [hs] at hg
          | some z' =>
            simp only [hs, Option.bind_some] at hg
            cases hv : z'.as e with
            | none => simp [hv] at hg
            | some v =>
              simp only [hv, Option.some.injEq] at hg
              subst hg
              have hz' := D.as_some hv
              subst hz'
              have hi' : (x.map (D.mk e) : List U.D)[i.toNat]? = some ⟨e, z⟩ := by simp [hi]
              obtain ⟨c1, c, c2, rfl, g1, g2, g3⟩ := hr.get hi'
              have hl : c1.length = i.toNat * k := by
                have g1' := g1
                rw [← List.map_take] at g1'
                have := g1'.length_map hU h3
                rw [this, List.length_take]
                congr 1
                have := getElem?_lt hi
                omega
              obtain ⟨e0, e1, d1, d, d2, rfl, e2, e3, e4⟩ := ih h4 hz g2 hs
              refine ⟨rfl, e1, c1 ++ d1, d, d2 ++ c2, by simp [List.append_assoc], by simp [hl, e2], e3, fun c' hc => .arr ?_ (by simpa using hm)⟩
              have := RepL.sets hi' g1 (e4 c' hc) g3
              simpa [List.append_assoc, List.map_set] using this
mutual
theorem RepO.length {F : Nat → Prop} {w : World} (hU : ULaw U) : ∀ {η : Hdr} {own dd : List (List Nat)} {x : U.D} {cs : List Value} {n : Nat}, RepO U F w η own dd x cs → Sz U x.t n → cs.length = n
  | _, _, _, x, _, _, .dead _ _ h _, hz => by
    obtain ⟨t, x⟩ := x
    change Sz U t _ at hz
    change t.isSl = true at h
    cases t <;> simp [Ty.isSl] at h
    cases hz
    rfl
  | _, _, _, _, _, _, .leaf _ _ h, hz => h.length hU hz
  | _, _, _, _, _, _, .frz _ _ _ _, hz => by cases hz; rfl
  | _, _, _, _, _, _, .row _ _ _ _ _ _, hz => by cases hz; rfl
  | _, _, _, _, _, _, .st (id := id) (x := x) h, hz => by
    cases hz with
    | st hz => exact RepOL.length hU h (by rw [hU.tys id x]; exact hz)
theorem RepOL.length {F : Nat → Prop} {w : World} (hU : ULaw U) : ∀ {η : Hdr} {own dd : List (List Nat)} {j : Nat} {xs : List U.D} {cs : List Value} {n : Nat}, RepOL U F w η own dd j xs cs → SzL U (xs.map D.t) n → cs.length = n
  | _, _, _, _, _, _, _, .nil, h => by cases h; rfl
  | _, _, _, _, _, _, _, .cons h1 h2, h => by
    cases h with
    | cons ha hb => rw [List.length_append, RepO.length hU h1 ha, RepOL.length hU h2 hb]
end
mutual
theorem RepO.one {F : Nat → Prop} {w : World} : ∀ {η : Hdr} {own dd : List (List Nat)} {x : U.D} {cs : List Value}, RepO U F w η own dd x cs → ∀ v ∈ cs, v.oneCell' = true
  | _, _, _, _, _, .dead _ _ _ h, v, hv => by simp at hv; subst hv; exact h
  | _, _, _, _, _, .leaf _ _ h, v, hv => h.one v hv
  | _, _, _, _, _, .frz _ _ h _, v, hv => h.one v hv
  | _, _, _, _, _, .row _ _ _ _ _ _, v, hv => by simp at hv; subst hv; rfl
  | _, _, _, _, _, .st h, v, hv => RepOL.one h v hv
theorem RepOL.one {F : Nat → Prop} {w : World} : ∀ {η : Hdr} {own dd : List (List Nat)} {j : Nat} {xs : List U.D} {cs : List Value}, RepOL U F w η own dd j xs cs → ∀ v ∈ cs, v.oneCell' = true
  | _, _, _, _, _, _, .nil, v, hv => by simp at hv
  | _, _, _, _, _, _, .cons h1 h2, v, hv => by
    rcases List.mem_append.1 hv with hv | hv
    · exact RepO.one h1 v hv
    · exact RepOL.one h2 v hv
end
structure Same (η η' : Hdr) (own own' dd dd' : List (List Nat)) (r : List Nat) : Prop where
  own : own'.contains r = own.contains r
  dd : dd'.contains r = dd.contains r
  hdr : η' r = η r
theorem Same.sub {η η' : Hdr} {own own' dd dd' : List (List Nat)} {j : Nat} {r : List Nat} (h : Same η η' own own' dd dd' (j :: r)) :
    Same (fun q => η (j :: q)) (fun q => η' (j :: q)) (subP j own) (subP j own') (subP j dd) (subP j dd') r :=
  ⟨by rw [subP_contains, subP_contains, h.own], by rw [subP_contains, subP_contains, h.dd], h.hdr⟩
mutual
theorem RepO.congr {F : Nat → Prop} {w : World} : ∀ {η η' : Hdr} {own own' dd dd' : List (List Nat)} {x : U.D} {cs : List Value}, (∀ r, Same η η' own own' dd dd' r) → RepO U F w η own dd x cs → RepO U F w η' own' dd' x cs
  | _, _, _, _, _, _, _, _, hs, .dead h1 h2 h3 h4 => .dead (by rw [(hs []).dd]; exact h1) (by rw [(hs []).own]; exact h2) h3 h4
  | _, _, _, _, _, _, _, _, _, .leaf h1 h2 h3 => .leaf h1 h2 h3
  | _, _, _, _, _, _, _, _, hs, .frz h1 h2 h3 h4 => .frz (by rw [(hs []).own]; exact h1) (by rw [(hs []).dd]; exact h2) h3 (by rw [(hs []).hdr]; exact h4)
  | _, _, _, _, _, _, _, _, hs, .row h1 h2 h3 h5 h6 h7 => .row (by rw [(hs []).own]; exact h1) (by rw [(hs []).dd]; exact h2) h3 h5 h6 (by rw [(hs []).hdr]; exact h7)
  | _, _, _, _, _, _, _, _, hs, .st h => .st (RepOL.congr hs h)
theorem RepOL.congr {F : Nat → Prop} {w : World} : ∀ {η η' : Hdr} {own own' dd dd' : List (List Nat)} {j : Nat} {x : List U.D} {cs : List Value}, (∀ r, Same η η' own own' dd dd' r) → RepOL U F w η own dd j x cs → RepOL U F w η' own' dd' j x cs
  | _, _, _, _, _, _, _, _, _, _, .nil => .nil
  | _, _, _, _, _, _, j, _, _, hs, .cons h h2 => .cons (RepO.congr (fun r => (hs (j :: r)).sub) h) (RepOL.congr hs h2)
end
theorem RepOL.get {F : Nat → Prop} {w : World} (hU : ULaw U) : ∀ {η : Hdr} {own dd : List (List Nat)} {j : Nat} {xs : List U.D} {cs : List Value} {i : Nat} {d : U.D}, RepOL U F w η own dd j xs cs → xs[i]? = some d →
    ∃ c1 c c2, cs = c1 ++ (c ++ c2) ∧ RepO U F w (fun q => η ((j + i) :: q)) (subP (j + i) own) (subP (j + i) dd) d c ∧ (∀ n, SzL U ((xs.map D.t).take i) n → c1.length = n) ∧
      ∀ (η' : Hdr) (own' dd' : List (List Nat)) (d' : U.D) (c' : List Value), (∀ k r, k ≠ j + i → Same η η' own own' dd dd' (k :: r)) →
        RepO U F w (fun q => η' ((j + i) :: q)) (subP (j + i) own') (subP (j + i) dd') d' c' → RepOL U F w η' own' dd' j (xs.set i d') (c1 ++ (c' ++ c2)) := by
  intro η own dd j xs
  induction xs generalizing j with
  | nil => intro cs i d h e; simp at e
  | cons x xs ih =>
    intro cs i d h e
    cases h with
    | cons h hs =>
      rename_i c cs
      cases i with
      | zero =>
        simp at e
        subst e
        refine ⟨[], c, cs, rfl, h, fun n hn => by simp at hn; cases hn; rfl, fun η' own' dd' d' c' hk h' => ?_⟩
        simp only [List.set_cons_zero, List.nil_append]
        refine .cons h' ?_
        clear h ih
        have aux : ∀ (xs : List U.D) (j' : Nat) (cs : List Value), j < j' → RepOL U F w η own dd j' xs cs → RepOL U F w η' own' dd' j' xs cs := by
          intro xs
          induction xs with
          | nil => intro j' cs _ h; cases h; exact .nil
          | cons y ys ih =>
            intro j' cs hj h
            cases h with
            | cons h1 h2 =>
              exact .cons (RepO.congr (fun r => (hk j' r (by omega)).sub) h1) (ih (j' + 1) _ (by omega) h2)
        exact aux xs (j + 1) cs (by omega) hs
      | succ i =>
        simp at e
        obtain ⟨c1, c', c2, rfl, h1, h2, h3⟩ := ih hs e
        have ej : j + 1 + i = j + (i + 1) := by omega
        rw [ej] at h1 h3
        refine ⟨c ++ c1, c', c2, by simp [List.append_assoc], h1, fun n hn => ?_, fun η' own' dd' d' c'' hk h' => ?_⟩
        · simp only [List.map_cons, List.take_succ_cons] at hn
          cases hn with
          | cons ha hb => rw [List.length_append, h.length hU ha, h2 _ hb]
        · simp only [List.set_cons_succ, List.append_assoc]
          exact .cons (RepO.congr (fun r => (hk j r (by omega)).sub) h) (h3 η' own' dd' d' c'' hk h')
def subQ : List Nat → List (List Nat) → List (List Nat)
  | [], l => l
  | j :: q, l => subQ q (subP j l)
theorem subQ_contains : ∀ (q r : List Nat) (l : List (List Nat)), (subQ q l).contains r = l.contains (q ++ r)
  | [], _, _ => rfl
  | j :: q, r, l => by
    simp only [subQ, List.cons_append]
    rw [subQ_contains q r, subP_contains]
theorem RepO.st_inv {F : Nat → Prop} {w : World} {η : Hdr} {own dd : List (List Nat)} {id : Nat} {x : U.car id} {cs : List Value} (h : RepO U F w η own dd ⟨.st id, x⟩ cs) : RepOL U F w η own dd 0 (U.get id x) cs := by
  cases h with
  | dead _ _ h3 _ => simp [Ty.isSl] at h3
  | leaf _ h2 _ => simp [Ty.isSt] at h2
  | st h => exact h
theorem RepO.arr_inv {F : Nat → Prop} {w : World} {η : Hdr} {own dd : List (List Nat)} {m : Nat} {e : Ty} {x : List (e.den U.car)} {cs : List Value} (h : RepO U F w η own dd ⟨.arr m e, x⟩ cs) : Rep U F w ⟨.arr m e, x⟩ cs := by
  cases h with
  | dead _ _ h3 _ => simp [Ty.isSl] at h3
  | leaf _ _ h => exact h
theorem RepO.at {F : Nat → Prop} {w : World} (hU : ULaw U) : ∀ {p : List Step} {η : Hdr} {own dd : List (List Nat)} {x y : U.D} {o : Nat} {t' : Ty} {cs : List Value}, At U x.t p o t' → RepO U F w η own dd x cs → getV U p x = some y →
    y.t = t' ∧ ∃ c1 c c2, cs = c1 ++ (c ++ c2) ∧ c1.length = o ∧ (∀ q, flds p = some q → RepO U F w (fun r => η (q ++ r)) (subQ q own) (subQ q dd) y c) ∧ (flds p = none → Rep U F w y c) := by
  intro p
  induction p with
  | nil =>
    intro η own dd x y o t' cs ha hr hg
    simp only [getV, Option.some.injEq] at hg
    subst hg
    obtain ⟨rfl, rfl⟩ := ha.nil_inv
    exact ⟨rfl, [], cs, [], by simp, rfl, fun q hq => by simp [flds] at hq; subst hq; exact hr, fun h => by simp [flds] at h⟩
  | cons s p ih =>
    intro η own dd x y o t' cs ha hr hg
    obtain ⟨t, x⟩ := x
    change At U t (s :: p) o t' at ha
    cases ha with
    | fld h1 h2 h3 =>
      rename_i id j o o' u
      simp only [getV] at hg
      have hr := hr.st_inv
      cases hj : (U.get id x)[j]? with
      | none => simp [hj] at hg
      | some z =>
        simp only [hj] at hg
        have hz : z.t = u := by
          have e := hU.tys id x
          have : ((U.get id x).map D.t)[j]? = some z.t := by simp [hj]
          rw [e, h1] at this
          simpa using this.symm
        obtain ⟨c1, c, c2, rfl, g1, g2, _⟩ := hr.get hU hj
        simp only [Nat.zero_add] at g1
        have hl : c1.length = o := g2 _ (by rw [hU.tys id x]; exact h2)
        obtain ⟨e1, d1, d, d2, rfl, e2, e3, e4⟩ := ih (by rw [hz]; exact h3) g1 hg
        refine ⟨e1, c1 ++ d1, d, d2 ++ c2, by simp [List.append_assoc], by simp [hl, e2], fun q hq => ?_, fun hn => e4 ?_⟩
        · simp only [flds, Option.map_eq_some_iff] at hq
          obtain ⟨q', hq', rfl⟩ := hq
          exact e3 q' hq'
        · simpa [flds] using hn
    | ix h1 h2 h3 h4 =>
      obtain ⟨e1, c1, c, c2, e2, e3, e4⟩ := Rep.at hU (At.ix h1 h2 h3 h4) hr.arr_inv hg
      exact ⟨e1, c1, c, c2, e2, e3, fun q hq => by simp [flds] at hq, fun _ => e4⟩
theorem RepO.putQ {F : Nat → Prop} {w : World} (hU : ULaw U) : ∀ {q : List Nat} {η η' : Hdr} {own own' dd dd' : List (List Nat)} {x y' x' : U.D} {o n : Nat} {t' : Ty} {cs : List Value}, At U x.t (q.map .fld) o t' → Sz U t' n →
    RepO U F w η own dd x cs → setV U (q.map .fld) x y' = some x' → (∀ r, pre q r = false → Same η η' own own' dd dd' r) →
    x'.t = x.t ∧ y'.t = t' ∧ ∃ c1 c c2, cs = c1 ++ (c ++ c2) ∧ c1.length = o ∧ c.length = n ∧ ∀ c', RepO U F w (fun r => η' (q ++ r)) (subQ q own') (subQ q dd') y' c' → RepO U F w η' own' dd' x' (c1 ++ (c' ++ c2)) := by
  intro q
  induction q with
  | nil =>
    intro η η' own own' dd dd' x y' x' o n t' cs ha hz hr hg hs
    simp only [setV, List.map_nil] at hg
    split at hg
    · rename_i hb
      have ht := Ty.beq_eq hb
      simp only [Option.some.injEq] at hg
      subst hg
      obtain ⟨rfl, rfl⟩ := ha.nil_inv
      exact ⟨ht, ht, [], cs, [], by simp, rfl, hr.length hU hz, fun c' h => by simpa [subQ] using h⟩
    · cases hg
  | cons j q ih =>
    intro η η' own own' dd dd' x y' x' o n t' cs ha hz hr hg hs
    obtain ⟨t, x⟩ := x
    change At U t (.fld j :: q.map .fld) o t' at ha
    cases ha with
    | fld h1 h2 h3 =>
      rename_i id o o' u
      simp only [setV, List.map_cons] at hg
      have hr := hr.st_inv
      cases hj : (U.get id x)[j]? with
      | none => simp [hj] at hg
      | some z =>
        simp only [hj] at hg
        cases hsv : setV U (q.map .fld) z y' with
        | none => simp [hsv] at hg
        | some z' =>
          simp only [hsv, Option.bind_some] at hg
          cases hp : U.put id ((U.get id x).set j z') with
          | none => simp [hp] at hg
          | some x2 =>
            simp only [hp, Option.some.injEq] at hg
            subst hg
            have hzt : z.t = u := by
              have e := hU.tys id x
              have : ((U.get id x).map D.t)[j]? = some z.t := by simp [hj]
              rw [e, h1] at this
              simpa using this.symm
            obtain ⟨c1, c, c2, rfl, g1, g2, g3⟩ := hr.get hU hj
            simp only [Nat.zero_add] at g1 g3
            have hl : c1.length = o := g2 _ (by rw [hU.tys id x]; exact h2)
            obtain ⟨e0, e1, d1, d, d2, rfl, e2, e3, e4⟩ := ih (η' := fun r => η' (j :: r)) (own' := subP j own') (dd' := subP j dd') (by rw [hzt]; exact h3) hz g1 hsv (fun r hr => (hs (j :: r) (by simp [pre, hr])).sub)
            refine ⟨rfl, e1, c1 ++ d1, d, d2 ++ c2, by simp [List.append_assoc], by simp [hl, e2], e3, fun c' hc => .st ?_⟩
            rw [hU.put id _ _ hp]
            have := g3 η' own' dd' z' _ (fun k r hk => hs (k :: r) (by
              have hjk : (j == k) = false := by
                simp only [beq_eq_false_iff_ne, ne_eq]
                exact fun e => hk e.symm
              simp [pre, hjk])) (e4 c' hc)
            simpa [List.append_assoc] using this
end Go.Ev
end
section
namespace Go.Ev
variable {U : Univ}
inductive BSt where
  | no | frz | own (k : Nat) (p : Option (List Nat))
structure Gh where
  base : Nat → Nat
  hdr : Nat → Hdr
  st : Nat → BSt
def Gh.F (gh : Gh) (b : Nat) : Prop := gh.st b = .frz
def VOf (t : Ty) (cs : List Value) (v : Value) : Prop := if t.isAgg = true then v = .agg cs.toArray else cs = [v]
def RepV (U : Univ) (F : Nat → Prop) (w : World) (x : U.D) (v : Value) : Prop := ∃ cs, Rep U F w x cs ∧ VOf x.t cs v
theorem VOf.cells {t : Ty} {cs : List Value} {v : Value} (h : VOf t cs v) (h1 : ∀ u ∈ cs, u.oneCell' = true) : v.cells = cs.toArray := by
  unfold VOf at h
  split at h
  · subst h; rfl
  · subst h
    have := h1 v (by simp)
    cases v <;> simp_all [Value.cells, Value.oneCell']
def RepBlk (U : Univ) (gh : Gh) (w : World) (k : Nat) (b : Blk U) : Prop :=
  if b.mem = true then ∃ cs tag, w.heap[gh.base k]? = some (.cells cs.toArray tag (0, 0)) ∧ RepO U gh.F w (gh.hdr k) b.own b.dead b.x cs
  else b.x.t.isSl = true ∧ ∃ v, RepO U gh.F w (gh.hdr k) b.own b.dead b.x [v]
def RowVal (h : Option Addr × Nat) (len sz : Nat) (wn : Win) (v : Value) : Prop :=
  match wn with
  | .all => v = .slice h.1 len h.2
  | .pre n => 0 ≤ n ∧ n.toNat ≤ len ∧ v = .slice h.1 n.toNat h.2
  | .full n => 0 ≤ n ∧ n.toNat ≤ len ∧ v = .slice h.1 n.toNat h.2 ∧ h.2 = len
  | .mid o n => 0 ≤ o ∧ 0 ≤ n ∧ o.toNat + n.toNat ≤ len ∧ ∃ a c, v = .slice a n.toNat c ∧ n.toNat ≤ c ∧ c ≤ maxLen ∧ (0 < n.toNat → ∀ ad, h.1 = some ad → a = some (ad.add (o.toNat * sz)))
theorem RowVal.one {h : Option Addr × Nat} {len sz : Nat} {wn : Win} {v : Value} (hr : RowVal h len sz wn v) : v.oneCell' = true := by
  cases wn with
  | all => have hr : v = _ := hr; rw [hr]; rfl
  | pre n => obtain ⟨_, _, hr⟩ := hr; rw [hr]; rfl
  | full n => obtain ⟨_, _, hr, _⟩ := hr; rw [hr]; rfl
  | mid o n => obtain ⟨_, _, _, _, _, hr, _⟩ := hr; rw [hr]; rfl
inductive PtrAt (gh : Gh) (k : Nat) (b : Blk U) : List Step → Ty → Addr → Prop
  | mem {p : List Step} {o : Nat} {t : Ty} : b.mem = true → At U b.x.t p o t → PtrAt gh k b p t ⟨gh.base k, o, none⟩
  | row {q : List Nat} {p : List Step} {i : Int} {e t : Ty} {o o' n cap : Nat} {ad : Addr} : At U b.x.t (q.map .fld) o' (.sl e) → gh.hdr k q = (some ad, cap) → ad.spot = none → 0 ≤ i → Sz U e n → At U e p o t →
      PtrAt gh k b (q.map .fld ++ .ix i :: p) t ⟨ad.block, ad.off + (i.toNat * n + o), none⟩
mutual
inductive RepAV (U : Univ) (gh : Gh) (σ : St U) (w : World) : AV U → Value → Prop
  | undef {v : Value} : RepAV U gh σ w .undef v
  | d {x : U.D} {v : Value} : RepV U gh.F w x v → RepAV U gh σ w (.d x) v
  | nilsl : RepAV U gh σ w .nilsl (.slice none 0 0)
  | nilp : RepAV U gh σ w .nilp (.pointer none)
  | cagg {cs : List Value} : RepAV U gh σ w (.cagg cs) (.agg cs.toArray)
  | dz {x : U.D} {nils : List (List Nat)} {cs : List Value} {η : Hdr} : x.t.isSt = true → (∀ q, nils.contains q = true → η q = (none, 0)) → RepO U gh.F w η nils [] x cs → RepAV U gh σ w (.dz x nils) (.agg cs.toArray)
  | ptr {k v : Nat} {p : List Step} {t : Ty} {ad : Addr} : (∃ b, σ.blk k = some b ∧ v ≤ b.ver ∧ ((hasIx p = false ∨ v = b.ver) → PtrAt gh k b p t ad)) → RepAV U gh σ w (.ptr k v p t) (.pointer (some ad))
  | vptr {x : U.D} {ad : Addr} {cs : List Value} : ad.spot = none → gh.F ad.block → Cells w ad cs → Rep U gh.F w x cs → RepAV U gh σ w (.vptr x) (.pointer (some ad))
  | row {k ver : Nat} {q : List Nat} {wn : Win} {v : Value} : v.oneCell' = true → (∃ b, σ.blk k = some b ∧ ver ≤ b.ver ∧ (ver = b.ver → ∀ e l, getQ U q b.x = some ⟨.sl e, l⟩ → ∃ n, Sz U e n ∧ RowVal (gh.hdr k q) l.length n wn v)) →
      RepAV U gh σ w (.row k ver q wn) v
  | tup {vs : List (AV U)} {us : List Value} : RepAVs U gh σ w vs us → RepAV U gh σ w (.tup vs) (.tuple us.toArray)
  | fn {f : Nat} : RepAV U gh σ w (.fn f) (.func (.func f) #[] #[])
inductive RepAVs (U : Univ) (gh : Gh) (σ : St U) (w : World) : List (AV U) → List Value → Prop
  | nil : RepAVs U gh σ w [] []
  | cons {x : AV U} {v : Value} {xs : List (AV U)} {vs : List Value} : RepAV U gh σ w x v → RepAVs U gh σ w xs vs → RepAVs U gh σ w (x :: xs) (v :: vs)
end
def Ow (gh : Gh) (k : Nat) (b : Blk U) (bn : Nat) : Option (List Nat) → Prop
  | none => b.mem = true ∧ gh.base k = bn
  | some q => ∃ ad cap, b.own.contains q = true ∧ gh.hdr k q = (some ad, cap) ∧ ad.block = bn
structure Env where
  w : World
  F : Nat → Prop
  S : Nat → Prop
  n : Nat
  bx : Nat → Option Nat
structure Frm (E : Env) (gh : Gh) (w : World) : Prop where
  bound : ∀ bn, gh.st bn = .no ∨ bn < w.heap.size
  fresh : ∀ bn k p, gh.st bn = .own k p → E.S bn ∨ E.w.heap.size ≤ bn
  ffresh : ∀ bn, gh.F bn → E.F bn ∨ E.S bn ∨ E.w.heap.size ≤ bn
  old : ∀ bn, E.F bn → gh.F bn
  grown : E.w.heap.size ≤ w.heap.size
  kept : ∀ bn, bn < E.w.heap.size → ¬ E.S bn → w.heap[bn]? = E.w.heap[bn]?
  os : w.os = E.w.os
  tape : w.tape = E.w.tape
  output : w.output = E.w.output
structure Sim (U : Univ) (E : Env) (gh : Gh) (σ : St U) (a : Act) (w : World) : Prop where
  size : a.tmps.size = E.n
  defers : a.defers = []
  slots : ∀ n, RepAV U gh σ w (σ.slot n) (a.tmps.getD n Go.undef)
  blks : ∀ k b, σ.blk k = some b → RepBlk U gh w k b
  owns : ∀ k b, σ.blk k = some b → ∀ bn p, Ow gh k b bn p → gh.st bn = .own k p
  frm : Frm E gh w
  bases : ∀ k b bn, E.bx k = some bn → σ.blk k = some b → gh.base k = bn
theorem RepV.mono {F F' : Nat → Prop} {w w' : World} {x : U.D} {v : Value} (hF : ∀ b, F b → F' b ∧ w'.heap[b]? = w.heap[b]?) (h : RepV U F w x v) : RepV U F' w' x v :=
  let ⟨cs, h1, h2⟩ := h
  ⟨cs, h1.mono hF, h2⟩
def LaterB (gh gh' : Gh) (k : Nat) (b b' : Blk U) : Prop :=
  b'.x.t = b.x.t ∧ b'.mem = b.mem ∧ gh'.base k = gh.base k ∧
    ((b'.ver = b.ver ∧ (∀ q, gh'.hdr k q = gh.hdr k q) ∧ ∀ q e l, getQ U q b'.x = some ⟨.sl e, l⟩ → ∃ l', getQ U q b.x = some ⟨.sl e, l'⟩ ∧ l.length = l'.length) ∨ b.ver < b'.ver)
def Later (gh gh' : Gh) (σ σ' : St U) : Prop := ∀ k b, σ.blk k = some b → ∃ b', σ'.blk k = some b' ∧ LaterB gh gh' k b b'
theorem LaterB.refl (gh : Gh) (k : Nat) (b : Blk U) : LaterB gh gh k b b := ⟨rfl, rfl, rfl, .inl ⟨rfl, fun _ => rfl, fun _ _ l h => ⟨l, h, rfl⟩⟩⟩
theorem LaterB.same {gh gh' : Gh} {k : Nat} (b : Blk U) (h1 : gh'.base k = gh.base k) (h2 : gh'.hdr k = gh.hdr k) : LaterB gh gh' k b b :=
  ⟨rfl, rfl, h1, .inl ⟨rfl, fun q => by rw [h2], fun _ _ l h => ⟨l, h, rfl⟩⟩⟩
theorem hasIx_flds : ∀ q : List Nat, hasIx (q.map .fld) = false
  | [] => rfl
  | _ :: q => hasIx_flds q
theorem hasIx_app : ∀ (q : List Nat) (i : Int) (p : List Step), hasIx (q.map .fld ++ .ix i :: p) = true
  | [], _, _ => rfl
  | _ :: q, i, p => hasIx_app q i p
mutual
theorem RepAV.later {gh gh' : Gh} {σ σ' : St U} {w w' : World} (hF : ∀ b, gh.F b → gh'.F b ∧ w'.heap[b]? = w.heap[b]?) (hL : Later gh gh' σ σ') : ∀ {x : AV U} {v : Value}, RepAV U gh σ w x v → RepAV U gh' σ' w' x v
  | _, _, .undef => .undef
  | _, _, .d h => .d (h.mono hF)
  | _, _, .nilsl => .nilsl
  | _, _, .nilp => .nilp
  | _, _, .cagg => .cagg
  | _, _, .dz h1 h0 h2 => .dz h1 h0 (h2.mono hF fun q _ _ hq e => by rw [h0 q hq] at e; simp at e)
  | _, _, .ptr (k := k) (v := v) (p := p) (t := t) (ad := ad) h => .ptr (by
      obtain ⟨b, hb, h1, h2⟩ := h
      obtain ⟨b', hb', ht, hm, hbase, hl⟩ := hL k b hb
      have hno : hasIx p = false → PtrAt gh' k b' p t ad := fun hx => by
        cases h2 (.inl hx) with
        | mem e1 e2 => exact hbase ▸ .mem (hm.trans e1) (by rw [ht]; exact e2)
        | row _ _ _ _ _ _ => rw [hasIx_app] at hx; cases hx
      refine ⟨b', hb', ?_⟩
      rcases hl with ⟨hv, hh, hl⟩ | hv
      · refine ⟨hv ▸ h1, fun hx => ?_⟩
        rcases hx with hx | hx
        · exact hno hx
        · cases h2 (.inr (hx.trans hv)) with
          | mem e1 e2 => exact hbase ▸ .mem (hm.trans e1) (by rw [ht]; exact e2)
          | row e1 e2 e3 e4 e5 e6 => exact .row (by rw [ht]; exact e1) ((hh _).trans e2) e3 e4 e5 e6
      · refine ⟨by omega, fun hx => ?_⟩
        rcases hx with hx | hx
        · exact hno hx
        · omega)
  | _, _, .vptr h1 h2 h3 h4 => .vptr h1 (hF _ h2).1 (h3.mono (hF _ h2).2) (h4.mono hF)
  | _, _, .row (k := k) (ver := ver) (q := q) (wn := wn) h1 h => .row h1 (by
      obtain ⟨b, hb, h1, h2⟩ := h
      obtain ⟨b', hb', ht, hm, hbase, hl⟩ := hL k b hb
      refine ⟨b', hb', ?_⟩
      rcases hl with ⟨hv, hh, hl⟩ | hv
      · refine ⟨hv ▸ h1, fun hx e l hg => ?_⟩
        obtain ⟨l', hg', hll⟩ := hl q e l hg
        obtain ⟨n, hn, hr⟩ := h2 (hx.trans hv) e l' hg'
        exact ⟨n, hn, by rw [hh q, hll]; exact hr⟩
      · exact ⟨by omega, fun hx => by omega⟩)
  | _, _, .tup h => .tup (RepAVs.later hF hL h)
  | _, _, .fn => .fn
theorem RepAVs.later {gh gh' : Gh} {σ σ' : St U} {w w' : World} (hF : ∀ b, gh.F b → gh'.F b ∧ w'.heap[b]? = w.heap[b]?) (hL : Later gh gh' σ σ') : ∀ {x : List (AV U)} {v : List Value}, RepAVs U gh σ w x v → RepAVs U gh' σ' w' x v
  | _, _, .nil => .nil
  | _, _, .cons h hs => .cons (RepAV.later hF hL h) (RepAVs.later hF hL hs)
end
end Go.Ev
end
section
namespace Go.Ev
variable {U : Univ}
theorem lookup_hit {α : Type} (z : α) (k : Nat) (v : α) (r : List (Nat × α)) : lookup z ((k, v) :: r) k = v := by simp [lookup]
theorem lookup_miss {α : Type} (z : α) {k n : Nat} (v : α) (r : List (Nat × α)) (h : k ≠ n) : lookup z ((k, v) :: r) n = lookup z r n := by simp [lookup, h]
section
variable (σ : St U)
@[simp] theorem St.slot_put_blk (k : Nat) (b : Option (Blk U)) (n : Nat) : (σ.put (.blk k b)).slot n = σ.slot n := rfl
@[simp] theorem St.blk_put_slot (k : Nat) (v : AV U) (n : Nat) : (σ.put (.slot k v)).blk n = σ.blk n := rfl
@[simp] theorem St.slot_put_same (n : Nat) (v : AV U) : (σ.put (.slot n v)).slot n = v := lookup_hit _ _ _ _
theorem St.slot_put_ne {n m : Nat} (v : AV U) (h : n ≠ m) : (σ.put (.slot n v)).slot m = σ.slot m := lookup_miss _ _ _ h
@[simp] theorem St.blk_put_same (k : Nat) (b : Option (Blk U)) : (σ.put (.blk k b)).blk k = b := lookup_hit _ _ _ _
theorem St.blk_put_ne {k j : Nat} (b : Option (Blk U)) (h : k ≠ j) : (σ.put (.blk k b)).blk j = σ.blk j := lookup_miss _ _ _ h
theorem St.slot_put (n m : Nat) (v : AV U) : (σ.put (.slot n v)).slot m = if n = m then v else σ.slot m := by
  by_cases h : n = m
  · subst h; simp
  · rw [if_neg h, St.slot_put_ne σ v h]
theorem St.blk_put (k j : Nat) (b : Option (Blk U)) : (σ.put (.blk k b)).blk j = if k = j then b else σ.blk j := by
  by_cases h : k = j
  · subst h; simp
  · rw [if_neg h, St.blk_put_ne σ b h]
end
theorem Ow.lt {E : Env} {gh : Gh} {σ : St U} {a : Act} {w : World} (S : Sim U E gh σ a w) {k : Nat} {b : Blk U} (hb : σ.blk k = some b) {bn : Nat} {p : Option (List Nat)} (h : Ow gh k b bn p) : bn < w.heap.size := by
  have := S.owns k b hb bn p h
  rcases S.frm.bound bn with h' | h'
  · rw [h'] at this; cases this
  · exact h'
theorem Sim.step {E : Env} {gh gh' : Gh} {σ σ' : St U} {a a' : Act} {w w' : World} (ch : Nat → Prop) (S : Sim U E gh σ a w) (hsz : a'.tmps.size = a.tmps.size) (hdf : a'.defers = a.defers)
    (hw : ∀ bn, bn < w.heap.size → (∀ k p, gh.st bn = .own k p → ¬ ch k) → w'.heap[bn]? = w.heap[bn]?)
    (hst : ∀ bn, gh'.st bn = gh.st bn ∨ ((∃ k p, gh.st bn = .own k p ∧ ch k) ∧ gh'.st bn ≠ .no) ∨ (w.heap.size ≤ bn ∧ bn < w'.heap.size))
    (hsize : w.heap.size ≤ w'.heap.size) (hos : w'.os = w.os) (htape : w'.tape = w.tape) (hout : w'.output = w.output)
    (hkeep : ∀ k b, ¬ ch k → σ'.blk k = some b → σ.blk k = some b ∧ gh'.base k = gh.base k ∧ gh'.hdr k = gh.hdr k)
    (hch : ∀ k b', ch k → σ'.blk k = some b' → RepBlk U gh' w' k b' ∧ ∀ bn p, Ow gh' k b' bn p → gh'.st bn = .own k p)
    (hL : Later gh gh' σ σ')
    (hslots : ∀ n, (σ'.slot n = σ.slot n ∧ a'.tmps.getD n Go.undef = a.tmps.getD n Go.undef) ∨ RepAV U gh' σ' w' (σ'.slot n) (a'.tmps.getD n Go.undef))
    (hbx : ∀ k b', ch k → σ'.blk k = some b' → σ.blk k = none → E.bx k = none := by intro j _ hj _ hno; first | exact hj.elim | (subst hj; simp_all)) : Sim U E gh' σ' a' w' := by
  have hF : ∀ b, gh.F b → gh'.F b ∧ w'.heap[b]? = w.heap[b]? := by
    intro b hb
    have hlt : b < w.heap.size := by
      rcases S.frm.bound b with h | h
      · rw [Gh.F, h] at hb; cases hb
      · exact h
    refine ⟨?_, hw b hlt fun k p e => by rw [Gh.F] at hb; rw [hb] at e; cases e⟩
    rcases hst b with h | ⟨⟨k, p, h, _⟩, _⟩ | ⟨h, _⟩
    · rw [Gh.F, h]; exact hb
    · rw [Gh.F] at hb; rw [hb] at h; cases h
    · omega
  have hown : ∀ k b, ¬ ch k → σ.blk k = some b → ∀ bn p, Ow gh k b bn p → w'.heap[bn]? = w.heap[bn]? ∧ gh'.st bn = .own k p := by
    intro k b hk hb bn p ho
    have hs := S.owns k b hb bn p ho
    have hlt := Ow.lt S hb ho
    refine ⟨hw bn hlt fun k' p' e => by rw [hs] at e; cases e; exact hk, ?_⟩
    rcases hst bn with h | ⟨⟨k', p', h, hc⟩, _⟩ | ⟨h, _⟩
    · rw [h]; exact hs
    · rw [hs] at h; cases h; exact absurd hc hk
    · omega
  refine ⟨hsz.trans S.size, hdf.trans S.defers, ?_, ?_, ?_, ?_, fun k b bn hk hb => ?_⟩
  · intro n
    rcases hslots n with ⟨h1, h2⟩ | h
    · rw [h1, h2]
      exact (S.slots n).later hF hL
    · exact h
  · intro k b hb
    by_cases hk : ch k
    · exact (hch k b hk hb).1
    · obtain ⟨hb0, h1, h2⟩ := hkeep k b hk hb
      have hr := S.blks k b hb0
      have ho := hown k b hk hb0
      unfold RepBlk at hr ⊢
      split at hr
      · rename_i hm
        rw [if_pos hm]
        obtain ⟨cs, tag, e1, e2⟩ := hr
        refine ⟨cs, tag, ?_, ?_⟩
        · rw [h1, (ho (gh.base k) none ⟨hm, rfl⟩).1]; exact e1
        · rw [h2]
          exact e2.mono hF fun q ad cap hq e => (ho ad.block (some q) ⟨ad, cap, hq, e, rfl⟩).1
      · rename_i hm
        rw [if_neg hm]
        obtain ⟨e0, v, e2⟩ := hr
        refine ⟨e0, v, ?_⟩
        rw [h2]
        exact e2.mono hF fun q ad cap hq e => (ho ad.block (some q) ⟨ad, cap, hq, e, rfl⟩).1
  · intro k b hb bn p ho
    by_cases hk : ch k
    · exact (hch k b hk hb).2 bn p ho
    · obtain ⟨hb0, h1, h2⟩ := hkeep k b hk hb
      have : Ow gh k b bn p := by
        cases p with
        | none => exact ⟨ho.1, h1 ▸ ho.2⟩
        | some q =>
          obtain ⟨ad, cap, e1, e2, e3⟩ := ho
          exact ⟨ad, cap, e1, h2 ▸ e2, e3⟩
      exact (hown k b hk hb0 bn p this).2
  · have f := S.frm
    refine ⟨fun bn => ?_, fun bn k p h => ?_, fun bn h => ?_, fun bn h => (hF bn (f.old bn h)).1, Nat.le_trans f.grown hsize, fun bn hlt hS => ?_, hos.trans f.os, htape.trans f.tape, hout.trans f.output⟩
    · rcases hst bn with h | ⟨⟨k, p, h, _⟩, _⟩ | ⟨_, h⟩
      · rw [h]
        rcases f.bound bn with h' | h'
        · exact .inl h'
        · exact .inr (by omega)
      · rcases f.bound bn with h' | h'
        · rw [h'] at h; cases h
        · exact .inr (by omega)
      · exact .inr h
    · rcases hst bn with h' | ⟨⟨k', p', h', _⟩, _⟩ | ⟨h', _⟩
      · exact f.fresh bn k p (h' ▸ h)
      · exact f.fresh bn k' p' h'
      · exact .inr (Nat.le_trans f.grown h')
    · rcases hst bn with h' | ⟨⟨k', p', h', _⟩, _⟩ | ⟨h', _⟩
      · exact f.ffresh bn (by rw [Gh.F] at h ⊢; rw [← h']; exact h)
      · exact .inr (f.fresh bn k' p' h')
      · exact .inr (.inr (Nat.le_trans f.grown h'))
    · rw [← f.kept bn hlt hS]
      refine hw bn (Nat.lt_of_lt_of_le hlt f.grown) fun k p e => ?_
      rcases f.fresh bn k p e with h | h
      · exact absurd h hS
      · omega
  · cases hb0 : σ.blk k with
    | some b0 =>
      obtain ⟨b1, hb1, _, _, e, _⟩ := hL k b0 hb0
      exact e.trans (S.bases k b0 bn hk hb0)
    | none =>
      by_cases hc : ch k
      · rw [hbx k b hc hb hb0] at hk; cases hk
      · have := (hkeep k b hc hb).1
        rw [hb0] at this; cases this
theorem tmps_put (a : Act) (d n : Nat) (v : Value) : (a.put (some d) v).tmps.getD n Go.undef = if d = n ∧ d < a.tmps.size then v else a.tmps.getD n Go.undef := by
  simp only [Act.put, Array.getD_eq_getD_getElem?]
  by_cases h : d = n
  · subst h
    by_cases hd : d < a.tmps.size
    · simp [hd]
    · simp [hd]
  · simp [h]
theorem put_size (a : Act) (dst : Option Nat) (v : Value) : (a.put dst v).tmps.size = a.tmps.size := by
  cases dst <;> simp [Act.put]
theorem put_defers (a : Act) (dst : Option Nat) (v : Value) : (a.put dst v).defers = a.defers := by
  cases dst <;> rfl
def InN (E : Env) (dst : Option Nat) : Prop := ∀ d, dst = some d → d < E.n ∧ E.bx d = none
theorem slots_put {E : Env} {gh gh' : Gh} {σ σ' : St U} {a : Act} {w w' : World} {dst : Option Nat} {x : AV U} {v : Value} (S : Sim U E gh σ a w) (hd : InN E dst)
    (hs : ∀ n, σ'.slot n = match dst with | some d => if d = n then x else σ.slot n | none => σ.slot n) (hx : dst.isSome → RepAV U gh' σ' w' x v) :
    ∀ n, (σ'.slot n = σ.slot n ∧ (a.put dst v).tmps.getD n Go.undef = a.tmps.getD n Go.undef) ∨ RepAV U gh' σ' w' (σ'.slot n) ((a.put dst v).tmps.getD n Go.undef) := by
  intro n
  cases dst with
  | none => exact .inl ⟨hs n, rfl⟩
  | some d =>
    by_cases h : d = n
    · right
      have h1 := hs n
      simp only [h, if_true] at h1
      rw [h1, tmps_put, if_pos ⟨h, by rw [S.size]; exact (hd d rfl).1⟩]
      exact hx rfl
    · left
      have h1 := hs n
      simp only [h, if_false] at h1
      refine ⟨h1, ?_⟩
      rw [tmps_put, if_neg (fun e => h e.1)]
theorem Sim.pure {E : Env} {gh : Gh} {σ : St U} {a : Act} {w : World} {dst : Option Nat} {x : AV U} {v : Value} (S : Sim U E gh σ a w) (hd : InN E dst) (hx : RepAV U gh σ w x v) :
    Sim U E gh (σ.puts (put dst x)) (a.put dst v) w := by
  have hb : ∀ k, (σ.puts (put dst x)).blk k = σ.blk k := by intro k; cases dst <;> rfl
  have hL : Later gh gh σ (σ.puts (put dst x)) := fun k b h => ⟨b, (hb k).trans h, LaterB.refl gh k b⟩
  refine S.step (fun _ => False) (put_size ..) (put_defers ..) (fun _ _ _ => rfl) (fun _ => .inl rfl) (Nat.le_refl _) rfl rfl rfl (fun k b _ h => ⟨(hb k).symm.trans h, rfl, rfl⟩) (fun _ _ h => h.elim) hL ?_
  refine slots_put S hd (fun n => ?_) fun _ => hx.later (fun b h => ⟨h, rfl⟩) hL
  cases dst with
  | none => rfl
  | some d => exact St.slot_put σ d n x
end Go.Ev
end
section
namespace Go.Ev
variable {U : Univ}
section
variable {α β : Type} (σ : St U)
@[simp] theorem run_ret (a : α) : (Rd.ret a : Rd U α).run σ = some a := rfl
@[simp] theorem run_fail : (Rd.fail : Rd U α).run σ = none := rfl
@[simp] theorem run_slot (n : Nat) (k : AV U → Rd U α) : (Rd.slot n k).run σ = (k (σ.slot n)).run σ := rfl
@[simp] theorem run_blk (n : Nat) (k : Option (Blk U) → Rd U α) : (Rd.blk n k).run σ = (k (σ.blk n)).run σ := rfl
@[simp] theorem run_opt (o : Option β) (k : β → Rd U α) : (Rd.opt o k).run σ = o.bind fun x => (k x).run σ := rfl
@[simp] theorem run_chk (p : Prop) (i : Decidable p) (k : Rd U α) : (Rd.chk p i k).run σ = @ite _ p i (k.run σ) none := rfl
end
theorem hasSize (hU : ULaw U) : ∀ t : Ty, ∃ n, Sz U t n
  | .int _ => ⟨1, .int⟩
  | .bool => ⟨1, .bool⟩
  | .str => ⟨1, .str⟩
  | .sl _ => ⟨1, .sl⟩
  | .arr m e => let ⟨n, h⟩ := hasSize hU e; ⟨m * n, .arr h⟩
  | .st id => let ⟨n, h⟩ := hU.size id; ⟨n, .st h⟩
theorem SzL.take : ∀ {ts : List Ty} {n : Nat} (j : Nat), SzL U ts n → ∃ m, SzL U (ts.take j) m
  | _, _, 0, _ => ⟨0, by rw [List.take_zero]; exact .nil⟩
  | [], _, j + 1, _ => ⟨0, by rw [List.take_nil]; exact .nil⟩
  | t :: ts, _, j + 1, h => by
    cases h with
    | cons h1 h2 =>
      obtain ⟨m, hm⟩ := SzL.take j h2
      exact ⟨_, by rw [List.take_succ_cons]; exact .cons h1 hm⟩
theorem getQ_eq : ∀ (q : List Nat) (d : U.D), getQ U q d = getV U (q.map .fld) d
  | [], _ => rfl
  | j :: q, d => by
    obtain ⟨t, x⟩ := d
    cases t <;> try rfl
    rename_i id
    simp only [getQ, getV, List.map_cons]
    cases (U.get id x)[j]? with
    | none => rfl
    | some y => exact getQ_eq q y
theorem At.ofGet (hU : ULaw U) : ∀ (q : List Nat) (d y : U.D), getV U (q.map .fld) d = some y → ∃ o, At U d.t (q.map .fld) o y.t
  | [], d, y, h => by
    simp only [List.map_nil, getV, Option.some.injEq] at h
    subst h
    exact ⟨0, .nil⟩
  | j :: q, d, y, h => by
    obtain ⟨t, x⟩ := d
    cases t <;> try (simp [getV] at h; done)
    rename_i id
    simp only [List.map_cons, getV] at h
    cases hj : (U.get id x)[j]? with
    | none => simp [hj] at h
    | some z =>
      simp only [hj] at h
      obtain ⟨o, ho⟩ := At.ofGet hU q z y h
      obtain ⟨n, hn⟩ := hU.size id
      obtain ⟨m, hm⟩ := hn.take j
      refine ⟨m + o, .fld (u := z.t) ?_ hm ho⟩
      have e := hU.tys id x
      rw [← e]
      simp [hj]
theorem RepL.drop {F : Nat → Prop} {w : World} (hU : ULaw U) {e : Ty} {n : Nat} (hz : Sz U e n) : ∀ {l : List (e.den U.car)} {xs : List Value} (i : Nat), RepL U F w (l.map (D.mk e)) xs → RepL U F w ((l.drop i).map (D.mk e)) (xs.drop (i * n))
  | l, xs, 0, h => by simpa using h
  | [], xs, i + 1, h => by
    simp only [List.map_nil] at h
    cases h
    simpa using RepL.nil
  | y :: l, xs, i + 1, h => by
    simp only [List.map_cons] at h
    cases h with
    | cons h1 h2 =>
      rename_i c cs
      have hl : c.length = n := h1.length hU hz
      have := RepL.drop hU hz i h2
      simp only [List.drop_succ_cons]
      rw [show (i + 1) * n = c.length + i * n by rw [hl, Nat.add_mul, Nat.one_mul, Nat.add_comm], List.drop_append]
      rw [List.drop_eq_nil_of_le (Nat.le_add_right _ _), Nat.add_sub_cancel_left]
      simpa using this
theorem RepL.take {F : Nat → Prop} {w : World} (hU : ULaw U) {e : Ty} {n : Nat} (hz : Sz U e n) : ∀ {l : List (e.den U.car)} {xs : List Value} (i : Nat), RepL U F w (l.map (D.mk e)) xs → RepL U F w ((l.take i).map (D.mk e)) (xs.take (i * n))
  | l, xs, 0, h => by simpa using RepL.nil
  | [], xs, i + 1, h => by
    simp only [List.map_nil] at h
    cases h
    simpa using RepL.nil
  | y :: l, xs, i + 1, h => by
    simp only [List.map_cons] at h
    cases h with
    | cons h1 h2 =>
      rename_i c cs
      have hl : c.length = n := h1.length hU hz
      have := RepL.take hU hz i h2
      simp only [List.take_succ_cons, List.map_cons]
      rw [show (i + 1) * n = c.length + i * n by rw [hl, Nat.add_mul, Nat.one_mul, Nat.add_comm], List.take_append]
      rw [List.take_of_length_le (Nat.le_add_right _ _), Nat.add_sub_cancel_left]
      exact .cons h1 this
theorem add_block (ad : Addr) (n : Nat) : (ad.add n).block = ad.block := by unfold Addr.add; split <;> rfl
theorem add_spot {ad : Addr} (n : Nat) (h : ad.spot = none) : (ad.add n).spot = none := by
  unfold Addr.add
  split
  · exact h
  · rfl
theorem flds_map : ∀ q : List Nat, flds (q.map .fld) = some q
  | [] => rfl
  | j :: q => by simp [flds, flds_map q]
theorem add_add {ad : Addr} (hs : ad.spot = none) (n m : Nat) : (ad.add n).add m = ad.add (n + m) := by
  obtain ⟨b, o, s⟩ := ad
  simp only at hs
  subst hs
  unfold Addr.add
  by_cases h1 : n = 0 <;> by_cases h2 : m = 0 <;> simp [h1, h2, Nat.add_assoc]
theorem Cells.drop {w : World} {ad : Addr} {xs : List Value} (hs : ad.spot = none) (h : Cells w ad xs) (i : Nat) : Cells w (ad.add i) (xs.drop i) := by
  intro j v hj
  rw [List.getElem?_drop] at hj
  rw [add_add hs]
  exact h _ _ hj
theorem Cells.take {w : World} {ad : Addr} {xs : List Value} (h : Cells w ad xs) (i : Nat) : Cells w ad (xs.take i) := by
  intro j v hj
  rw [List.getElem?_take] at hj
  split at hj
  · exact h _ _ hj
  · cases hj
def Rd1 (U : Univ) (F : Nat → Prop) (w : World) (e : Ty) (l : List (e.den U.car)) (v : Value) : Prop :=
  ∃ a cap n xs, v = .slice a l.length cap ∧ Sz U e n ∧ RepL U F w (l.map (D.mk e)) xs ∧ (l ≠ [] → ∃ ad, a = some ad ∧ ad.spot = none ∧ Cells w ad xs) ∧ l.length ≤ cap ∧ cap ≤ maxLen
structure RowAt (U : Univ) (F : Nat → Prop) (w : World) (e : Ty) (l : List (e.den U.car)) (a : Option Addr) (cap : Nat) : Prop where
  le : l.length ≤ cap
  cap : cap ≤ maxLen
  row : ∃ n xs, Sz U e n ∧ RepL U F w (l.map (D.mk e)) xs ∧ (l ≠ [] → ∃ ad, a = some ad ∧ ad.spot = none ∧ Cells w ad xs)
theorem ownsRow_at {w : World} {tag n len cap : Nat} {a : Option Addr} {xs : List Value} (h : w.ownsRow 0 tag n (.slice a len cap) len xs) :
    len ≤ cap ∧ cap ≤ maxLen ∧ (len ≠ 0 → ∃ ad, a = some ad ∧ ad.spot = none ∧ Cells w ad xs) := by
  rcases h.2 with ⟨e1, e2⟩ | ⟨g, c, cur, e1, e2, e3, e4, e5, e6, e7⟩
  · simp only [Value.slice.injEq] at e1
    obtain ⟨rfl, rfl, rfl⟩ := e1
    exact ⟨Nat.le_refl _, Nat.zero_le _, fun h => absurd rfl h⟩
  · simp only [Value.slice.injEq] at e1
    obtain ⟨rfl, _, rfl⟩ := e1
    exact ⟨e4, e5, fun _ => ⟨_, rfl, rfl, fun j v hj => h.cells (g := g) rfl j v hj⟩⟩
theorem Sim.rowAt {E : Env} {gh : Gh} {σ : St U} {a : Act} {w : World} (hU : ULaw U) (S : Sim U E gh σ a w) {k : Nat} {b : Blk U} {q : List Nat} {e : Ty} {l : List (e.den U.car)} (hb : σ.blk k = some b)
    (hd : b.dead.contains q = false) (hg : getQ U q b.x = some ⟨.sl e, l⟩) : RowAt U gh.F w e l (gh.hdr k q).1 (gh.hdr k q).2 := by
  have hr := S.blks k b hb
  rw [getQ_eq] at hg
  have key : ∀ {cs : List Value}, RepO U gh.F w (gh.hdr k) b.own b.dead b.x cs → RowAt U gh.F w e l (gh.hdr k q).1 (gh.hdr k q).2 := by
    intro cs hr
    obtain ⟨o, ho⟩ := At.ofGet hU q _ _ hg
    obtain ⟨_, c1, c, c2, _, _, h3, _⟩ := RepO.at hU ho hr hg
    have h4 := h3 q (flds_map q)
    cases h4 with
    | dead e1 _ _ _ => rw [subQ_contains, List.append_nil, hd] at e1; cases e1
    | leaf e1 _ _ => simp [Ty.isSl] at e1
    | frz _ _ e3 e4 =>
      simp only [List.append_nil] at e4
      rw [e4]
      cases e3 with
      | sl g1 g2 g3 g4 =>
        obtain ⟨n, hn⟩ := hasSize hU e
        exact ⟨g3, g4, n, _, hn, g1, fun hl => let ⟨h1, h2, _, h3⟩ := g2 hl; ⟨_, h1, h2, h3⟩⟩
    | row _ _ e3 e5 e6 e7 =>
      simp only [List.append_nil] at e7
      rw [e7]
      obtain ⟨g1, g2, g3⟩ := ownsRow_at e6
      exact ⟨g1, g2, _, _, e3, e5, fun hl => g3 (by simpa using hl)⟩
  unfold RepBlk at hr
  split at hr
  · obtain ⟨cs, tag, _, h⟩ := hr
    exact key h
  · obtain ⟨_, v, h⟩ := hr
    exact key h
theorem RowAt.win {F : Nat → Prop} {w : World} (hU : ULaw U) {e : Ty} {l : List (e.den U.car)} {h : Option Addr × Nat} (R : RowAt U F w e l h.1 h.2) {n : Nat} (hz : Sz U e n) {wn : Win} {v : Value} (hv : RowVal h l.length n wn v)
    {l' : List (e.den U.car)} (hw : win (U := U) ⟨.sl e, l⟩ wn = some ⟨.sl e, l'⟩) : Rd1 U F w e l' v := by
  obtain ⟨r1, r2, n', xs, r3, r4, r5⟩ := R
  cases r3.uniq hz
  cases wn with
  | all =>
    simp only [Ev.win, Option.some.injEq, D.mk.injEq, heq_eq_eq, true_and] at hw
    subst hw
    exact ⟨h.1, h.2, n, xs, hv, hz, r4, r5, r1, r2⟩
  | pre m =>
    simp only [Ev.win, Option.some.injEq, D.mk.injEq, heq_eq_eq, true_and] at hw
    subst hw
    obtain ⟨g1, g2, g3⟩ := hv
    have hlen : (l.take m.toNat).length = m.toNat := by simp [Nat.min_eq_left g2]
    refine ⟨h.1, h.2, n, xs.take (m.toNat * n), by rw [hlen]; exact g3, hz, r4.take hU hz m.toNat, fun hl => ?_, by rw [hlen]; omega, r2⟩
    obtain ⟨ad, h1, h2, h3⟩ := r5 (fun e => hl (by rw [e]; simp))
    exact ⟨ad, h1, h2, h3.take _⟩
  | full m =>
    simp only [Ev.win, Option.some.injEq, D.mk.injEq, heq_eq_eq, true_and] at hw
    subst hw
    obtain ⟨g1, g2, g3, _⟩ := hv
    have hlen : (l.take m.toNat).length = m.toNat := by simp [Nat.min_eq_left g2]
    refine ⟨h.1, h.2, n, xs.take (m.toNat * n), by rw [hlen]; exact g3, hz, r4.take hU hz m.toNat, fun hl => ?_, by rw [hlen]; omega, r2⟩
    obtain ⟨ad, h1, h2, h3⟩ := r5 (fun e => hl (by rw [e]; simp))
    exact ⟨ad, h1, h2, h3.take _⟩
  | mid o m =>
    simp only [Ev.win, Option.some.injEq, D.mk.injEq, heq_eq_eq, true_and] at hw
    subst hw
    obtain ⟨g0, g1, g2, a, c, g3, g4, g5, g6⟩ := hv
    have hlen : (sub l o (o + m)).length = m.toNat := by simp [sub]; omega
    have hsub : (o + m - o).toNat = m.toNat := by omega
    refine ⟨a, c, n, (xs.drop (o.toNat * n)).take (m.toNat * n), by rw [hlen]; exact g3, hz, ?_, fun hl => ?_, by rw [hlen]; exact g4, g5⟩
    · unfold sub
      rw [hsub]
      exact (r4.drop hU hz o.toNat).take hU hz m.toNat
    · have hm : 0 < m.toNat := by
        rcases Nat.eq_zero_or_pos m.toNat with h0 | h0
        · exact absurd (List.eq_nil_of_length_eq_zero (hlen.trans h0)) hl
        · exact h0
      obtain ⟨ad, h1, h2, h3⟩ := r5 (fun e => by rw [e] at g2; simp at g2; omega)
      exact ⟨_, g6 hm ad h1, add_spot _ h2, (h3.drop h2 _).take _⟩
end Go.Ev
end
section
namespace Go.Ev
variable {U : Univ}
theorem fitInt_zero (k : IntKind) : fitInt k 0 := by unfold fitInt; cases k <;> decide
theorem rep_nil {F : Nat → Prop} {w : World} (e : Ty) : Rep U F w ⟨.sl e, []⟩ [.slice none 0 0] :=
  .sl (l := []) (xs := []) (a := none) (ad := ⟨0, 0, none⟩) RepL.nil (fun h => absurd rfl h) (Nat.le_refl _) (Nat.zero_le _)
theorem repO_nil (hU : ULaw U) {F : Nat → Prop} {w : World} {η : Hdr} {own dd : List (List Nat)} (e : Ty) (hd : dd.contains [] = false) (hη : η [] = (none, 0)) : RepO U F w η own dd ⟨.sl e, []⟩ [.slice none 0 0] := by
  cases h : own.contains [] with
  | false => exact .frz (l := []) h hd (rep_nil e) hη
  | true =>
    obtain ⟨n, hn⟩ := hasSize hU e
    exact .row (l := []) (tag := 0) (xs := []) h hd hn RepL.nil (World.ownsRow_nil w 0 0 n) hη
theorem zeroD_t : ∀ {n : Nat} {t : Ty} {z : U.D}, zeroD U n t = some z → z.t = t
  | 0, _, _, h => by simp [zeroD] at h
  | n + 1, t, z, h => by
    cases t <;> simp only [zeroD, Option.some.injEq] at h
    · subst h; rfl
    · subst h; rfl
    · subst h; rfl
    · subst h; rfl
    · split at h
      · simp only [Option.map_eq_some_iff] at h
        obtain ⟨x, _, rfl⟩ := h
        rfl
      · cases h
    · simp only [Option.map_eq_some_iff] at h
      obtain ⟨x, _, rfl⟩ := h
      rfl
def ZeroOk (U : Univ) (F : Nat → Prop) (w : World) (t : Ty) (f : List Value → Option (List Value)) : Prop :=
  ∀ cs r, f cs = some r → ∀ m z, zeroD U m t = some z → ∃ c, cs = c ++ r ∧ Rep U F w z c ∧ ∀ (η : Hdr) (own dd : List (List Nat)), (∀ q, η q = (none, 0)) → (∀ q, dd.contains q = false) → RepO U F w η own dd z c
theorem zero_go {F : Nat → Prop} {w : World} {e : Ty} {f : List Value → Option (List Value)} (hf : ZeroOk U F w e f) {m0 : Nat} {x : e.den U.car} (hz : zeroD U m0 e = some ⟨e, x⟩) :
    ∀ (m : Nat) (cs r : List Value), zeroCells.go m e cs f = some r → ∃ c, cs = c ++ r ∧ RepL U F w ((List.replicate m x).map (D.mk e)) c
  | 0, cs, r, h => by
    simp only [zeroCells.go, Option.some.injEq] at h
    subst h
    exact ⟨[], rfl, .nil⟩
  | m + 1, cs, r, h => by
    simp only [zeroCells.go] at h
    cases hc : f cs with
    | none => simp [hc] at h
    | some r1 =>
      simp only [hc, Option.bind_some] at h
      obtain ⟨c1, rfl, h1, _⟩ := hf _ _ hc _ _ hz
      obtain ⟨c2, rfl, h2⟩ := zero_go hf hz m _ _ h
      exact ⟨c1 ++ c2, by rw [List.append_assoc], by
        simp only [List.replicate_succ, List.map_cons]
        exact .cons h1 h2⟩
theorem zero_fields {F : Nat → Prop} {w : World} {f : Ty → List Value → Option (List Value)} (hf : ∀ t, ZeroOk U F w t (f t)) :
    ∀ (ds : List U.D) (cs r : List Value), (∀ d ∈ ds, ∃ n, zeroD U n d.t = some d) → (ds.map D.t).foldl (fun o u => o.bind (f u)) (some cs) = some r →
      ∃ c, cs = c ++ r ∧ RepL U F w ds c ∧ ∀ (η : Hdr) (own dd : List (List Nat)) (j : Nat), (∀ q, η q = (none, 0)) → (∀ q, dd.contains q = false) → RepOL U F w η own dd j ds c
  | [], cs, r, _, h => by
    simp only [List.map_nil, List.foldl_nil, Option.some.injEq] at h
    subst h
    exact ⟨[], rfl, .nil, fun _ _ _ _ _ _ => .nil⟩
  | d :: ds, cs, r, hz, h => by
    simp only [List.map_cons, List.foldl_cons, Option.bind_some] at h
    cases hc : f d.t cs with
    | none =>
      rw [hc] at h
      have : ∀ l : List Ty, l.foldl (fun o u => o.bind (f u)) none = none := by
        intro l
        induction l with
        | nil => rfl
        | cons _ _ ih => simpa using ih
      rw [this] at h
      cases h
    | some r1 =>
      rw [hc] at h
      obtain ⟨n, hn⟩ := hz d (by simp)
      obtain ⟨c1, rfl, h1, h1'⟩ := hf d.t _ _ hc _ _ hn
      obtain ⟨c2, rfl, h2, h2'⟩ := zero_fields hf ds _ _ (fun d' hd' => hz d' (by simp [hd'])) h
      refine ⟨c1 ++ c2, by rw [List.append_assoc], .cons h1 h2, fun η own dd j hη hd => .cons (h1' _ _ _ (fun q => hη _) (fun q => by rw [subP_contains]; exact hd _)) (h2' η own dd (j + 1) hη hd)⟩
theorem zero_rep (hU : ULaw U) {F : Nat → Prop} {w : World} : ∀ (n : Nat) (t : Ty), ZeroOk U F w t (zeroCells U n t)
  | 0, t => fun cs r h => by simp [zeroCells] at h
  | n + 1, t => by
    intro cs r h m z hz
    have ih := zero_rep hU (F := F) (w := w) n
    cases m with
    | zero => simp [zeroD] at hz
    | succ m =>
    cases t with
    | int k =>
      simp only [zeroD, Option.some.injEq] at hz
      subst hz
      rcases cs with _ | ⟨v, r0⟩
      · simp [zeroCells] at h
      cases v <;> try (simp [zeroCells] at h; done)
      rename_i j i
      by_cases hi : i = 0
      · subst hi
        simp only [zeroCells] at h
        split at h
        · rename_i hk
          simp only [decide_eq_true_eq] at hk
          simp only [Option.some.injEq] at h
          subst hk
          subst h
          exact ⟨[_], rfl, .int (fitInt_zero _), fun _ _ _ _ _ => .leaf rfl rfl (.int (fitInt_zero _))⟩
        · cases h
      · unfold zeroCells at h
        split at h
        · rename_i heq; cases heq; exact absurd rfl hi
        all_goals (first | (cases h; done) | (rename_i heq _; cases heq; done) | (rename_i heq; cases heq; done))
    | bool =>
      simp only [zeroD, Option.some.injEq] at hz
      subst hz
      rcases cs with _ | ⟨v, r0⟩
      · simp [zeroCells] at h
      cases v <;> try (simp [zeroCells] at h; done)
      rename_i b
      cases b
      · simp only [zeroCells, Option.some.injEq] at h
        subst h
        exact ⟨[_], rfl, .bool, fun _ _ _ _ _ => .leaf rfl rfl .bool⟩
      · simp [zeroCells] at h
    | str =>
      simp only [zeroD, Option.some.injEq] at hz
      subst hz
      rcases cs with _ | ⟨v, r0⟩
      · simp [zeroCells] at h
      cases v <;> try (simp [zeroCells] at h; done)
      rename_i s
      simp only [zeroCells] at h
      split at h
      · rename_i hs
        simp only [Option.some.injEq] at h
        subst h
        have e : s = ByteArray.empty := by
          have : s.size = 0 := by simpa using hs
          have h2 : s.data = #[] := Array.eq_empty_of_size_eq_zero this
          cases s
          simp only at h2
          subst h2
          rfl
        subst e
        exact ⟨[_], rfl, .str (Nat.zero_le _), fun _ _ _ _ _ => .leaf rfl rfl (.str (Nat.zero_le _))⟩
      · cases h
    | sl e =>
      simp only [zeroD, Option.some.injEq] at hz
      subst hz
      rcases cs with _ | ⟨v, r0⟩
      · simp [zeroCells] at h
      cases v <;> try (simp [zeroCells] at h; done)
      rename_i a n m
      have h0 : a = none ∧ n = 0 ∧ m = 0 ∧ r0 = r := by
        unfold zeroCells at h
        split at h
        all_goals (first | (cases h; done) | (rename_i heq _; cases heq; done) | (rename_i heq; cases heq; done) | skip)
        rename_i heq1 heq2
        cases heq2
        simp only [Option.some.injEq] at h
        exact ⟨rfl, rfl, rfl, h⟩
      obtain ⟨rfl, rfl, rfl, rfl⟩ := h0
      exact ⟨[_], rfl, rep_nil e, fun η own dd hη hd => repO_nil hU e (hd []) (hη [])⟩
    | arr k e =>
      simp only [zeroD] at hz
      simp only [zeroCells] at h
      split at hz
      · rename_i z0 hz0
        simp only [Option.map_eq_some_iff] at hz
        obtain ⟨x, hx, rfl⟩ := hz
        have := D.as_some hx
        subst this
        obtain ⟨c, e1, h1⟩ := zero_go (ih e) hz0 k cs r h
        have hr : Rep U F w ⟨.arr k e, List.replicate k x⟩ c := .arr h1 (by simp)
        exact ⟨c, e1, hr, fun _ _ _ _ _ => .leaf rfl rfl hr⟩
      · cases hz
    | st id =>
      simp only [zeroD, Option.map_eq_some_iff] at hz
      obtain ⟨x, hx, rfl⟩ := hz
      simp only [zeroCells] at h
      rw [← hU.tys id x] at h
      obtain ⟨c, e1, h1, h2⟩ := zero_fields ih (U.get id x) cs r (hU.zero id x hx) h
      exact ⟨c, e1, .st h1, fun η own dd hη hd => .st (h2 η own dd 0 hη hd)⟩
end Go.Ev
end
section
namespace Go.Ev
variable {U : Univ} {P : Program}
def aggD : TypeDesc → Bool
  | .struct _ => true
  | .array _ _ => true
  | _ => false
def Info (P : Program) (U : Univ) (T : TypeId) (t : Ty) : Prop :=
  ∃ i d z cs, P.info? T = some i ∧ P.underlying T = some d ∧ aggD d = t.isAgg ∧ Sz U t i.size ∧ 0 < i.size ∧ i.zero = some z ∧ VOf t cs z ∧ zeroCells U deep t cs = some [] ∧ z.cells.size = i.size
def Shape (P : Program) (U : Univ) (T : TypeId) : Ty → Prop
  | .int k => P.underlying T = some (.int k)
  | .bool => P.underlying T = some .bool
  | .str => P.underlying T = some .string
  | .sl e => ∃ E, P.underlying T = some (.slice E) ∧ Info P U E e ∧ ∀ k, e = .int k → P.underlying E = some (.int k)
  | .arr m e => ∃ E, P.underlying T = some (.array m E) ∧ Info P U E e
  | .st id => ∃ fs : Array Field, P.underlying T = some (.struct fs) ∧ fs.size = (U.tys id).length ∧
      ∀ j f, fs[j]? = some f → ∃ t, (U.tys id)[j]? = some t ∧ SzL U ((U.tys id).take j) f.offset ∧ Info P U f.type t
def EqOk (P : Program) (U : Univ) : Nat → TypeId → Ty → Prop
  | 0, _, _ => False
  | n + 1, T, t => match t with
    | .int k => P.underlying T = some (.int k)
    | .bool => P.underlying T = some .bool
    | .str => P.underlying T = some .string
    | .st id => P.stoodInHeld T = false ∧ ∃ fs : Array Field, P.underlying T = some (.struct fs) ∧ fs.size = (U.tys id).length ∧
      ∀ j f, fs[j]? = some f → f.name ≠ "_" ∧ ∃ t, (U.tys id)[j]? = some t ∧ SzL U ((U.tys id).take j) f.offset ∧ Info P U f.type t ∧ EqOk P U n f.type t
    | _ => False
structure GOk (P : Program) (U : Univ) (G : Ctx U) : Prop where
  ty : ∀ T t, G.ty T = some t → Info P U T t ∧ Shape P U T t
  bytes : ∀ T n, G.bytes T = some n → ∃ E i, P.underlying T = some (.slice E) ∧ P.info? E = some i ∧ i.bytes = n ∧ 0 < i.size ∧ i.size ≤ 4096 ∧ 0 < n
  eq : ∀ T id, G.ty T = some (.st id) → eqTy U deep (.st id) = true → P.eqGuardType P.depth T = false ∧ EqOk P U deep T (.st id)
theorem run_underlying' {T : TypeId} {d : TypeDesc} (h : P.underlying T = some d) (w : World) : (underlying T).run P w = .ok d w := by
  simp [underlying, h]
theorem run_isAgg {T : TypeId} {d : TypeDesc} (h : P.underlying T = some d) (w : World) : (isAgg T).run P w = .ok (aggD d) w := by
  simp only [isAgg, Sem.run_bind, run_underlying' h, Result.andThen_ok]
  cases d <;> rfl
theorem run_sizeOf {T : TypeId} {i : TypeInfo} (h : P.info? T = some i) (w : World) : (sizeOf T).run P w = .ok i.size w := by
  simp [sizeOf, typeInfo, h]
theorem add_zero (ad : Addr) : ad.add 0 = ad := by unfold Addr.add; simp
theorem Sz.one {t : Ty} {n : Nat} (h : Sz U t n) (ha : t.isAgg = false) : n = 1 := by
  cases h <;> first | rfl | (simp [Ty.isAgg] at ha)
theorem run_loadVar {T : TypeId} {t : Ty} (hI : Info P U T t) {w : World} {ad : Addr} {cs : List Value} {n : Nat} (hz : Sz U t n) (hl : cs.length = n) (hc : Cells w ad cs) :
    ∃ v, (loadVar T ad).run P w = .ok v w ∧ VOf t cs v := by
  obtain ⟨i, d, z, zs, hi, hu, ha, hs, _, _⟩ := hI
  cases hz.uniq hs
  unfold loadVar
  simp only [Sem.run_bind, run_isAgg hu, Result.andThen_ok]
  cases hag : aggD d with
  | true =>
    simp only [if_true, Sem.run_bind, run_sizeOf hi, Result.andThen_ok, ← hl, run_loadCells_list w ad cs hc, Sem.run_pure]
    exact ⟨_, rfl, by unfold VOf; rw [← ha, hag]; rfl⟩
  | false =>
    simp only [Bool.false_eq_true, if_false, run_load]
    have h1 := hs.one (by rw [← ha, hag])
    rw [h1] at hl
    obtain ⟨v, rfl⟩ := List.length_eq_one_iff.1 hl
    have := hc 0 v rfl
    rw [add_zero] at this
    rw [this]
    exact ⟨v, rfl, by unfold VOf; rw [← ha, hag]; rfl⟩
theorem run_storeVar {T : TypeId} {t : Ty} (hI : Info P U T t) {w : World} {g o : Nat} {cur : Array Value} {tag : TypeId} {v : Value} {cs : List Value} {n : Nat} (hz : Sz U t n) (hl : cs.length = n) (hv : VOf t cs v)
    (h1 : ∀ u ∈ cs, u.oneCell' = true) (hg : w.heap[g]? = some (.cells cur tag (0, 0))) (hfit : o + n ≤ cur.size) :
    (storeVar T ⟨g, o, none⟩ v).run P w = .ok () (w.setRow g (cur.toList.take o ++ cs ++ cur.toList.drop (o + n)).toArray) := by
  obtain ⟨i, d, z, zs, hi, hu, ha, hs, _, _⟩ := hI
  cases hz.uniq hs
  have hc := hv.cells h1
  have hst := run_storeCells_at P g o tag cs 0 cur w hg (by simpa [hl] using hfit) h1
  simp only [Nat.add_zero, hl] at hst
  unfold storeVar
  simp only [Sem.run_bind, run_sizeOf hi, Result.andThen_ok, hc, List.size_toArray, hl, ne_eq, not_true_eq_false, if_false]
  exact hst
theorem run_zeroValue {T : TypeId} {i : TypeInfo} {z : Value} (hi : P.info? T = some i) (hz : i.zero = some z) (w : World) : (zeroValue T).run P w = .ok z w := by
  simp [zeroValue, typeInfo, hi, hz]
theorem run_part {T : TypeId} {t : Ty} (hI : Info P U T t) {w : World} {c1 c c2 : List Value} {n : Nat} (hz : Sz U t n) (hl : c.length = n) :
    ∃ v, (part T (c1 ++ (c ++ c2)).toArray c1.length).run P w = .ok v w ∧ VOf t c v := by
  obtain ⟨i, d, z, zs, hi, hu, ha, hs, _, _⟩ := hI
  cases hz.uniq hs
  unfold part
  simp only [Sem.run_bind, run_isAgg hu, Result.andThen_ok]
  cases hag : aggD d with
  | true =>
    simp only [if_true, Sem.run_bind, run_sizeOf hi, Result.andThen_ok, Sem.run_pure]
    refine ⟨_, rfl, ?_⟩
    unfold VOf
    rw [← ha, hag, if_pos rfl]
    congr 1
    apply Array.ext'
    simp [← hl]
  | false =>
    have h1 := hs.one (by rw [← ha, hag])
    rw [h1] at hl
    obtain ⟨v, rfl⟩ := List.length_eq_one_iff.1 hl
    refine ⟨v, ?_, by unfold VOf; rw [← ha, hag]; rfl⟩
    simp
end Go.Ev
end
section
namespace Go.Ev
variable {U : Univ} {P : Program}
def StepOk (P : Program) (U : Univ) (E : Env) (o : Oper) (σ : St U) (a : Act) (w : World) (us : List (Upd U)) : Prop :=
  ∀ (K : Act → World → Prop) (Q : Exit → Act → World → Prop), (∀ gh' a' w', Sim U E gh' (σ.puts us) a' w' → K a' w') → o.wp P a w K Q
section
variable {E : Env} {gh : Gh} {σ : St U} {a : Act} {w : World} {o : Oper}
theorem StepOk.value (S : Sim U E gh σ a w) (hd : InN E o.dst) {x : AV U} {v : Value} (hx : RepAV U gh σ w x v) (h : (execOp a.eval o).run P w = .ok (.value v) w) : StepOk P U E o σ a w (put o.dst x) := by
  intro K Q hK
  unfold Oper.wp
  rw [h]
  exact hK gh _ _ (S.pure hd hx)
theorem ofConst_rep {v : Value} {av : AV U} (h : (ofConst v : Rd U (AV U)).run σ = some av) : RepAV U gh σ w av v := by
  unfold ofConst at h
  split at h
  · split at h
    · rename_i k n hf
      simp only [decide_eq_true_eq] at hf
      simp only [run_ret, Option.some.injEq] at h
      subst h
      exact .d ⟨_, .int hf, rfl⟩
    · simp at h
  · simp only [run_ret, Option.some.injEq] at h
    subst h
    exact .d ⟨_, .bool, rfl⟩
  · split at h
    · rename_i s hf
      simp only [decide_eq_true_eq] at hf
      simp only [run_ret, Option.some.injEq] at h
      subst h
      exact .d ⟨_, .str (by simp only [maxLen]; omega), rfl⟩
    · simp at h
  · simp only [run_ret, Option.some.injEq] at h
    subst h
    exact .nilsl
  · simp only [run_ret, Option.some.injEq] at h
    subst h
    exact .nilp
  · simp only [run_ret, Option.some.injEq] at h
    subst h
    rename_i cs
    have : RepAV U gh σ w (.cagg cs.toList) (.agg cs.toList.toArray) := .cagg
    simpa using this
  · simp at h
theorem opd_rep (S : Sim U E gh σ a w) {x : Operand} {av : AV U} (h : (opd x : Rd U (AV U)).run σ = some av) : RepAV U gh σ w av (a.eval x) := by
  cases x with
  | tmp t =>
    simp only [opd, run_slot, run_ret, Option.some.injEq] at h
    subst h
    exact S.slots t
  | const v => exact ofConst_rep h
  | func f =>
    simp only [opd, run_ret, Option.some.injEq] at h
    subst h
    exact .fn
  | global g => simp [opd] at h
theorem RepAV.int_inv {k : IntKind} {n : Int} {v : Value} (h : RepAV U gh σ w (.d ⟨.int k, n⟩) v) : v = .int k n ∧ fitInt k n := by
  cases h with
  | d h =>
    obtain ⟨cs, h1, h2⟩ := h
    cases h1 with
    | int h1 => exact ⟨by simpa [VOf, Ty.isAgg] using h2.symm, h1⟩
theorem RepAV.bool_inv {b : Bool} {v : Value} (h : RepAV U gh σ w (.d ⟨.bool, b⟩) v) : v = .bool b := by
  cases h with
  | d h =>
    obtain ⟨cs, h1, h2⟩ := h
    cases h1 with
    | bool => simpa [VOf, Ty.isAgg] using h2.symm
theorem RepAV.str_inv {s : ByteArray} {v : Value} (h : RepAV U gh σ w (.d ⟨.str, s⟩) v) : v = .string s ∧ s.size ≤ maxLen := by
  cases h with
  | d h =>
    obtain ⟨cs, h1, h2⟩ := h
    cases h1 with
    | str h1 => exact ⟨by simpa [VOf, Ty.isAgg] using h2.symm, h1⟩
theorem rep_int {k : IntKind} {n : Int} (h : fitInt k n) : RepAV U gh σ w (.d ⟨.int k, n⟩) (.int k n) := .d ⟨_, .int h, rfl⟩
theorem rep_bool {b : Bool} : RepAV U gh σ w (.d ⟨.bool, b⟩) (.bool b) := .d ⟨_, .bool, rfl⟩
theorem rep_str {s : ByteArray} (h : s.size ≤ maxLen) : RepAV U gh σ w (.d ⟨.str, s⟩) (.string s) := .d ⟨_, .str h, rfl⟩
theorem intOf_some {α : Type} {v : AV U} {K : IntKind → Int → Rd U α} {r : α} (h : (intOf v K).run σ = some r) : ∃ k n, v = .d ⟨.int k, n⟩ ∧ (K k n).run σ = some r := by
  unfold intOf at h
  split at h
  · exact ⟨_, _, rfl, h⟩
  · simp at h
theorem boolOf_some {α : Type} {v : AV U} {K : Bool → Rd U α} {r : α} (h : (boolOf v K).run σ = some r) : ∃ b, v = .d ⟨.bool, b⟩ ∧ (K b).run σ = some r := by
  unfold boolOf at h
  split at h
  · exact ⟨_, rfl, h⟩
  · simp at h
theorem bind_some' {α β : Type} {r : Rd U α} {f : α → Rd U β} {y : β} (h : (r.bind f).run σ = some y) : ∃ x, r.run σ = some x ∧ (f x).run σ = some y := by
  rw [Rd.run_bind] at h
  exact Option.bind_eq_some_iff.1 h
theorem fit_wrap (k : IntKind) (n : Int) : fitInt k (k.wrap n) := by
  exact wrap_within k n
theorem eqGuard_plain {op : BinOp} {T : TypeId} {x y : Operand} {u v : Value} (h1 : ∀ cs, u ≠ .agg cs) (h2 : u ≠ .nilIface) : (eqGuard op T x y u v).run P w = .ok () w := by
  unfold eqGuard
  cases u <;> first | (exact absurd rfl h2) | (exact absurd rfl (h1 _)) | (cases op <;> rfl)
theorem fit_tmod {k : IntKind} {x y : Int} (hx : fitInt k x) (h0 : ¬ y = 0) : fitInt k (x.tmod y) := by
  have h := Int.tmod_lt_of_pos x (b := (y.natAbs : Int)) (by omega)
  have h3 : x.tmod y = x.tmod (y.natAbs : Int) := by
    rcases Int.natAbs_eq y with e | e
    · rw [← e]
    · rw [e, Int.tmod_neg, Int.natAbs_neg, Int.natAbs_natCast]
  have h4 : (x.tmod y).natAbs ≤ x.natAbs := by
    rw [Int.natAbs_tmod]
    exact Nat.mod_le _ _
  have h5 : 0 ≤ x → 0 ≤ x.tmod y := fun hx => Int.tmod_nonneg _ hx
  have h6 : x ≤ 0 → x.tmod y ≤ 0 := fun hx => by
    have := Int.tmod_nonneg y (a := -x) (by omega)
    rw [Int.neg_tmod] at this
    omega
  unfold fitInt at *
  rcases Int.le_total 0 x with hp | hn
  · have := h5 hp
    have hm : k.min ≤ 0 := (fitInt_zero k).1
    omega
  · have := h6 hn
    have hm : 0 ≤ k.max := (fitInt_zero k).2
    omega
theorem intBin_rep {op : BinOp} {T : TypeId} {k : IntKind} {x y : Int} {av : AV U} (hx : fitInt k x) (h : (intBin op k x y : Rd U (AV U)).run σ = some av) :
    ∃ v, (binOp op T (.int k x) (.int k y)).run P w = .ok v w ∧ RepAV U gh σ w av v := by
  unfold intBin at h
  cases op <;> simp only [run_ret, run_fail, run_chk, Option.some.injEq, reduceCtorEq] at h
  case quo =>
    split at h
    · rename_i h0
      simp only [Option.some.injEq] at h
      subst h
      refine ⟨_, ?_, rep_int (fit_wrap _ _)⟩
      simp [binOp, Op.intDiv, h0]
    · cases h
  case rem =>
    split at h
    · rename_i h0
      simp only [Option.some.injEq] at h
      subst h
      refine ⟨_, ?_, rep_int (fit_tmod hx h0)⟩
      simp [binOp, Op.intDiv, h0]
    · cases h
  all_goals (subst h)
  all_goals first
    | exact ⟨_, by simp [binOp, Op.intArith, Op.intBits, Op.intCmp]; rfl, rep_int (fit_wrap _ _)⟩
    | exact ⟨_, by simp [binOp, Op.intArith, Op.intBits, Op.intCmp]; rfl, rep_bool⟩
    | exact ⟨_, by simp [binOp, Op.intArith, Op.intBits, Op.intCmp], rep_int (fit_wrap _ _)⟩
    | exact ⟨_, by simp [binOp, Op.intArith, Op.intBits, Op.intCmp], rep_bool⟩
end
end Go.Ev
end
section
namespace Go.Ev
variable {U : Univ} {P : Program}
section
variable {E : Env} {gh : Gh} {σ : St U} {a : Act} {w : World} {o : Oper}
theorem fit_fdiv {k : IntKind} {x : Int} (hx : fitInt k x) (n : Nat) : fitInt k (x.fdiv (2 ^ n)) := by
  have hp : (0 : Int) < 2 ^ n := Int.pow_pos (by decide)
  rw [Int.fdiv_eq_ediv_of_nonneg _ (Int.le_of_lt hp)]
  unfold fitInt at *
  have hm : k.min ≤ 0 := (fitInt_zero k).1
  have hM : 0 ≤ k.max := (fitInt_zero k).2
  rcases Int.le_total 0 x with h | h
  · have h1 := Int.ediv_nonneg h (Int.le_of_lt hp)
    have h2 := Int.ediv_le_self (2 ^ n) h
    omega
  · have h1 : x ≤ x / 2 ^ n := by
      rw [Int.le_ediv_iff_mul_le hp]
      have : (1 : Int) ≤ 2 ^ n := hp
      have := Int.mul_le_mul_of_nonpos_left h this
      omega
    have h2 : x / 2 ^ n ≤ 0 := by
      have := Int.ediv_le_ediv hp h
      simpa using this
    omega
theorem lessB_eq : ∀ x y : List UInt8, lessB x y = Op.bytesLess x y
  | _, [] => by simp [lessB, Op.bytesLess]
  | [], _ :: _ => rfl
  | a :: x, b :: y => by simp only [lessB, Op.bytesLess, lessB_eq x y]
theorem room_max {n : Nat} (h : room n) : n ≤ maxLen := by
  rw [room_iff] at h
  simp only [maxLen]
  omega
theorem strBin_rep {op : BinOp} {T : TypeId} {x y : ByteArray} {av : AV U} {G : Ctx U} (h : (opBin G op T (.d ⟨.str, x⟩) (.d ⟨.str, y⟩) : Rd U (AV U)).run σ = some av) :
    ∃ v, (binOp op T (.string x) (.string y)).run P w = .ok v w ∧ RepAV U gh σ w av v := by
  unfold opBin at h
  cases op <;> simp only [run_ret, run_fail, run_chk, Option.some.injEq, reduceCtorEq] at h
  case add =>
    split at h
    · rename_i h0
      simp only [Option.some.injEq] at h
      subst h
      have hm := room_max h0
      refine ⟨_, ?_, rep_str (s := x ++ y) (by simpa [ByteArray.size_append] using hm)⟩
      have : ¬ (((x.size + y.size : Nat) : Int) > IntKind.i64.max) := by
        simp only [maxLen] at hm
        have : IntKind.i64.max = 9223372036854775807 := by decide
        omega
      simp only [binOp, Op.stringOp, if_neg this]
      rfl
    · cases h
  all_goals (subst h; refine ⟨_, ?_, rep_bool⟩; simp only [binOp, Op.stringOp, ByteArray.toList_eq, lessB_eq]; rfl)
theorem boolBin_rep {op : BinOp} {T : TypeId} {x y : Bool} {av : AV U} {G : Ctx U} (hG : GOk P U G) (h : (opBin G op T (.d ⟨.bool, x⟩) (.d ⟨.bool, y⟩) : Rd U (AV U)).run σ = some av) :
    ∃ v, (binOp op T (.bool x) (.bool y)).run P w = .ok v w ∧ RepAV U gh σ w av v := by
  unfold opBin at h
  have key : G.ty T = some .bool → (Op.equal T (.bool x) (.bool y)).run P w = .ok (x == y) w := by
    intro hT
    have := (hG.ty T _ hT).2
    simp only [Op.equal, Op.maxDepth]
    rw [show (10000 : Nat) = 9999 + 1 from rfl, Op.equalIn]
    simp only [Sem.run_bind, run_underlying' this, Result.andThen_ok]
    rfl
  cases op <;> simp only [run_ret, run_fail, run_chk, Option.some.injEq, reduceCtorEq] at h
  all_goals
    split at h
    all_goals first
      | contradiction
      | (simp only [run_ret, Option.some.injEq] at h
         subst h
         rename_i hT
         refine ⟨_, ?_, rep_bool⟩
         simp only [binOp, Sem.run_bind, key hT, Result.andThen_ok, Sem.run_pure])
      | (simp only [run_fail, reduceCtorEq] at h)
theorem opUn_rep {op : UnOp} {x : AV U} {u : Value} {av : AV U} (hx : RepAV U gh σ w x u) (h : (opUn op x : Rd U (AV U)).run σ = some av) :
    ∃ v, (Op.unary op u).run P w = .ok v w ∧ RepAV U gh σ w av v := by
  unfold opUn at h
  split at h
  · cases hx.bool_inv
    simp only [run_ret, Option.some.injEq] at h
    subst h
    exact ⟨_, rfl, rep_bool⟩
  · obtain ⟨rfl, _⟩ := hx.int_inv
    simp only [run_ret, Option.some.injEq] at h
    subst h
    exact ⟨_, rfl, rep_int (fit_wrap _ _)⟩
  · obtain ⟨rfl, _⟩ := hx.int_inv
    simp only [intBin, run_ret, Option.some.injEq] at h
    subst h
    exact ⟨_, rfl, rep_int (fit_wrap _ _)⟩
  · simp at h
end
end Go.Ev
end
section
namespace Go.Ev
variable {U : Univ} {P : Program}
mutual
theorem RepO.plain {F : Nat → Prop} {w : World} : ∀ {η : Hdr} {own dd : List (List Nat)} {x : U.D} {cs : List Value}, (∀ q, own.contains q = true → η q = (none, 0)) → (∀ q, dd.contains q = false) → RepO U F w η own dd x cs → Rep U F w x cs
  | _, _, _, _, _, _, hd, .dead h1 _ _ _ => by rw [hd] at h1; cases h1
  | _, _, _, _, _, _, _, .leaf _ _ h => h
  | _, _, _, _, _, _, _, .frz _ _ h _ => h
  | _, _, _, _, _, hη, _, .row (e := e) (l := l) (a := a) (cap := cap) h1 _ _ _ h6 h7 => by
    rw [hη [] h1] at h7
    cases h7
    rcases h6.2 with ⟨e1, e2⟩ | ⟨g, c, cur, e1, _⟩
    · have : l = [] := List.eq_nil_of_length_eq_zero e2
      subst this
      exact rep_nil e
    · simp at e1
  | _, _, _, _, _, hη, hd, .st h => .st (RepOL.plain hη hd h)
theorem RepOL.plain {F : Nat → Prop} {w : World} : ∀ {η : Hdr} {own dd : List (List Nat)} {j : Nat} {x : List U.D} {cs : List Value}, (∀ q, own.contains q = true → η q = (none, 0)) → (∀ q, dd.contains q = false) → RepOL U F w η own dd j x cs → RepL U F w x cs
  | _, _, _, _, _, _, _, _, .nil => .nil
  | _, _, _, _, _, _, hη, hd, .cons h hs => .cons (RepO.plain (fun q hq => hη _ (by rw [← subP_contains]; exact hq)) (fun q => by rw [subP_contains]; exact hd _) h) (RepOL.plain hη hd hs)
end
theorem At.snoc_fld {id j o' : Nat} {u : Ty} (h1 : (U.tys id)[j]? = some u) (h2 : SzL U ((U.tys id).take j) o') : ∀ {p : List Step} {t : Ty} {o : Nat}, At U t p o (.st id) → At U t (p ++ [.fld j]) (o + o') u
  | [], t, o, h => by
    obtain ⟨rfl, rfl⟩ := h.nil_inv
    rw [Nat.zero_add]
    exact .fld h1 h2 .nil
  | s :: p, t, o, h => by
    cases h with
    | fld g1 g2 g3 => rw [Nat.add_assoc]; exact .fld g1 g2 (At.snoc_fld h1 h2 g3)
    | ix g1 g2 g3 g4 => rw [Nat.add_assoc]; exact .ix g1 g2 g3 (At.snoc_fld h1 h2 g4)
theorem At.snoc_ix {m n : Nat} {e : Ty} {i : Int} (h0 : 0 ≤ i) (h1 : i < m) (h2 : Sz U e n) : ∀ {p : List Step} {t : Ty} {o : Nat}, At U t p o (.arr m e) → At U t (p ++ [.ix i]) (o + i.toNat * n) e
  | [], t, o, h => by
    obtain ⟨rfl, rfl⟩ := h.nil_inv
    rw [Nat.zero_add]
    exact .ix h0 h1 h2 .nil
  | s :: p, t, o, h => by
    cases h with
    | fld g1 g2 g3 => rw [Nat.add_assoc]; exact .fld g1 g2 (At.snoc_ix h0 h1 h2 g3)
    | ix g1 g2 g3 g4 => rw [Nat.add_assoc]; exact .ix g1 g2 g3 (At.snoc_ix h0 h1 h2 g4)
theorem hasIx_snoc : ∀ (p : List Step) (j : Nat), hasIx (p ++ [.fld j]) = hasIx p
  | [], _ => rfl
  | .fld _ :: p, j => hasIx_snoc p j
  | .ix _ :: _, _ => rfl
theorem add_none (b o n : Nat) : (⟨b, o, none⟩ : Addr).add n = ⟨b, o + n, none⟩ := by
  unfold Addr.add
  split <;> simp_all
section
variable {E : Env} {gh : Gh} {σ : St U} {a : Act} {w : World} {o : Oper}
theorem PtrAt.fld {k j o' : Nat} {b : Blk U} {p : List Step} {id : Nat} {u : Ty} {ad : Addr} (h1 : (U.tys id)[j]? = some u) (h2 : SzL U ((U.tys id).take j) o') (h : PtrAt gh k b p (.st id) ad) : PtrAt gh k b (p ++ [.fld j]) u (ad.add o') := by
  cases h with
  | mem e1 e2 =>
    rw [add_none]
    exact .mem e1 (e2.snoc_fld h1 h2)
  | row e1 e2 e3 e4 e5 e6 =>
    rw [add_none, Nat.add_assoc, Nat.add_assoc, List.append_assoc, List.cons_append]
    exact .row e1 e2 e3 e4 e5 (e6.snoc_fld h1 h2)
theorem PtrAt.ix {k m n : Nat} {b : Blk U} {p : List Step} {e : Ty} {i : Int} {ad : Addr} (h0 : 0 ≤ i) (h1 : i < m) (h2 : Sz U e n) (h : PtrAt gh k b p (.arr m e) ad) : PtrAt gh k b (p ++ [.ix i]) e (ad.add (i.toNat * n)) := by
  cases h with
  | mem e1 e2 =>
    rw [add_none]
    exact .mem e1 (e2.snoc_ix h0 h1 h2)
  | row e1 e2 e3 e4 e5 e6 =>
    rw [add_none, Nat.add_assoc, Nat.add_assoc, List.append_assoc, List.cons_append]
    exact .row e1 e2 e3 e4 e5 (e6.snoc_ix h0 h1 h2)
theorem PtrAt.spot {k : Nat} {b : Blk U} {p : List Step} {t : Ty} {ad : Addr} (h : PtrAt gh k b p t ad) : ad.spot = none := by
  cases h <;> rfl
theorem hasIx_ix (p : List Step) (i : Int) : hasIx (p ++ [.ix i]) = true := by
  induction p with
  | nil => rfl
  | cons s p ih => cases s with
    | fld j => exact ih
    | ix j => rfl
theorem run_fieldPlace {T : TypeId} {t : Ty} (hI : Info P U T t) {f : Field} (hf : f.type = T) (ad : Addr) : (fieldPlace ad f).run P w = .ok (ad.add f.offset) w := by
  obtain ⟨i, d, z, zs, hi, hu, ha, hs, hp, _⟩ := hI
  subst hf
  unfold fieldPlace
  simp only [Sem.run_bind, run_sizeOf hi, Result.andThen_ok]
  rw [if_neg (by omega)]
  rfl
theorem run_fieldAt {T : TypeId} {fs : Array Field} {f : Field} {j : Nat} (hu : P.underlying T = some (.struct fs)) (hf : fs[j]? = some f) {t : Ty} (hI : Info P U f.type t) (ad : Addr) :
    (Instr.fieldAt T (.pointer (some ad)) j).run P w = .ok (.pointer (some (ad.add f.offset))) w := by
  unfold Instr.fieldAt
  simp only [Sem.run_bind, run_underlying' hu, Result.andThen_ok, hf, Instr.sureAddr, Sem.run_pure, run_fieldPlace hI rfl]
theorem shape_field {id : Nat} {fs : Array Field} (hsz : fs.size = (U.tys id).length) {j : Nat} (hj : j < (U.tys id).length) : ∃ f, fs[j]? = some f := ⟨fs[j]'(by omega), by simp [hsz, hj]⟩
theorem opFieldAddr_rep {G : Ctx U} (hU : ULaw U) (hG : GOk P U G) {T : TypeId} {x : AV U} {u : Value} {j : Nat} {av : AV U} (hx : RepAV U gh σ w x u) (h : (opFieldAddr G T x j : Rd U (AV U)).run σ = some av) :
    ∃ v, (∀ w' : World, (Instr.fieldAt T u j).run P w' = .ok v w') ∧ RepAV U gh σ w av v := by
  unfold opFieldAddr at h
  split at h
  · rename_i i k v p id hT
    split at h
    · rename_i hi
      simp only [beq_iff_eq] at hi
      subst hi
      split at h
      · rename_i t ht
        simp only [run_ret, Option.some.injEq] at h
        subst h
        obtain ⟨fs, hu, hsz, hfs⟩ := (hG.ty T _ hT).2
        obtain ⟨f, hf⟩ := shape_field (U := U) (j := j) hsz (getElem?_lt ht)
        obtain ⟨t', ht', ho, hI⟩ := hfs j f hf
        cases ht.symm.trans ht'
        cases hx with
        | ptr hb =>
          obtain ⟨b, hb, h1, h2⟩ := hb
          refine ⟨_, fun _ => run_fieldAt hu hf hI _, .ptr ⟨b, hb, h1, fun hc => ?_⟩⟩
          rw [hasIx_snoc] at hc
          exact (h2 hc).fld ht ho
      · simp at h
    · simp at h
  · rename_i i id x0 hT
    split at h
    · rename_i hi
      simp only [beq_iff_eq] at hi
      subst hi
      split at h
      · rename_i y hy
        simp only [run_ret, Option.some.injEq] at h
        subst h
        obtain ⟨fs, hu, hsz, hfs⟩ := (hG.ty T _ hT).2
        have hl : (U.get i x0).length = (U.tys i).length := by rw [← hU.tys i x0]; simp
        obtain ⟨f, hf⟩ := shape_field (U := U) (j := j) hsz (by have := getElem?_lt hy; omega)
        obtain ⟨t', ht', ho, hI⟩ := hfs j f hf
        cases hx with
        | vptr h1 h2 h3 h4 =>
          cases h4 with
          | st h4 =>
            obtain ⟨c1, c, c2, rfl, g1, g2, g3⟩ := h4.get hy
            have hlen : c1.length = f.offset := g1.offset hU (by rw [hU.tys i x0]; exact ho)
            refine ⟨_, fun _ => run_fieldAt hu hf hI _, .vptr (add_spot _ h1) (by rw [add_block]; exact h2) ?_ g2⟩
            have := (h3.drop h1 f.offset)
            rw [← hlen, List.drop_append_of_le_length (Nat.le_refl _), List.drop_length, List.nil_append] at this
            rw [← hlen]
            intro j' v' hj'
            exact this j' v' (by rw [List.getElem?_append_left (getElem?_lt hj')]; exact hj')
      · simp at h
    · simp at h
  · simp at h
theorem opField_rep {G : Ctx U} (hU : ULaw U) (hG : GOk P U G) {T : TypeId} {x : AV U} {u : Value} {j : Nat} {av : AV U} (hx : RepAV U gh σ w x u) (h : (opField G T x j : Rd U (AV U)).run σ = some av) :
    ∃ v, (Instr.field T u j).run P w = .ok v w ∧ RepAV U gh σ w av v := by
  have key : ∀ {i : Nat} {x0 : U.car i} {cs : List Value} {y : U.D}, G.ty T = some (.st i) → RepL U gh.F w (U.get i x0) cs → (U.get i x0)[j]? = some y →
      ∃ v, (Instr.field T (.agg cs.toArray) j).run P w = .ok v w ∧ RepAV U gh σ w (.d y) v := by
    intro i x0 cs y hT h4 hy
    obtain ⟨fs, hu, hsz, hfs⟩ := (hG.ty T _ hT).2
    have hl : (U.get i x0).length = (U.tys i).length := by rw [← hU.tys i x0]; simp
    obtain ⟨f, hf⟩ := shape_field (U := U) (j := j) hsz (by have := getElem?_lt hy; omega)
    obtain ⟨t', ht', ho, hI⟩ := hfs j f hf
    have hyt : y.t = t' := by
      have e := hU.tys i x0
      have : ((U.get i x0).map D.t)[j]? = some y.t := by simp [hy]
      rw [e, ht'] at this
      simpa using this.symm
    obtain ⟨c1, c, c2, rfl, g1, g2, g3⟩ := h4.get hy
    have hlen : c1.length = f.offset := g1.offset hU (by rw [hU.tys i x0]; exact ho)
    obtain ⟨n, hn⟩ := hasSize hU t'
    have hcl : c.length = n := g2.length hU (by rw [hyt]; exact hn)
    obtain ⟨v, hv, hvo⟩ := run_part hI (w := w) (c1 := c1) (c2 := c2) hn hcl
    refine ⟨v, ?_, .d ⟨c, g2, by rw [hyt]; exact hvo⟩⟩
    unfold Instr.field
    simp only [Sem.run_bind, run_underlying' hu, Result.andThen_ok, hf, asAgg, Sem.run_pure, ← hlen]
    exact hv
  unfold opField at h
  split at h
  · rename_i i id x0 ns hT
    split at h
    · rename_i hi
      simp only [beq_iff_eq] at hi
      subst hi
      split at h
      · rename_i y hy
        simp only [run_ret, Option.some.injEq] at h
        subst h
        cases hx with
        | dz h1 h0 h2 => exact key hT (RepOL.plain h0 (fun _ => rfl) h2.st_inv) hy
      · simp at h
    · simp at h
  · rename_i i id x0 hT
    split at h
    · rename_i hi
      simp only [beq_iff_eq] at hi
      subst hi
      split at h
      · rename_i y hy
        simp only [run_ret, Option.some.injEq] at h
        subst h
        cases hx with
        | d h1 =>
          obtain ⟨cs, h1, h2⟩ := h1
          simp only [VOf, Ty.isAgg, if_true] at h2
          subst h2
          cases h1 with
          | st h1 => exact key hT h1 hy
      · simp at h
    · simp at h
  · simp at h
end
end Go.Ev
end
section
namespace Go.Ev
variable {U : Univ} {P : Program}
section
variable {E : Env} {gh : Gh} {σ : St U} {a : Act} {w : World} {o : Oper}
theorem rowOf_some {α : Type} {k v : Nat} {q : List Nat} {K : Blk U → U.D → Rd U α} {r : α} (h : (rowOf k v q K).run σ = some r) :
    ∃ b x, σ.blk k = some b ∧ (∀ o ∈ b.dead, pre o q = false ∧ pre q o = false) ∧ v = b.ver ∧ getQ U q b.x = some x ∧ (K b x).run σ = some r := by
  unfold rowOf at h
  simp only [run_blk] at h
  split at h
  · rename_i b hb
    split at h
    · rename_i hc
      simp only [Bool.and_eq_true, List.all_eq_true, beq_iff_eq, Bool.not_eq_true', Bool.or_eq_false_iff] at hc
      split at h
      · rename_i x hx
        exact ⟨b, x, hb, hc.1, hc.2, hx, h⟩
      · simp at h
    · simp at h
  · simp at h
theorem pre_self : ∀ q : List Nat, pre q q = true
  | [] => rfl
  | a :: q => by simp [pre, pre_self q]
theorem dead_no {b : Blk U} {q : List Nat} (h : ∀ o ∈ b.dead, pre o q = false ∧ pre q o = false) : b.dead.contains q = false := by
  cases hc : b.dead.contains q with
  | false => rfl
  | true =>
    have := (h q (by simpa using hc)).1
    rw [pre_self] at this
    cases this
theorem run_indexSlice {T EE : TypeId} (hu : P.underlying T = some (.slice EE)) {i : TypeInfo} (hi : P.info? EE = some i) {k : IntKind} {n : Int} {ad : Addr} {len cap : Nat} (h0 : 0 ≤ n) (h1 : n < len) :
    (Instr.indexAt T (.slice (some ad) len cap) (.int k n)).run P w = .ok (.pointer (some (ad.add (n.toNat * i.size)))) w := by
  unfold Instr.indexAt
  simp [asIntOf, run_underlying' hu, run_sizeOf hi, h0, h1]
theorem run_indexArr {T EE : TypeId} {m : Nat} (hu : P.underlying T = some (.array m EE)) {i : TypeInfo} (hi : P.info? EE = some i) {k : IntKind} {n : Int} {ad : Addr} (h0 : 0 ≤ n) (h1 : n < m) :
    (Instr.indexAt T (.pointer (some ad)) (.int k n)).run P w = .ok (.pointer (some (ad.add (n.toNat * i.size)))) w := by
  unfold Instr.indexAt
  simp [asIntOf, run_underlying' hu, run_sizeOf hi, h0, h1, Instr.sureAddr]
theorem elem_cells {F : Nat → Prop} (hU : ULaw U) {e : Ty} {l : List (e.den U.car)} {xs : List Value} {n : Nat} (hz : Sz U e n) (hr : RepL U F w (l.map (D.mk e)) xs) {i : Nat} {x : e.den U.car} (hi : l[i]? = some x) {ad : Addr} (hs : ad.spot = none) (hc : Cells w ad xs) :
    ∃ c, Rep U F w ⟨e, x⟩ c ∧ Cells w (ad.add (i * n)) c ∧ c.length = n := by
  have hi' : (l.map (D.mk e) : List U.D)[i]? = some ⟨e, x⟩ := by simp [hi]
  obtain ⟨c1, c, c2, rfl, g1, g2, g3⟩ := hr.get hi'
  have hl : c1.length = i * n := by
    rw [← List.map_take] at g1
    rw [g1.length_map hU hz, List.length_take]
    have := getElem?_lt hi
    congr 1
    omega
  refine ⟨c, g2, ?_, g2.length hU hz⟩
  have := hc.drop hs (i * n)
  rw [← hl, List.drop_append_of_le_length (Nat.le_refl _), List.drop_length, List.nil_append] at this
  rw [← hl]
  intro j' v' hj'
  exact this j' v' (by rw [List.getElem?_append_left (getElem?_lt hj')]; exact hj')
theorem opIndexAddr_rep {G : Ctx U} (hU : ULaw U) (hG : GOk P U G) (S : Sim U E gh σ a w) {T : TypeId} {x i : AV U} {u ui : Value} {av : AV U} (hx : RepAV U gh σ w x u) (hi : RepAV U gh σ w i ui) (h : (opIndexAddr G T x i : Rd U (AV U)).run σ = some av) :
    ∃ v, (∀ w' : World, (Instr.indexAt T u ui).run P w' = .ok v w') ∧ RepAV U gh σ w av v := by
  unfold opIndexAddr at h
  replace h := intOf_some h
  obtain ⟨ik, n, rfl, h⟩ := h
  obtain ⟨rfl, _⟩ := hi.int_inv
  split at h
  · rename_i e e' l hT
    split at h
    · rename_i he
      cases Ty.beq_eq he
      simp only [run_opt, Option.bind_eq_some_iff, run_ret, Option.some.injEq] at h
      obtain ⟨y, hy, rfl⟩ := h
      obtain ⟨h0, hy⟩ := idx_some hy
      obtain ⟨EE, hu, ⟨ii, d, z, zs, hii, _, _, hs, _⟩, _⟩ := (hG.ty T _ hT).2
      cases hx with
      | d h1 =>
        obtain ⟨cs, h1, h2⟩ := h1
        simp only [VOf, Ty.isAgg, Bool.false_eq_true, if_false] at h2
        cases h1 with
        | sl g1 g2 g3 g4 =>
          cases h2
          obtain ⟨rfl, f2, f3, f4⟩ := g2 (by intro e; rw [e] at hy; simp at hy)
          obtain ⟨c, r1, r2, r3⟩ := elem_cells hU hs g1 hy f2 f4
          refine ⟨_, fun _ => run_indexSlice hu hii h0 (by have := getElem?_lt hy; omega), .vptr (add_spot _ f2) (by rw [add_block]; exact f3) r2 r1⟩
    · simp at h
  · rename_i e k ver q wn hT
    replace h := rowOf_some h
    obtain ⟨b, x, hb, hd, hv, hg, h⟩ := h
    split at h
    · rename_i e' l
      split at h
      · rename_i he
        cases Ty.beq_eq he
        obtain ⟨EE, hu, ⟨ii, d, z, zs, hii, _, _, hs, _⟩, _⟩ := (hG.ty T _ hT).2
        have R := S.rowAt hU hb (dead_no hd) hg
        cases hx with
        | row _ hr =>
          obtain ⟨b', hb', _, hr⟩ := hr
          cases hb.symm.trans hb'
          replace hr := hr hv e l hg
          obtain ⟨m, hm, hr⟩ := hr
          cases hm.uniq hs
          obtain ⟨o, ho⟩ := At.ofGet hU q _ _ ((getQ_eq q b.x).symm.trans hg)
          obtain ⟨r1, r2, n', xs, r3, r4, r5⟩ := R
          have pt : ∀ (j : Int) (ad : Addr), 0 ≤ j → (gh.hdr k q).1 = some ad → ad.spot = none → RepAV U gh σ w (.ptr k ver (q.map .fld ++ [.ix j]) e) (.pointer (some (ad.add (j.toNat * ii.size)))) := by
            intro j ad hj had hsp
            refine .ptr ⟨b, hb, by omega, fun _ => ?_⟩
            obtain ⟨bb, oo, ss⟩ := ad
            simp only at hsp
            subst hsp
            rw [add_none]
            have := PtrAt.row (gh := gh) (k := k) (b := b) (p := []) (i := j) ho (show gh.hdr k q = (some ⟨bb, oo, none⟩, (gh.hdr k q).2) from by rw [← had]) rfl hj hs .nil
            simpa using this
          split at h
          · simp only [run_chk, run_ret] at h
            split at h
            · rename_i hb1
              simp only [Option.some.injEq] at h
              subst h
              simp only [RowVal] at hr
              subst hr
              obtain ⟨ad, had, hsp, _⟩ := r5 (by intro e; rw [e] at hb1; simp at hb1; omega)
              refine ⟨_, fun _ => ?_, pt n ad hb1.1 had hsp⟩
              rw [had]
              exact run_indexSlice hu hii hb1.1 hb1.2
            · cases h
          · rename_i m
            simp only [run_chk, run_ret] at h
            split at h
            · rename_i hb1
              simp only [Option.some.injEq] at h
              subst h
              obtain ⟨s1, s2, rfl⟩ := hr
              obtain ⟨ad, had, hsp, _⟩ := r5 (by intro e; rw [e] at s2; simp at s2; omega)
              refine ⟨_, fun _ => ?_, pt n ad hb1.1 had hsp⟩
              rw [had]
              exact run_indexSlice hu hii hb1.1 (by omega)
            · cases h
          · rename_i m
            simp only [run_chk, run_ret] at h
            split at h
            · rename_i hb1
              simp only [Option.some.injEq] at h
              subst h
              obtain ⟨s1, s2, rfl, _⟩ := hr
              obtain ⟨ad, had, hsp, _⟩ := r5 (by intro e; rw [e] at s2; simp at s2; omega)
              refine ⟨_, fun _ => ?_, pt n ad hb1.1 had hsp⟩
              rw [had]
              exact run_indexSlice hu hii hb1.1 (by omega)
            · cases h
          · rename_i oo m
            simp only [run_chk, run_ret] at h
            split at h
            · rename_i hb1
              simp only [Option.some.injEq] at h
              subst h
              obtain ⟨s0, s1, s2, aa, c, rfl, s4, s5, s6⟩ := hr
              obtain ⟨ad, had, hsp, _⟩ := r5 (by intro e; rw [e] at s2; simp at s2; omega)
              have e1 := s6 (by omega) ad had
              subst e1
              refine ⟨_, fun _ => run_indexSlice hu hii hb1.1 (by omega), ?_⟩
              have := pt (oo + n) ad (by omega) had hsp
              rw [add_add hsp, ← Nat.add_mul, show oo.toNat + n.toNat = (oo + n).toNat by omega]
              exact this
            · cases h
      · simp at h
    · simp at h
  · rename_i m e m' e' l hT
    split at h
    · rename_i he
      simp only [Bool.and_eq_true, beq_iff_eq] at he
      obtain ⟨rfl, he⟩ := he
      cases Ty.beq_eq he
      simp only [run_opt, Option.bind_eq_some_iff, run_ret, Option.some.injEq] at h
      obtain ⟨y, hy, rfl⟩ := h
      obtain ⟨h0, hy⟩ := idx_some hy
      obtain ⟨EE, hu, ⟨ii, d, z, zs, hii, _, _, hs, _⟩⟩ := (hG.ty T _ hT).2
      cases hx with
      | vptr h1 h2 h3 h4 =>
        cases h4 with
        | arr g1 g2 =>
          obtain ⟨c, r1, r2, r3⟩ := elem_cells hU hs g1 hy h1 h3
          exact ⟨_, fun _ => run_indexArr hu hii h0 (by have := getElem?_lt hy; omega), .vptr (add_spot _ h1) (by rw [add_block]; exact h2) r2 r1⟩
    · simp at h
  · rename_i m e k v p m' e' hT
    split at h
    · rename_i he
      simp only [Bool.and_eq_true, beq_iff_eq] at he
      obtain ⟨rfl, he⟩ := he
      cases Ty.beq_eq he
      simp only [run_chk, run_ret] at h
      split at h
      · rename_i hb1
        simp only [Option.some.injEq] at h
        subst h
        obtain ⟨EE, hu, ⟨ii, d, z, zs, hii, _, _, hs, _⟩⟩ := (hG.ty T _ hT).2
        cases hx with
        | ptr hb =>
          obtain ⟨b, hb, h1, h2⟩ := hb
          refine ⟨_, fun _ => run_indexArr hu hii hb1.1 hb1.2, .ptr ⟨b, hb, h1, fun hc => ?_⟩⟩
          have hc' : hasIx p = false ∨ v = b.ver := by
            rcases hc with hc | hc
            · rw [hasIx_ix] at hc; cases hc
            · exact .inr hc
          exact (h2 hc').ix hb1.1 hb1.2 hs
      · cases h
    · simp at h
  · simp at h
theorem opIndex_rep {G : Ctx U} (hU : ULaw U) (hG : GOk P U G) {T : TypeId} {x i : AV U} {u ui : Value} {av : AV U} (hx : RepAV U gh σ w x u) (hi : RepAV U gh σ w i ui) (h : (opIndex G T x i : Rd U (AV U)).run σ = some av) :
    ∃ v, (Instr.index T u ui).run P w = .ok v w ∧ RepAV U gh σ w av v := by
  unfold opIndex at h
  replace h := intOf_some h
  obtain ⟨ik, n, rfl, h⟩ := h
  obtain ⟨rfl, _⟩ := hi.int_inv
  split at h
  · rename_i m e m' e' l hT
    split at h
    · rename_i he
      simp only [Bool.and_eq_true, beq_iff_eq] at he
      obtain ⟨rfl, he⟩ := he
      cases Ty.beq_eq he
      simp only [run_opt, Option.bind_eq_some_iff, run_ret, Option.some.injEq] at h
      obtain ⟨y, hy, rfl⟩ := h
      obtain ⟨h0, hy⟩ := idx_some hy
      obtain ⟨EE, hu, hI⟩ := (hG.ty T _ hT).2
      have hI' := hI
      obtain ⟨ii, d, z, zs, hii, _, _, hs, _⟩ := hI'
      cases hx with
      | d h1 =>
        obtain ⟨cs, h1, h2⟩ := h1
        simp only [VOf, Ty.isAgg, if_true] at h2
        subst h2
        cases h1 with
        | arr g1 g2 =>
          have hy' : (l.map (D.mk e) : List U.D)[n.toNat]? = some ⟨e, y⟩ := by simp [hy]
          obtain ⟨c1, c, c2, rfl, f1, f2, f3⟩ := g1.get hy'
          have hl : c1.length = n.toNat * ii.size := by
            rw [← List.map_take] at f1
            rw [f1.length_map hU hs, List.length_take]
            have := getElem?_lt hy
            congr 1
            omega
          obtain ⟨v, hv, hvo⟩ := run_part hI (w := w) (c1 := c1) (c2 := c2) hs (f2.length hU hs)
          refine ⟨v, ?_, .d ⟨c, f2, hvo⟩⟩
          unfold Instr.index
          have hlt : (show Int from n) < (m : Int) := by
            show (show Int from n) < (m : Int)
            have h7 := getElem?_lt hy
            have h8 : l.length = m := g2
            rw [h8] at h7
            have h9 : (0 : Int) ≤ (show Int from n) := h0
            exact (Int.toNat_lt h9).1 h7
          simp only [Sem.run_bind, asIntOf, Sem.run_pure, Result.andThen_ok, run_underlying' hu, h0, hlt, and_self, if_true, run_sizeOf hii, ← hl]
          exact hv
    · simp at h
  · rename_i s hT
    simp only [run_opt, Option.bind_eq_some_iff, run_ret, Option.some.injEq] at h
    obtain ⟨y, hy, rfl⟩ := h
    obtain ⟨h0, hy⟩ := idx_some hy
    obtain ⟨rfl, _⟩ := hx.str_inv
    have hu := (hG.ty T _ hT).2
    have hy' : s[n.toNat]? = some y := by
      have hlt := getElem?_lt hy
      simp only [Array.length_toList] at hlt
      simp only [Array.getElem?_toList] at hy
      have hs : n.toNat < s.size := hlt
      rw [getElem?_pos s n.toNat hs]
      rw [Array.getElem?_eq_getElem hlt] at hy
      exact hy
    refine ⟨.int .u8 y.toNat, ?_, rep_int ?_⟩
    · unfold Instr.index
      simp only [Sem.run_bind, asIntOf, Sem.run_pure, Result.andThen_ok, run_underlying' (P := P) hu, h0, if_true, hy']
    · have := y.toNat_lt
      unfold fitInt
      simp only [IntKind.min, IntKind.max, IntKind.signed, IntKind.bits]
      constructor
      · simp
      · simp; omega
  · simp at h
end
end Go.Ev
end
section
namespace Go.Ev
variable {U : Univ} {P : Program}
section
variable {E : Env} {gh : Gh} {σ : St U} {a : Act} {w : World} {o : Oper}
inductive RepOpt (U : Univ) (gh : Gh) (σ : St U) (w : World) : Option (AV U) → Option Value → Prop
  | none : RepOpt U gh σ w none none
  | some {x : AV U} {v : Value} : RepAV U gh σ w x v → RepOpt U gh σ w (some x) (some v)
inductive Bnd (z : Int) : Option Value → Int → Prop
  | none : Bnd z none z
  | some {k : IntKind} {n : Int} : Bnd z (some (.int k n)) n
theorem bnd_some {α : Type} {z : Int} {v : Option (AV U)} {u : Option Value} {K : Int → Rd U α} {r : α} (hv : RepOpt U gh σ w v u) (h : (bnd z v K).run σ = some r) : ∃ n, Bnd z u n ∧ (K n).run σ = some r := by
  cases hv with
  | none => exact ⟨z, .none, h⟩
  | some hx =>
    simp only [bnd] at h
    obtain ⟨k, n, rfl, h⟩ := intOf_some h
    obtain ⟨rfl, _⟩ := hx.int_inv
    exact ⟨n, .some, h⟩
theorem run_bound {z y : Nat} {code : BoundsCode} {k : IntKind} {n : Int} (h0 : 0 ≤ n) (h1 : n ≤ y) : (Instr.sliceBound (.int k n) y code).run P w = .ok n.toNat w := by
  unfold Instr.sliceBound
  simp [asIntOf, h0, h1]
theorem run_sliceBounds {isSl : Bool} {len cap : Nat} {lo hi : Option Value} {l h : Int} (hl : Bnd 0 lo l) (hh : Bnd len hi h) (h0 : 0 ≤ l) (h1 : l ≤ h) (h2 : h ≤ cap) :
    (Instr.sliceBounds isSl len cap lo hi none).run P w = .ok (l.toNat, h.toNat, cap) w := by
  unfold Instr.sliceBounds
  cases hl with
  | none =>
    cases hh with
    | none => simp
    | some => simp only [Sem.run_bind, Sem.run_pure, Result.andThen_ok, run_bound (P := P) (z := 0) (show 0 ≤ h by omega) h2]; rfl
  | some =>
    cases hh with
    | none => simp only [Sem.run_bind, Sem.run_pure, Result.andThen_ok, run_bound (P := P) (z := 0) h0 h1]; rfl
    | some => simp only [Sem.run_bind, Sem.run_pure, Result.andThen_ok, run_bound (P := P) (z := 0) (show 0 ≤ h by omega) h2, run_bound (P := P) (z := 0) (y := h.toNat) h0 (by omega)]
theorem run_sliceAt_sl {T EE : TypeId} (hu : P.underlying T = some (.slice EE)) {i : TypeInfo} (hi : P.info? EE = some i) {ad : Option Addr} {len cap : Nat} {lo hi' : Option Value} {l h : Int} (hl : Bnd 0 lo l) (hh : Bnd len hi' h) (h0 : 0 ≤ l) (h1 : l ≤ h) (h2 : h ≤ cap) :
    (Instr.sliceAt T (.slice ad len cap) lo hi' none).run P w = .ok (.slice (if cap = l.toNat then ad else ad.map (·.add (l.toNat * i.size))) (h.toNat - l.toNat) (cap - l.toNat)) w := by
  unfold Instr.sliceAt Instr.slice
  simp only [Sem.run_bind, run_underlying' hu, Result.andThen_ok, run_sliceBounds hl hh h0 h1 h2, run_sizeOf hi, Sem.run_pure]
theorem run_sliceAt_str {T : TypeId} (hu : P.underlying T = some .string) {s : ByteArray} {lo hi' : Option Value} {l h : Int} (hl : Bnd 0 lo l) (hh : Bnd s.size hi' h) (h0 : 0 ≤ l) (h1 : l ≤ h) (h2 : h ≤ s.size) :
    (Instr.sliceAt T (.string s) lo hi' none).run P w = .ok (.string (s.extract l.toNat h.toNat)) w := by
  unfold Instr.sliceAt Instr.slice
  simp only [Sem.run_bind, run_underlying' hu, Result.andThen_ok, run_sliceBounds hl hh h0 h1 h2, Sem.run_pure, Option.isSome_none, Bool.false_eq_true, if_false]
theorem size_extract_le (s : ByteArray) (i j : Nat) : (s.extract i j).size ≤ s.size := by
  rw [ByteArray.size_extract]
  omega
theorem lenOf_some {α : Type} (hU : ULaw U) (S : Sim U E gh σ a w) {x : AV U} {u : Value} {K : Int → Rd U α} {r : α} (hx : RepAV U gh σ w x u) (h : (lenOf x K).run σ = some r) :
    ∃ n : Nat, (K (n : Int)).run σ = some r ∧ ((∃ ad c, u = .slice ad n c ∧ n ≤ c ∧ c ≤ maxLen) ∨ (∃ s, u = .string s ∧ x = .d ⟨.str, s⟩ ∧ s.size = n)) := by
  unfold lenOf at h
  split at h
  · rename_i e l
    cases hx with
    | d h1 =>
      obtain ⟨cs, h1, h2⟩ := h1
      simp only [VOf, Ty.isAgg, Bool.false_eq_true, if_false] at h2
      cases h1 with
      | sl g1 g2 g3 g4 =>
        cases h2
        exact ⟨l.length, h, .inl ⟨_, _, rfl, g3, g4⟩⟩
  · rename_i s
    obtain ⟨rfl, _⟩ := hx.str_inv
    exact ⟨s.size, h, .inr ⟨s, rfl, rfl, rfl⟩⟩
  · cases hx with
    | nilsl => exact ⟨0, h, .inl ⟨_, _, rfl, Nat.le_refl _, Nat.zero_le _⟩⟩
  · rename_i k v q wn
    replace h := rowOf_some h
    obtain ⟨b, x, hb, hd, hv, hg, h⟩ := h
    split at h
    · rename_i e l
      have R := S.rowAt hU hb (dead_no hd) hg
      cases hx with
      | row _ hr =>
        obtain ⟨b', hb', _, hr⟩ := hr
        cases hb.symm.trans hb'
        replace hr := hr hv e l hg
        obtain ⟨m, hm, hr⟩ := hr
        obtain ⟨r1, r2, _⟩ := R
        cases wn with
        | all => exact ⟨l.length, h, .inl ⟨_, _, hr, r1, r2⟩⟩
        | pre n =>
          obtain ⟨s0, s1, rfl⟩ := hr
          refine ⟨n.toNat, ?_, .inl ⟨_, _, rfl, Nat.le_trans s1 r1, r2⟩⟩
          rw [Int.toNat_of_nonneg s0]
          exact h
        | full n =>
          obtain ⟨s0, s1, rfl, _⟩ := hr
          refine ⟨n.toNat, ?_, .inl ⟨_, _, rfl, Nat.le_trans s1 r1, r2⟩⟩
          rw [Int.toNat_of_nonneg s0]
          exact h
        | mid o n =>
          obtain ⟨s0, s1, s2, aa, c, rfl, s4, s5, s6⟩ := hr
          refine ⟨n.toNat, ?_, .inl ⟨_, _, rfl, s4, s5⟩⟩
          rw [Int.toNat_of_nonneg s1]
          exact h
    · simp at h
  · simp at h
theorem slOk_sl {t : Option Ty} {x : AV U} {u : Value} (hx : RepAV U gh σ w x u) (h : slOk U t x = true) {ad : Option Addr} {n c : Nat} (hu : u = .slice ad n c) : ∃ e, t = some (.sl e) := by
  unfold slOk at h
  split at h
  · obtain ⟨rfl, _⟩ := hx.str_inv
    cases hu
  · exact ⟨_, rfl⟩
  · exact ⟨_, rfl⟩
  · exact ⟨_, rfl⟩
  · cases h
theorem slOk_str {t : Option Ty} {s : ByteArray} (h : slOk U t (.d ⟨.str, s⟩) = true) : t = some .str := by
  unfold slOk at h
  split at h <;> first | rfl | (rename_i heq; cases heq; done) | cases h
theorem opSlice0_rep {G : Ctx U} (hU : ULaw U) (hG : GOk P U G) (S : Sim U E gh σ a w) {T : TypeId} {x : AV U} {lo hi : Option (AV U)} {u : Value} {ul uh : Option Value} {av : AV U} (hx : RepAV U gh σ w x u) (hlo : RepOpt U gh σ w lo ul) (hhi : RepOpt U gh σ w hi uh)
    (h : (opSlice0 G T x lo hi : Rd U (AV U)).run σ = some av) : ∃ v, (Instr.sliceAt T u ul uh none).run P w = .ok v w ∧ RepAV U gh σ w av v := by
  unfold opSlice0 at h
  split at h
  case isFalse => simp at h
  rename_i hok
  have hrow : ∀ {k v : Nat} {q : List Nat} {wn : Win}, x = .row k v q wn → ∃ e l, G.ty T = some (.sl e) ∧ ∃ b, σ.blk k = some b ∧ v = b.ver ∧ getQ U q b.x = some ⟨.sl e, l⟩ ∧ RowAt U gh.F w e l (gh.hdr k q).1 (gh.hdr k q).2 ∧ ∃ n, Sz U e n ∧ RowVal (gh.hdr k q) l.length n wn u := by
    intro k v q wn he
    subst he
    have ht : ∃ e, G.ty T = some (.sl e) := by
      unfold slOk at hok
      split at hok <;> first | exact ⟨_, by assumption⟩ | (rename_i heq _; cases heq; done) | (rename_i heq; cases heq; done) | cases hok
    obtain ⟨e, ht⟩ := ht
    simp only [ht, rowTy] at h
    obtain ⟨b, y, hb, hd, hv, hg, h⟩ := rowOf_some h
    split at h
    · rename_i hy
      obtain ⟨yt, y⟩ := y
      cases Ty.beq_eq hy
      refine ⟨e, y, ht, b, hb, hv, hg, S.rowAt hU hb (dead_no hd) hg, ?_⟩
      cases hx with
      | row _ hr =>
        obtain ⟨b', hb', _, hr⟩ := hr
        cases hb.symm.trans hb'
        exact hr hv e y hg
    · simp at h
  have hK : ∃ n : Nat, ∃ l hh : Int, Bnd 0 ul l ∧ Bnd n uh hh ∧ 0 ≤ l ∧ l ≤ hh ∧ hh ≤ n ∧ ((∃ ad c, u = .slice ad n c ∧ n ≤ c ∧ c ≤ maxLen) ∨ (∃ s, u = .string s ∧ x = .d ⟨.str, s⟩ ∧ s.size = n)) ∧
      (sliced x lo.isSome l hh).run σ = some av := by
    have h2 : (lenOf x fun n => bnd 0 lo fun l => bnd n hi fun h => .chk (0 ≤ l ∧ l ≤ h ∧ h ≤ n) inferInstance (sliced x lo.isSome l h) : Rd U (AV U)).run σ = some av := by
      unfold rowTy at h
      split at h
      · obtain ⟨b, y, _, _, _, _, h⟩ := rowOf_some h
        split at h
        · exact h
        · simp at h
      · simp at h
      · exact h
    obtain ⟨n, h3, hn⟩ := lenOf_some hU S hx h2
    obtain ⟨l, hl, h3⟩ := bnd_some hlo h3
    obtain ⟨hh, hh1, h3⟩ := bnd_some hhi h3
    simp only [run_chk] at h3
    split at h3
    · rename_i hc
      exact ⟨n, l, hh, hl, hh1, hc.1, hc.2.1, hc.2.2, hn, h3⟩
    · cases h3
  clear h
  obtain ⟨n, l, hh, hl, hh1, h0, h1, h2, hn, h⟩ := hK
  rcases hn with ⟨ad, c, rfl, hnc, hcm⟩ | ⟨s, rfl, rfl, rfl⟩
  · obtain ⟨e, hT⟩ := slOk_sl hx hok rfl
    obtain ⟨EE, hu, ⟨ii, d, z, zs, hii, _, _, hs, _⟩, _⟩ := (hG.ty T _ hT).2
    have hrun := run_sliceAt_sl (P := P) (w := w) hu hii (ad := ad) (len := n) (cap := c) hl hh1 h0 h1 (by omega)
    refine ⟨_, hrun, ?_⟩
    have hadd : ∀ ad : Option Addr, l = 0 → (if c = l.toNat then ad else ad.map (·.add (l.toNat * ii.size))) = ad := by
      intro ad hl0
      subst hl0
      simp only [Int.toNat_zero, Nat.zero_mul]
      split
      · rfl
      · cases ad <;> simp [add_zero]
    unfold sliced at h
    split at h
    · obtain ⟨h9, _⟩ := hx.str_inv
      cases h9
    · rename_i e' y
      have he : e = e' := by
        unfold slOk at hok
        rw [hT] at hok
        exact Ty.beq_eq hok
      subst he
      cases hx with
      | d hx =>
        obtain ⟨cs, h5, h6⟩ := hx
        simp only [VOf, Ty.isAgg, Bool.false_eq_true, if_false] at h6
        cases h5 with
        | sl g1 g2 g3 g4 =>
          cases h6
          split at h
          · rename_i hlo0
            cases hlo <;> simp at hlo0
            cases hl
            simp only [run_ret, Option.some.injEq] at h
            subst h
            rw [hadd _ rfl]
            have hlen : (y.take hh.toNat).length = hh.toNat := by rw [List.length_take]; omega
            refine .d ⟨_, ?_, rfl⟩
            simp only [Int.toNat_zero, Nat.sub_zero]
            have := Rep.sl (U := U) (F := gh.F) (w := w) (e := e) (l := y.take hh.toNat) (a := ad) (cap := c) (ad := ad.getD ⟨0, 0, none⟩) (g1.take hU hs hh.toNat) (fun hne => by
              obtain ⟨a1, a2, a3, a4⟩ := g2 (fun e => hne (by rw [e]; simp))
              subst a1
              exact ⟨rfl, a2, a3, a4.take _⟩) (by omega) g4
            rw [hlen] at this
            exact this
          · simp only [run_ret, Option.some.injEq] at h
            subst h
            have hlen : (sub y l hh).length = hh.toNat - l.toNat := by simp [sub]; omega
            have hsub : (hh - l).toNat = hh.toNat - l.toNat := by omega
            refine .d ⟨_, ?_, rfl⟩
            have := Rep.sl (U := U) (F := gh.F) (w := w) (e := e) (l := sub y l hh) (a := if c = l.toNat then ad else ad.map (·.add (l.toNat * ii.size))) (cap := c - l.toNat) (ad := (ad.getD ⟨0, 0, none⟩).add (l.toNat * ii.size))
              (by unfold sub; exact (g1.drop hU hs l.toNat).take hU hs _) (fun hne => by
              obtain ⟨a1, a2, a3, a4⟩ := g2 (fun e => hne (by rw [e]; simp [sub]))
              subst a1
              have hne' : 0 < hh.toNat - l.toNat := by
                rcases Nat.eq_zero_or_pos (hh.toNat - l.toNat) with h0 | h0
                · exact absurd (List.eq_nil_of_length_eq_zero (hlen.trans h0)) hne
                · exact h0
              refine ⟨by rw [if_neg (by omega)]; rfl, add_spot _ a2, by rw [add_block]; exact a3, (a4.drop a2 _).take _⟩) (by omega) (by omega)
            rw [hlen] at this
            exact this
    · cases hx with
      | nilsl =>
        simp only [run_ret, Option.some.injEq] at h
        subst h
        have e1 : l = 0 := by omega
        have e2 : hh = 0 := by omega
        subst e1
        subst e2
        simp only [Int.toNat_zero, if_true, Nat.sub_zero]
        exact .nilsl
    · rename_i k v q wn
      obtain ⟨e', y, hT', b, hb, hv, hg, R, m, hm, hr⟩ := hrow rfl
      cases hT.symm.trans hT'
      cases hm.uniq hs
      have mkrow : ∀ (wn' : Win) (v' : Value), RowVal (gh.hdr k q) y.length ii.size wn' v' → RepAV U gh σ w (.row k v q wn') v' := by
        intro wn' v' hr'
        refine .row hr'.one ⟨b, hb, by omega, fun _ e2 l2 hg2 => ?_⟩
        have hg3 := hg.symm.trans hg2
        simp only [Option.some.injEq, D.mk.injEq] at hg3
        obtain ⟨h7, h8⟩ := hg3
        cases h7
        cases h8
        exact ⟨_, hs, hr'⟩
      obtain ⟨r1, r2, n', xs, r3, r4, r5⟩ := R
      have hbase : (∀ o m, wn ≠ .mid o m) → ad = (gh.hdr k q).1 ∧ c = (gh.hdr k q).2 ∧ n ≤ y.length := by
        intro hnm
        cases wn with
        | all => cases hr; exact ⟨rfl, rfl, Nat.le_refl _⟩
        | pre m => obtain ⟨s0, s1, s2⟩ := hr; cases s2; exact ⟨rfl, rfl, s1⟩
        | full m => obtain ⟨s0, s1, s2, _⟩ := hr; cases s2; exact ⟨rfl, rfl, s1⟩
        | mid o m => exact absurd rfl (hnm o m)
      have hpre : lo.isSome = false → (∀ o m, wn ≠ .mid o m) → RepAV U gh σ w (.row k v q (.pre hh)) (.slice (if c = l.toNat then ad else ad.map (·.add (l.toNat * ii.size))) (hh.toNat - l.toNat) (c - l.toNat)) := by
        intro hlo0 hnm
        obtain ⟨e1, e2, e3⟩ := hbase hnm
        cases hlo <;> simp at hlo0
        cases hl
        rw [hadd _ rfl]
        simp only [Int.toNat_zero, Nat.sub_zero]
        exact mkrow _ _ ⟨by omega, by omega, by rw [e1, e2]⟩
      have hmid : (∀ o m, wn ≠ .mid o m) → RepAV U gh σ w (.row k v q (.mid l (hh - l))) (.slice (if c = l.toNat then ad else ad.map (·.add (l.toNat * ii.size))) (hh.toNat - l.toNat) (c - l.toNat)) := by
        intro hnm
        obtain ⟨e1, e2, e3⟩ := hbase hnm
        refine mkrow _ _ ⟨h0, by omega, by omega, _, c - l.toNat, by rw [show (hh - l).toNat = hh.toNat - l.toNat by omega], by omega, by omega, fun hp ad0 had => ?_⟩
        rw [e1, had, if_neg (by omega)]
        rfl
      split at h
      · rename_i hlo0
        cases hlo <;> simp at hlo0
        cases hl
        simp only [run_ret, Option.some.injEq] at h
        subst h
        obtain ⟨s0, s1, s2, aa, cc, s3, s4, s5, s6⟩ := hr
        cases s3
        rw [hadd _ rfl]
        refine mkrow _ _ ⟨s0, by omega, by omega, ad, c, by simp, by omega, hcm, fun hp => s6 (by omega)⟩
      · rename_i hlo0
        simp only [run_ret, Option.some.injEq] at h
        subst h
        exact hpre hlo0 (fun _ _ e => by cases e)
      · rename_i hlo0
        simp only [run_ret, Option.some.injEq] at h
        subst h
        exact hpre hlo0 (fun _ _ e => by cases e)
      · rename_i o m _
        simp only [run_ret, Option.some.injEq] at h
        subst h
        obtain ⟨s0, s1, s2, aa, cc, s3, s4, s5, s6⟩ := hr
        cases s3
        refine mkrow _ _ ⟨by omega, by omega, by omega, _, c - l.toNat, by rw [show (hh - l).toNat = hh.toNat - l.toNat by omega], by omega, by omega, fun hp ad0 had => ?_⟩
        obtain ⟨ad1, e1, e2, _⟩ := r5 (by intro e; rw [e] at s2; simp at s2; omega)
        cases had.symm.trans e1
        rw [s6 (by omega) ad0 had, if_neg (by omega)]
        simp only [Option.map_some, Option.some.injEq]
        rw [add_add e2, ← Nat.add_mul, show o.toNat + l.toNat = (o + l).toNat by omega]
      · simp only [run_ret, Option.some.injEq] at h
        subst h
        exact hmid (fun _ _ e => by cases e)
      · simp only [run_ret, Option.some.injEq] at h
        subst h
        exact hmid (fun _ _ e => by cases e)
      · simp at h
    · simp at h
  · have hT := slOk_str hok
    have hu := (hG.ty T _ hT).2
    obtain ⟨_, hsz⟩ := hx.str_inv
    refine ⟨_, run_sliceAt_str hu hl hh1 h0 h1 h2, ?_⟩
    simp only [sliced, run_ret, Option.some.injEq] at h
    subst h
    exact rep_str (Nat.le_trans (size_extract_le _ _ _) hsz)
theorem fullOf_some {α : Type} (S : Sim U E gh σ a w) {k v : Nat} {q : List Nat} {n : Int} {u : Value} (hx : RepAV U gh σ w (.row k v q (.full n)) u) {K : Int → Rd U α} {r : α} (h : (fullOf k v q K).run σ = some r) :
    ∃ b e l, σ.blk k = some b ∧ v = b.ver ∧ (∀ o ∈ b.dead, pre o q = false ∧ pre q o = false) ∧ getQ U q b.x = some ⟨.sl e, l⟩ ∧ (K (l.length : Int)).run σ = some r ∧ 0 ≤ n ∧ n.toNat ≤ l.length ∧ u = .slice (gh.hdr k q).1 n.toNat (gh.hdr k q).2 ∧ (gh.hdr k q).2 = l.length ∧ ∃ m, Sz U e m := by
  unfold fullOf at h
  obtain ⟨b, x, hb, hd, hv, hg, h⟩ := rowOf_some h
  split at h
  case h_2 => simp at h
  rename_i e l
  cases hx with
  | row _ hr =>
    obtain ⟨b', hb', _, hr⟩ := hr
    cases hb.symm.trans hb'
    obtain ⟨m, hm, r1, r2, r3, r4⟩ := hr hv e l hg
    exact ⟨b, e, l, hb, hv, hd, hg, h, r1, r2, r3, r4, m, hm⟩
theorem opSlice_rep {G : Ctx U} (hU : ULaw U) (hG : GOk P U G) (S : Sim U E gh σ a w) {T : TypeId} {x : AV U} {lo hi : Option (AV U)} {u : Value} {ul uh : Option Value} {av : AV U} (hx : RepAV U gh σ w x u) (hlo : RepOpt U gh σ w lo ul) (hhi : RepOpt U gh σ w hi uh)
    (h : (opSlice G T x lo hi : Rd U (AV U)).run σ = some av) : ∃ v, (Instr.sliceAt T u ul uh none).run P w = .ok v w ∧ RepAV U gh σ w av v := by
  unfold opSlice at h
  split at h
  case h_2 => exact opSlice0_rep hU hG S hx hlo hhi h
  rename_i k v q n hv
  have ht : ∃ e, G.ty T = some (.sl e) ∧ (fullOf k v q fun c => intOf hv fun _ h => .chk (h = c) inferInstance (.ret (.row k v q .all)) : Rd U (AV U)).run σ = some av := by
    unfold rowTy at h
    split at h
    · rename_i k' v' q' wn' t heq hT
      cases heq
      obtain ⟨b, y, hb, hd, hv, hg, h⟩ := rowOf_some h
      split at h
      case isFalse => simp at h
      rename_i hy
      have h0 := h
      obtain ⟨b', e, l, hb', _, _, hg', _⟩ := fullOf_some S hx h0
      cases hb.symm.trans hb'
      cases hg.symm.trans hg'
      exact ⟨e, by rw [hT, ← Ty.beq_eq hy], h⟩
    · simp at h
    · rename_i h1 h2
      cases hT : G.ty T with
      | none => exact absurd hT (h2 _ _ _ _ rfl)
      | some t => exact absurd hT (h1 _ _ _ _ _ rfl)
  obtain ⟨e, hT, h⟩ := ht
  obtain ⟨EE, hu, ⟨ii, d, z, zs, hii, _, _, hs, _⟩, _⟩ := (hG.ty T _ hT).2
  obtain ⟨b, e', l, hb, hver, hd, hg, h, r1, r2, r3, r4, m, hm⟩ := fullOf_some S hx h
  obtain ⟨kk, c, rfl, hfin⟩ := intOf_some h
  simp only [run_chk, run_ret] at hfin
  split at hfin
  case isFalse => cases hfin
  rename_i hc
  subst hc
  cases hfin
  cases hlo
  cases hhi with
  | some hx2 =>
    obtain ⟨rfl, _⟩ := hx2.int_inv
    have hrun := run_sliceAt_sl (P := P) (w := w) hu hii (ad := (gh.hdr k q).1) (len := n.toNat) (cap := (gh.hdr k q).2) (l := 0) (h := (l.length : Int)) (lo := none) (hi' := some (.int kk (l.length : Int))) .none .some (Int.le_refl _) (Int.natCast_nonneg _) (by omega)
    rw [r3]
    refine ⟨_, hrun, .row rfl ⟨b, hb, Nat.le_of_eq hver, fun _ e2 l2 hg2 => ⟨m, ?_⟩⟩⟩
    cases hg.symm.trans hg2
    refine ⟨hm, ?_⟩
    have hadd : (if (gh.hdr k q).2 = Int.toNat 0 then (gh.hdr k q).1 else (gh.hdr k q).1.map (·.add (Int.toNat 0 * ii.size))) = (gh.hdr k q).1 := by
      simp only [Int.toNat_zero, Nat.zero_mul]
      split
      · rfl
      · cases (gh.hdr k q).1 with
        | none => rfl
        | some ad => simp [Ev.add_zero]
    rw [hadd]
    simp only [RowVal, Int.toNat_natCast, Int.toNat_zero, Nat.sub_zero]
end
end Go.Ev
end
section
namespace Go.Ev
variable {U : Univ} {P : Program}
mutual
theorem RepO.toRep {F : Nat → Prop} {w : World} : ∀ {η : Hdr} {own dd : List (List Nat)} {x : U.D} {cs : List Value}, (∀ r, own.contains r = false) → (∀ r, dd.contains r = false) → RepO U F w η own dd x cs → Rep U F w x cs
  | _, _, _, _, _, _, hd, .dead h1 _ _ _ => by rw [hd] at h1; cases h1
  | _, _, _, _, _, _, _, .leaf _ _ h => h
  | _, _, _, _, _, _, _, .frz _ _ h _ => h
  | _, _, _, _, _, ho, _, .row h1 _ _ _ _ _ => by rw [ho] at h1; cases h1
  | _, _, _, _, _, ho, hd, .st h => .st (RepOL.toRep ho hd h)
theorem RepOL.toRep {F : Nat → Prop} {w : World} : ∀ {η : Hdr} {own dd : List (List Nat)} {j : Nat} {x : List U.D} {cs : List Value}, (∀ r, own.contains r = false) → (∀ r, dd.contains r = false) → RepOL U F w η own dd j x cs → RepL U F w x cs
  | _, _, _, _, _, _, _, _, .nil => .nil
  | _, _, _, _, _, _, ho, hd, .cons h hs => .cons (RepO.toRep (fun q => by rw [subP_contains]; exact ho _) (fun q => by rw [subP_contains]; exact hd _) h) (RepOL.toRep ho hd hs)
end
mutual
theorem RepO.freeze {F F' : Nat → Prop} {w : World} (hF : ∀ b, F b → F' b) : ∀ {η : Hdr} {own own' dd : List (List Nat)} {sel : List Nat → Bool} {x : U.D} {cs : List Value},
    (∀ r ad cap, own.contains r = true → sel r = true → η r = (some ad, cap) → F' ad.block) → (∀ r, own'.contains r = (own.contains r && !sel r)) → RepO U F w η own dd x cs → RepO U F' w η own' dd x cs
  | _, _, _, _, _, _, _, _, h', .dead h1 h2 h3 h4 => .dead h1 (by rw [h', h2]; rfl) h3 h4
  | _, _, _, _, _, _, _, _, _, .leaf h1 h2 h3 => .leaf h1 h2 (h3.mono fun b hb => ⟨hF b hb, rfl⟩)
  | _, _, _, _, _, _, _, _, h', .frz h1 h2 h3 h4 => .frz (by rw [h', h1]; rfl) h2 (h3.mono fun b hb => ⟨hF b hb, rfl⟩) h4
  | _, _, _, _, sel, _, _, hs, h', .row (e := e) (l := l) (a := a) (cap := cap) h1 h2 h3 h5 h6 h7 => by
    cases hc : sel [] with
    | false => exact .row (by rw [h', h1, hc]; rfl) h2 h3 (h5.mono fun b hb => ⟨hF b hb, rfl⟩) h6 h7
    | true =>
      obtain ⟨g1, g2, g3⟩ := ownsRow_at h6
      refine .frz (by rw [h', hc]; simp) h2 (.sl (ad := a.getD ⟨0, 0, none⟩) (h5.mono fun b hb => ⟨hF b hb, rfl⟩) (fun hne => ?_) g1 g2) h7
      obtain ⟨ad, rfl, e2, e3⟩ := g3 (by simpa using hne)
      exact ⟨rfl, e2, hs [] ad cap h1 hc h7, e3⟩
  | _, _, _, _, _, _, _, hs, h', .st h => .st (RepOL.freeze hF hs h' h)
theorem RepOL.freeze {F F' : Nat → Prop} {w : World} (hF : ∀ b, F b → F' b) : ∀ {η : Hdr} {own own' dd : List (List Nat)} {sel : List Nat → Bool} {j : Nat} {x : List U.D} {cs : List Value},
    (∀ r ad cap, own.contains r = true → sel r = true → η r = (some ad, cap) → F' ad.block) → (∀ r, own'.contains r = (own.contains r && !sel r)) → RepOL U F w η own dd j x cs → RepOL U F' w η own' dd j x cs
  | _, _, _, _, _, _, _, _, _, _, .nil => .nil
  | _, _, _, _, sel, j, _, _, hs, h', .cons h hr => .cons (RepO.freeze (sel := fun r => sel (j :: r)) hF (fun r ad cap h1 h2 h3 => hs (j :: r) ad cap (by rw [← subP_contains]; exact h1) h2 h3) (fun r => by rw [subP_contains, subP_contains, h']) h) (RepOL.freeze hF hs h' hr)
end
theorem contains_filter (own : List (List Nat)) (q r : List Nat) : (own.filter fun o => !pre q o).contains r = (own.contains r && !pre q r) := by
  induction own with
  | nil => rfl
  | cons o l ih =>
    simp only [List.filter_cons]
    by_cases hp : pre q o = true
    · simp only [hp, Bool.not_true, Bool.false_eq_true, if_false, ih, List.contains_cons]
      by_cases hr : r = o
      · subst hr; simp [hp]
      · have : (r == o) = false := by simpa using hr
        rw [this]; simp
    · have hp' : pre q o = false := by simpa using hp
      simp only [hp', Bool.not_false, if_true, List.contains_cons, ih]
      by_cases hr : r = o
      · subst hr; simp [hp']
      · have : (r == o) = false := by simpa using hr
        rw [this]; simp
theorem pre_app : ∀ q r : List Nat, pre q (q ++ r) = true
  | [], _ => rfl
  | a :: q, r => by simp [pre, pre_app q r]
theorem getV_app : ∀ (p p' : List Step) (d : U.D), getV U (p ++ p') d = (getV U p d).bind fun y => getV U p' y
  | [], _, _ => rfl
  | .fld j :: p, p', d => by
    obtain ⟨t, x⟩ := d
    cases t <;> try rfl
    rename_i id
    simp only [List.cons_append, getV]
    cases (U.get id x)[j]? with
    | none => rfl
    | some y => exact getV_app p p' y
  | .ix i :: p, p', d => by
    obtain ⟨t, x⟩ := d
    cases t <;> try rfl
    · rename_i e
      simp only [List.cons_append, getV]
      cases idx x i with
      | none => rfl
      | some y => exact getV_app p p' ⟨e, y⟩
    · rename_i m e
      simp only [List.cons_append, getV]
      cases idx x i with
      | none => rfl
      | some y => exact getV_app p p' ⟨e, y⟩
theorem At.getV_t (hU : ULaw U) : ∀ {p : List Step} {d y : U.D} {o : Nat} {t : Ty}, At U d.t p o t → getV U p d = some y → y.t = t
  | [], d, y, o, t, h, hg => by
    simp only [getV, Option.some.injEq] at hg
    subst hg
    exact h.nil_inv.2.symm
  | .fld j :: p, ⟨tt, x⟩, y, o, t, h, hg => by
    change At U tt (.fld j :: p) o t at h
    cases h with
    | fld h1 h2 h3 =>
      simp only [getV] at hg
      split at hg
      · rename_i z hz
        have e := hU.tys _ x
        have : ((U.get _ x).map D.t)[j]? = some z.t := by simp [hz]
        rw [e, h1] at this
        simp only [Option.some.injEq] at this
        exact At.getV_t hU (by rw [← this]; exact h3) hg
      · cases hg
  | .ix i :: p, ⟨tt, x⟩, y, o, t, h, hg => by
    change At U tt (.ix i :: p) o t at h
    cases h with
    | ix h1 h2 h3 h4 =>
      simp only [getV, Option.bind_eq_some_iff] at hg
      obtain ⟨z, _, hg⟩ := hg
      exact At.getV_t hU (d := ⟨_, z⟩) h4 hg
section
variable {E : Env} {gh : Gh} {σ : St U} {a : Act} {w : World} {o : Oper}
theorem cells_at {g : Nat} {c1 c c2 : List Value} {tag : TypeId} {fr : Nat × Nat} (h : w.heap[g]? = some (.cells (c1 ++ (c ++ c2)).toArray tag fr)) : Cells w ⟨g, c1.length, none⟩ c := by
  intro j v hj
  rw [add_none]
  unfold World.cell?
  simp only [h, Option.isSome_none, Bool.false_eq_true, if_false]
  have hlt := getElem?_lt hj
  simp [List.getElem?_append_right, List.getElem?_append_left hlt, hj]
theorem Sim.readAt (hU : ULaw U) (S : Sim U E gh σ a w) {k : Nat} {b : Blk U} {p : List Step} {t : Ty} {ad : Addr} {y : U.D} (hb : σ.blk k = some b) (hp : PtrAt gh k b p t ad) (hd : ∀ o ∈ b.dead, pre o (front p) = false ∧ pre (front p) o = false)
    (hg : getV U p b.x = some y) (hq : ∀ q, flds p = some q → b.own.any (pre q) = false) : y.t = t ∧ ∃ c, Cells w ad c ∧ Rep U gh.F w y c := by
  have hr := S.blks k b hb
  cases hp with
  | mem hm ha =>
    unfold RepBlk at hr
    rw [if_pos hm] at hr
    obtain ⟨cs, tag, hh, hr⟩ := hr
    obtain ⟨e1, c1, c, c2, rfl, e2, e3, e4⟩ := RepO.at hU ha hr hg
    subst e2
    refine ⟨e1, c, cells_at hh, ?_⟩
    cases hf : flds p with
    | none => exact e4 hf
    | some q =>
      have hfq : front p = q := by
        clear hg hr e3 e4 hd hq ha
        induction p generalizing q with
        | nil => simp [flds] at hf; simp [front, hf]
        | cons s p ih =>
          cases s with
          | fld j =>
            simp only [flds, Option.map_eq_some_iff] at hf
            obtain ⟨q', hq', rfl⟩ := hf
            simp [front, ih q' hq']
          | ix i => simp [flds] at hf
      refine RepO.toRep (fun r => ?_) (fun r => ?_) (e3 q hf)
      · rw [subQ_contains]
        have := hq q hf
        cases hc : b.own.contains (q ++ r) with
        | false => rfl
        | true =>
          have h2 : b.own.any (pre q) = true := List.any_eq_true.2 ⟨q ++ r, by simpa using hc, pre_app q r⟩
          rw [this] at h2
          cases h2
      · rw [subQ_contains]
        cases hc : b.dead.contains (q ++ r) with
        | false => rfl
        | true =>
          have := (hd (q ++ r) (by simpa using hc)).2
          rw [hfq, pre_app] at this
          cases this
  | row e1 e2 e3 e4 e5 e6 =>
    rename_i q p i e oo o' n cap ad
    rw [getV_app] at hg
    simp only [Option.bind_eq_some_iff] at hg
    obtain ⟨z, hz, hg⟩ := hg
    have hzt := At.getV_t hU e1 hz
    obtain ⟨zt, l⟩ := z
    simp only at hzt
    subst hzt
    · simp only [getV, Option.bind_eq_some_iff] at hg
      obtain ⟨y0, hy0, hg⟩ := hg
      obtain ⟨h0, hy0⟩ := idx_some hy0
      have hfront : front (q.map .fld ++ .ix i :: p) = q := by
        clear e1 e2 hd hq hz
        induction q with
        | nil => rfl
        | cons j q ih => simp [front, ih]
      rw [hfront] at hd
      have hgq : getQ U q b.x = some ⟨.sl e, l⟩ := by rw [getQ_eq]; exact hz
      have R := S.rowAt hU hb (dead_no hd) hgq
      obtain ⟨r1, r2, n', xs, r3, r4, r5⟩ := R
      cases r3.uniq e5
      obtain ⟨ad', had, hsp, hc⟩ := r5 (by intro e; rw [e] at hy0; simp at hy0)
      rw [e2] at had
      cases had
      obtain ⟨c, f1, f2, f3⟩ := elem_cells hU r3 r4 hy0 hsp hc
      obtain ⟨g1, c1, c', c2, rfl, g2, g3⟩ := Rep.at hU (x := ⟨e, y0⟩) e6 f1 hg
      refine ⟨g1, c', ?_, g3⟩
      have := f2.drop (add_spot _ hsp) c1.length
      rw [List.drop_append_of_le_length (Nat.le_refl _), List.drop_length, List.nil_append, add_add hsp] at this
      have e8 : ad.add (i.toNat * n + c1.length) = ⟨ad.block, ad.off + (i.toNat * n + oo), none⟩ := by
        obtain ⟨bb, ob, ss⟩ := ad
        simp only at hsp
        subst hsp
        rw [add_none, g2]
      rw [e8] at this
      intro j' v' hj'
      exact this j' v' (by rw [List.getElem?_append_left (getElem?_lt hj')]; exact hj')
end
end Go.Ev
end
section
namespace Go.Ev
variable {U : Univ} {P : Program}
section
variable {E : Env} {gh : Gh} {σ : St U} {a : Act} {w : World} {o : Oper}
open Classical in
noncomputable def Gh.freeze (gh : Gh) (k : Nat) (b : Blk U) (q : List Nat) : Gh :=
  { gh with st := fun bn => if ∃ r, b.own.contains r = true ∧ pre q r = true ∧ gh.st bn = .own k (some r) then .frz else gh.st bn }
theorem RepBlk.of_mem {gh : Gh} {w : World} {k : Nat} {b : Blk U} (hm : b.mem = true) : RepBlk U gh w k b ↔ ∃ cs tag, w.heap[gh.base k]? = some (.cells cs.toArray tag (0, 0)) ∧ RepO U gh.F w (gh.hdr k) b.own b.dead b.x cs := by
  unfold RepBlk
  rw [if_pos hm]
theorem RepBlk.of_not {gh : Gh} {w : World} {k : Nat} {b : Blk U} (hm : b.mem = false) : RepBlk U gh w k b ↔ b.x.t.isSl = true ∧ ∃ v, RepO U gh.F w (gh.hdr k) b.own b.dead b.x [v] := by
  unfold RepBlk
  rw [if_neg (by rw [hm]; simp)]
theorem PtrAt.congr {gh gh' : Gh} {k : Nat} {b b' : Blk U} {p : List Step} {t : Ty} {ad : Addr} (h1 : gh'.base k = gh.base k) (h2 : gh'.hdr k = gh.hdr k) (h3 : b'.mem = b.mem) (h4 : b'.x.t = b.x.t) (h : PtrAt gh k b p t ad) : PtrAt gh' k b' p t ad := by
  cases h with
  | mem e1 e2 => rw [← h1]; exact .mem (h3.trans e1) (by rw [h4]; exact e2)
  | row e1 e2 e3 e4 e5 e6 => exact .row (by rw [h4]; exact e1) (by rw [h2]; exact e2) e3 e4 e5 e6
theorem PtrAt.flat {gh : Gh} {k : Nat} {b : Blk U} {p : List Step} {t : Ty} {ad : Addr} (h : PtrAt gh k b p t ad) (hx : hasIx p = false) : b.mem = true ∧ ∃ o, At U b.x.t p o t ∧ ad = ⟨gh.base k, o, none⟩ := by
  cases h with
  | mem e1 e2 => exact ⟨e1, _, e2, rfl⟩
  | row e1 e2 e3 e4 e5 e6 => rw [hasIx_app] at hx; cases hx
theorem Sim.freezeAt (S : Sim U E gh σ a w) {k : Nat} {b : Blk U} (hb : σ.blk k = some b) (q : List Nat) : Sim U E (gh.freeze k b q) (σ.put (.blk k (some (b.frozen q)))) a w := by
  have hF : ∀ n, gh.F n → (gh.freeze k b q).F n := by
    intro n hn
    unfold Gh.F Gh.freeze at *
    simp only
    split
    · rfl
    · exact hn
  have hst : ∀ bn p, gh.st bn = .own k p → (∀ r, p = some r → ¬ (b.own.contains r = true ∧ pre q r = true)) → (gh.freeze k b q).st bn = .own k p := by
    intro bn p h1 h2
    unfold Gh.freeze
    simp only
    rw [if_neg]
    · exact h1
    · rintro ⟨r, g1, g2, g3⟩
      rw [h1] at g3
      cases g3
      exact h2 r rfl ⟨g1, g2⟩
  refine S.step (fun j => j = k) rfl rfl (fun _ _ _ => rfl) (fun bn => ?_) (Nat.le_refl _) rfl rfl rfl (fun j c hj hc => ?_) (fun j c hj hc => ?_) (fun j c hc => ?_) (fun n => .inl ⟨rfl, rfl⟩)
  · unfold Gh.freeze
    simp only
    split
    · rename_i h
      obtain ⟨r, g1, g2, g3⟩ := h
      exact .inr (.inl ⟨⟨k, some r, g3, rfl⟩, by simp⟩)
    · exact .inl rfl
  · rw [St.blk_put_ne σ _ (fun e => hj e.symm)] at hc
    exact ⟨hc, rfl, rfl⟩
  · subst hj
    simp only [St.blk_put_same, Option.some.injEq] at hc
    subst hc
    have hr := S.blks j b hb
    have ho := S.owns j b hb
    have key : ∀ {cs : List Value}, RepO U gh.F w (gh.hdr j) b.own b.dead b.x cs → RepO U (gh.freeze j b q).F w (gh.hdr j) (b.frozen q).own b.dead b.x cs := by
      intro cs h
      refine h.freeze hF (sel := pre q) (fun r ad cap h1 h2 h3 => ?_) (fun r => contains_filter b.own q r)
      have h4 := ho ad.block (some r) ⟨ad, cap, h1, h3, rfl⟩
      unfold Gh.F Gh.freeze
      simp only
      rw [if_pos ⟨r, h1, h2, h4⟩]
    refine ⟨?_, fun bn p hp => ?_⟩
    · cases hm : b.mem with
      | true =>
        obtain ⟨cs, tag, e1, e2⟩ := (RepBlk.of_mem hm).1 hr
        exact (RepBlk.of_mem (b := b.frozen q) hm).2 ⟨cs, tag, e1, key e2⟩
      | false =>
        obtain ⟨e0, v, e2⟩ := (RepBlk.of_not hm).1 hr
        exact (RepBlk.of_not (b := b.frozen q) hm).2 ⟨e0, v, key e2⟩
    · cases p with
      | none => exact hst bn none (ho bn none hp) (fun r e => by cases e)
      | some r =>
        obtain ⟨ad, cap, h1, h2, h3⟩ := hp
        have h1' : (b.own.contains r && !pre q r) = true := by rw [← contains_filter]; exact h1
        simp only [Bool.and_eq_true, Bool.not_eq_true'] at h1'
        exact hst bn (some r) (ho bn (some r) ⟨ad, cap, h1'.1, h2, h3⟩) (fun r' e h => by cases e; rw [h1'.2] at h; cases h.2)
  · by_cases hj : j = k
    · subst hj
      cases hb.symm.trans hc
      exact ⟨_, St.blk_put_same .., rfl, rfl, rfl, .inl ⟨rfl, fun _ => rfl, fun _ _ l h => ⟨l, h, rfl⟩⟩⟩
    · exact ⟨c, by rw [St.blk_put_ne σ _ (fun e => hj e.symm)]; exact hc, LaterB.same c rfl rfl⟩
theorem readP_some {α : Type} {k v : Nat} {p : List Step} {K : Blk U → U.D → Rd U α} {r : α} (h : (readP k v p K).run σ = some r) :
    ∃ b y, σ.blk k = some b ∧ (hasIx p = false ∨ v = b.ver) ∧ (∀ o ∈ b.dead, pre o (front p) = false ∧ pre (front p) o = false) ∧ getV U p b.x = some y ∧ (K b y).run σ = some r := by
  unfold readP at h
  simp only [run_blk] at h
  split at h
  · rename_i b hb
    split at h
    · rename_i hf
      rw [run_getP] at h
      simp only [Option.bind_eq_some_iff] at h
      obtain ⟨y, hy, h⟩ := h
      unfold Blk.fit at hf
      simp only [Bool.and_eq_true, Bool.or_eq_true, Bool.not_eq_true', beq_iff_eq, List.all_eq_true, Bool.or_eq_false_iff] at hf
      exact ⟨b, y, hb, hf.1, fun o ho => hf.2 o ho, hy, h⟩
    · simp at h
  · simp at h
theorem flds_front : ∀ {p : List Step} {q : List Nat}, flds p = some q → front p = q ∧ p = q.map .fld
  | [], q, h => by simp [flds] at h; subst h; exact ⟨rfl, rfl⟩
  | .fld j :: p, q, h => by
    simp only [flds, Option.map_eq_some_iff] at h
    obtain ⟨q', hq', rfl⟩ := h
    obtain ⟨h1, h2⟩ := flds_front hq'
    exact ⟨by simp [front, h1], by simp [h2]⟩
  | .ix i :: p, q, h => by simp [flds] at h
theorem run_load_op {T : TypeId} {x : Operand} {t : Ty} (ho : o.op = .load T x) (hI : Info P U T t) {ad : Addr} (hx : a.eval x = .pointer (some ad)) {cs : List Value} {n : Nat} (hz : Sz U t n) (hl : cs.length = n) (hc : Cells w ad cs) :
    ∃ v, (execOp a.eval o).run P w = .ok (.value v) w ∧ VOf t cs v := by
  obtain ⟨v, hv, hvo⟩ := run_loadVar hI hz hl hc
  refine ⟨v, ?_, hvo⟩
  unfold execOp
  rw [ho]
  simp only [Sem.run_bind, Instr.loadAt, hx, Instr.sureAddr, Sem.run_pure, Result.andThen_ok, hv]
theorem opLoad_step {G : Ctx U} (hU : ULaw U) (hG : GOk P U G) (S : Sim U E gh σ a w) (hd : InN E o.dst) {T : TypeId} {x : Operand} (ho : o.op = .load T x) {av : AV U} (hx : RepAV U gh σ w av (a.eval x)) {us : List (Upd U)}
    (h : (opLoad G o.dst T av : Out U).run σ = some us) : StepOk P U E o σ a w us := by
  unfold opLoad at h
  split at h
  · rename_i t y hT
    split at h
    · rename_i hy
      cases Ty.beq_eq hy
      simp only [run_ret, Option.some.injEq] at h
      subst h
      generalize hu : a.eval x = u at hx
      cases hx with
      | vptr h1 h2 h3 h4 =>
        obtain ⟨n, hn⟩ := hasSize hU y.t
        obtain ⟨v, hv, hvo⟩ := run_load_op (P := P) ho (hG.ty T _ hT).1 hu hn (h4.length hU hn) h3
        exact .value S hd (.d ⟨_, h4, hvo⟩) hv
    · simp at h
  · rename_i t k v p t' hT
    replace h := readP_some h
    obtain ⟨b, y, hb, hfit, hdead, hg, h⟩ := h
    split at h
    · simp at h
    rename_i hy
    simp only [Bool.not_eq_true', Bool.not_eq_false] at hy
    cases Ty.beq_eq hy
    generalize hu : a.eval x = u at hx
    cases hx with
    | ptr hp =>
      rename_i ad
      obtain ⟨b', hb', hv, hp⟩ := hp
      cases hb.symm.trans hb'
      replace hp := hp hfit
      obtain ⟨n, hn⟩ := hasSize hU y.t
      have plain : ∀ {gh' : Gh} {σ' : St U} {c : Blk U}, Sim U E gh' σ' a w → σ'.blk k = some c → c.x = b.x → c.dead = b.dead → PtrAt gh' k c p t' ad → (∀ q, flds p = some q → c.own.any (pre q) = false) → StepOk P U E o σ' a w (put o.dst (.d y)) := by
        intro gh' σ' c S' hc hcx hcd hp' hq
        obtain ⟨e1, cs, h1, h2⟩ := S'.readAt hU hc hp' (by rw [hcd]; exact hdead) (by rw [hcx]; exact hg) hq
        obtain ⟨v, hv, hvo⟩ := run_load_op (P := P) ho (hG.ty T _ hT).1 hu hn (h2.length hU hn) h1
        exact .value S' hd (.d ⟨_, h2, hvo⟩) hv
      split at h
      · rename_i hf
        simp only [run_ret, Option.some.injEq] at h
        subst h
        exact plain S hb rfl rfl hp (fun q hq => by rw [hf] at hq; cases hq)
      · rename_i q hf
        split at h
        · rename_i hown
          simp only [Bool.and_eq_true] at hown
          simp only [run_ret, Option.some.injEq] at h
          subst h
          obtain ⟨hfr, hpq⟩ := flds_front hf
          obtain ⟨hm, oo, ha, rfl⟩ := hp.flat (by rw [hpq, hasIx_flds])
          · have hr := S.blks k b hb
            unfold RepBlk at hr
            rw [if_pos hm] at hr
            obtain ⟨cs, tag, hh, hr⟩ := hr
            obtain ⟨e1, c1, c, c2, rfl, e2, e3, e4⟩ := RepO.at hU ha hr hg
            subst e2
            have h3 := e3 q hf
            cases h3 with
            | dead g1 _ _ _ =>
              rw [subQ_contains, List.append_nil] at g1
              have := (hdead q (by simpa using g1)).1
              rw [hfr, pre_self] at this
              cases this
            | leaf g1 _ _ => rw [hown.1] at g1; cases g1
            | frz g1 _ _ _ => rw [subQ_contains, List.append_nil, hown.2] at g1; cases g1
            | row g1 g2 g3 g5 g6 g7 =>
              rename_i e l aa cap tag' n' xs
              simp only [List.append_nil] at g7
              obtain ⟨v', hv', hvo⟩ := run_load_op (P := P) ho (hG.ty T _ hT).1 hu hn (cs := [.slice aa l.length cap]) (by cases hn; rfl) (cells_at hh)
              simp only [VOf, Ty.isAgg, Bool.false_eq_true, if_false, List.cons.injEq, and_true] at hvo
              subst hvo
              refine .value S hd (.row (by first | rfl | assumption) ⟨b, hb, Nat.le_refl _, fun _ e2 l2 hg2 => ?_⟩) hv'
              rw [getQ_eq, ← hpq, hg] at hg2
              simp only [Option.some.injEq, D.mk.injEq] at hg2
              obtain ⟨h7, h8⟩ := hg2
              cases h7
              cases h8
              exact ⟨n', g3, by simp only [RowVal]; rw [g7]⟩
            | st g => simp [Ty.isSl] at hown
        · split at h
          · rename_i hany
            simp only [run_ret, Option.some.injEq] at h
            subst h
            have hs := plain (S.freezeAt hb q) (St.blk_put_same ..) rfl rfl (PtrAt.congr (gh := gh) (b := b) rfl rfl rfl rfl hp) (fun q' hq => by
              rw [hf] at hq
              cases hq
              rw [List.any_eq_false]
              intro r hr
              have := (List.mem_filter.1 hr).2
              simpa using this)
            exact fun K Q hK => hs K Q hK
          · rename_i hany
            simp only [run_ret, Option.some.injEq] at h
            subst h
            refine plain S hb rfl rfl hp (fun q' hq => ?_)
            rw [hf] at hq
            cases hq
            simpa using hany
  · simp at h
end
end Go.Ev
end
section
namespace Go.Ev
variable {U : Univ} {P : Program}
def upd {α : Type} (f : Nat → α) (k : Nat) (v : α) (j : Nat) : α := if j = k then v else f j
@[simp] theorem upd_same {α : Type} (f : Nat → α) (k : Nat) (v : α) : upd f k v k = v := if_pos rfl
theorem upd_ne {α : Type} (f : Nat → α) {k j : Nat} (v : α) (h : j ≠ k) : upd f k v j = f j := if_neg h
section
variable {E : Env} {gh : Gh} {σ : St U} {a : Act} {w : World} {o : Oper}
theorem fresh_some {α : Type} {d : Nat} {K : Rd U α} {r : α} (h : (fresh d K).run σ = some r) : σ.blk d = none ∧ K.run σ = some r := by
  unfold fresh at h
  simp only [run_blk] at h
  split at h
  · exact ⟨by assumption, h⟩
  · simp at h
theorem Sim.world (S : Sim U E gh σ a w) {gh' : Gh} {w' : World} (bs : Nat → Prop) (hfree : ∀ k b, σ.blk k = some b → ∀ bn p, Ow gh k b bn p → ¬ bs bn) (hown : ∀ bn, bs bn → (∃ k p, gh.st bn = .own k p) ∨ w.heap.size ≤ bn)
    (hbase : gh'.base = gh.base) (hhdr : gh'.hdr = gh.hdr) (hst : ∀ bn, gh'.st bn = gh.st bn ∨ (bs bn ∧ bn < w'.heap.size ∧ ∃ k p, gh'.st bn = .own k p))
    (hw : ∀ bn, bn < w.heap.size → ¬ bs bn → w'.heap[bn]? = w.heap[bn]?) (hsize : w.heap.size ≤ w'.heap.size) (hos : w'.os = w.os) (htape : w'.tape = w.tape) (hout : w'.output = w.output) : Sim U E gh' σ a w' := by
  have hbnd : ∀ bn, gh.st bn ≠ .no → bn < w.heap.size := fun bn h => (S.frm.bound bn).resolve_left h
  have hFb : ∀ bn, gh.F bn → ¬ bs bn := by
    intro bn h hb
    have hlt := hbnd bn (by rw [Gh.F] at h; rw [h]; simp)
    rcases hown bn hb with ⟨k, p, h'⟩ | h'
    · rw [Gh.F, h'] at h; cases h
    · omega
  have hF : ∀ b, gh.F b → gh'.F b ∧ w'.heap[b]? = w.heap[b]? := by
    intro b hb
    have h1 := hFb b hb
    refine ⟨?_, hw b (hbnd b (by rw [Gh.F] at hb; rw [hb]; simp)) h1⟩
    rcases hst b with h | ⟨h, _⟩
    · rw [Gh.F, h]; exact hb
    · exact absurd h h1
  have hO : ∀ k b, σ.blk k = some b → ∀ bn p, Ow gh k b bn p → w'.heap[bn]? = w.heap[bn]? ∧ gh'.st bn = .own k p := by
    intro k b hb bn p ho
    have h1 := hfree k b hb bn p ho
    refine ⟨hw bn (Ow.lt S hb ho) h1, ?_⟩
    rcases hst bn with h | ⟨h, _⟩
    · rw [h]; exact S.owns k b hb bn p ho
    · exact absurd h h1
  have hL : Later gh gh' σ σ := fun k b hb => ⟨b, hb, LaterB.same b (by rw [hbase]) (by rw [hhdr])⟩
  refine ⟨S.size, S.defers, fun n => (S.slots n).later hF hL, fun k b hb => ?_, fun k b hb bn p ho => ?_, ?_, fun k b bn hk hb => by rw [hbase]; exact S.bases k b bn hk hb⟩
  · have hr := S.blks k b hb
    have ho := hO k b hb
    cases hm : b.mem with
    | true =>
      obtain ⟨cs, tag, e1, e2⟩ := (RepBlk.of_mem hm).1 hr
      refine (RepBlk.of_mem hm).2 ⟨cs, tag, ?_, ?_⟩
      · rw [hbase, (ho (gh.base k) none ⟨hm, rfl⟩).1]; exact e1
      · rw [hhdr]
        exact e2.mono hF fun q ad cap hq e => (ho ad.block (some q) ⟨ad, cap, hq, e, rfl⟩).1
    | false =>
      obtain ⟨e0, v, e2⟩ := (RepBlk.of_not hm).1 hr
      refine (RepBlk.of_not hm).2 ⟨e0, v, ?_⟩
      rw [hhdr]
      exact e2.mono hF fun q ad cap hq e => (ho ad.block (some q) ⟨ad, cap, hq, e, rfl⟩).1
  · have : Ow gh k b bn p := by
      cases p with
      | none => exact ⟨ho.1, by rw [← hbase]; exact ho.2⟩
      | some q => obtain ⟨ad, cap, e1, e2, e3⟩ := ho; exact ⟨ad, cap, e1, by rw [← hhdr]; exact e2, e3⟩
    exact (hO k b hb bn p this).2
  · have f := S.frm
    refine ⟨fun bn => ?_, fun bn k p h => ?_, fun bn h => ?_, fun bn h => (hF bn (f.old bn h)).1, Nat.le_trans f.grown hsize, fun bn hlt hS => ?_, hos.trans f.os, htape.trans f.tape, hout.trans f.output⟩
    · rcases hst bn with h | ⟨_, h, _⟩
      · rw [h]
        rcases f.bound bn with h' | h'
        · exact .inl h'
        · exact .inr (by omega)
      · exact .inr h
    · rcases hst bn with h' | ⟨h', _⟩
      · exact f.fresh bn k p (h' ▸ h)
      · rcases hown bn h' with ⟨k', p', h2⟩ | h2
        · exact f.fresh bn k' p' h2
        · exact .inr (Nat.le_trans f.grown h2)
    · rcases hst bn with h' | ⟨_, _, k, p, h'⟩
      · exact f.ffresh bn (by rw [Gh.F] at h ⊢; rw [← h']; exact h)
      · rw [Gh.F, h'] at h; cases h
    · rw [← f.kept bn hlt hS]
      refine hw bn (Nat.lt_of_lt_of_le hlt f.grown) fun hb => ?_
      rcases hown bn hb with ⟨k, p, h2⟩ | h2
      · rcases f.fresh bn k p h2 with h | h
        · exact hS h
        · omega
      · have := f.grown
        omega
theorem Sim.newSlotRowW (S : Sim U E gh σ a w) {d : Nat} (hno : σ.blk d = none) {e : Ty} {l : List (e.den U.car)} {ad : Option Addr} {cap tag n : Nat} {xs : List Value} (hz : Sz U e n) (hr : RepL U gh.F w (l.map (D.mk e)) xs)
    (ho : w.ownsRow 0 tag n (.slice ad l.length cap) l.length xs) (hst : ∀ b, ad = some b → gh.st b.block = .own d (some [])) (hd : d < E.n ∧ E.bx d = none) {wn : Win} {v : Value} (hv : RowVal (ad, cap) l.length n wn v) :
    ∃ gh', Sim U E gh' ((σ.put (.blk d (some (newBlk ⟨.sl e, l⟩ false [[]])))).put (.slot d (.row d 0 [] wn))) (a.put (some d) v) w := by
  let gh' : Gh := ⟨gh.base, upd gh.hdr d (fun _ => (ad, cap)), gh.st⟩
  have hL : Later gh gh' σ ((σ.put (.blk d (some (newBlk ⟨.sl e, l⟩ false [[]])))).put (.slot d (.row d 0 [] wn))) := by
    intro k b hb
    have hk : k ≠ d := fun e => by rw [e, hno] at hb; cases hb
    refine ⟨b, ?_, LaterB.same b rfl (upd_ne _ _ hk)⟩
    rw [St.blk_put_slot, St.blk_put_ne σ _ (fun e => hk e.symm)]
    exact hb
  refine ⟨gh', S.step (fun j => j = d) (put_size ..) (put_defers ..) (fun _ _ _ => rfl) (fun bn => .inl rfl) (Nat.le_refl _) rfl rfl rfl (fun j c hj hc => ?_) (fun j c hj hc => ?_) hL ?_ (fun j _ hj _ _ => hj ▸ hd.2)⟩
  · rw [St.blk_put_slot, St.blk_put_ne σ _ (fun e => hj e.symm)] at hc
    exact ⟨hc, rfl, upd_ne _ _ hj⟩
  · subst hj
    simp only [St.blk_put_slot, St.blk_put_same, Option.some.injEq] at hc
    subst hc
    refine ⟨(RepBlk.of_not (b := newBlk ⟨.sl e, l⟩ false [[]]) rfl).2 ⟨rfl, .slice ad l.length cap, ?_⟩, fun bn p hp => ?_⟩
    · show RepO U gh.F w (upd gh.hdr j (fun _ => (ad, cap)) j) [[]] [] ⟨.sl e, l⟩ _
      rw [upd_same]
      exact .row rfl rfl hz hr ho rfl
    · cases p with
      | none => cases hp.1
      | some q =>
        obtain ⟨b, c, h1, h2, h3⟩ := hp
        have h2 : upd gh.hdr j (fun _ => (ad, cap)) j q = (some b, c) := h2
        rw [upd_same] at h2
        cases h2
        have hq : q = [] := by
          have h1 : ([[]] : List (List Nat)).contains q = true := h1
          simpa using h1
        subst hq
        rw [← h3]
        exact hst b rfl
  · refine slots_put S (dst := some d) (x := .row d 0 [] wn) (fun d' h => by cases h; exact hd) (fun n => St.slot_put ..) fun _ => ?_
    refine .row hv.one ⟨newBlk ⟨.sl e, l⟩ false [[]], by simp, Nat.le_refl _, fun _ e2 l2 hg => ?_⟩
    simp only [newBlk, getQ, Option.some.injEq, D.mk.injEq] at hg
    obtain ⟨h7, h8⟩ := hg
    cases h7
    cases h8
    refine ⟨n, hz, ?_⟩
    show RowVal (upd gh.hdr d (fun _ => (ad, cap)) d []) l.length n wn v
    rw [upd_same]
    exact hv
theorem Sim.newVar (S : Sim U E gh σ a w) {d : Nat} (hno : σ.blk d = none) {x : U.D} {own : List (List Nat)} {cs : List Value} (tag : TypeId) {η : Hdr} (hη : ∀ q ad cap, own.contains q = true → η q = (some ad, cap) → gh.st ad.block = .own d (some q))
    (hO : RepO U gh.F w η own [] x cs) (hd : d < E.n ∧ E.bx d = none) : ∃ gh', Sim U E gh' ((σ.put (.blk d (some (newBlk x true own)))).put (.slot d (.ptr d 0 [] x.t))) (a.put (some d) (.pointer (some ⟨w.heap.size, 0, none⟩))) (w.alloc (.cells cs.toArray tag)) := by
  let gh' : Gh := ⟨upd gh.base d w.heap.size, upd gh.hdr d η, upd gh.st w.heap.size (.own d none)⟩
  have hsz : gh.st w.heap.size = .no := by
    rcases S.frm.bound w.heap.size with h | h
    · exact h
    · omega
  have hF : ∀ b, gh.F b → gh'.F b ∧ (w.alloc (.cells cs.toArray tag)).heap[b]? = w.heap[b]? := by
    intro b hb
    have hlt : b < w.heap.size := by
      rcases S.frm.bound b with h | h
      · rw [Gh.F, h] at hb; cases hb
      · exact h
    refine ⟨?_, heap_alloc_old w _ b hlt⟩
    show upd gh.st w.heap.size (.own d none) b = .frz
    rw [upd_ne _ _ (by omega)]
    exact hb
  have hL : Later gh gh' σ ((σ.put (.blk d (some (newBlk x true own)))).put (.slot d (.ptr d 0 [] x.t))) := by
    intro k b hb
    have hk : k ≠ d := fun e => by rw [e, hno] at hb; cases hb
    refine ⟨b, ?_, LaterB.same b (upd_ne _ _ hk) (upd_ne _ _ hk)⟩
    rw [St.blk_put_slot, St.blk_put_ne σ _ (fun e => hk e.symm)]
    exact hb
  refine ⟨gh', S.step (fun j => j = d) (put_size ..) (put_defers ..) (fun bn hlt _ => heap_alloc_old w _ bn hlt) (fun bn => ?_) (by simp) rfl rfl rfl (fun j c hj hc => ?_) (fun j c hj hc => ?_) hL ?_ (fun j _ hj _ _ => hj ▸ hd.2)⟩
  · by_cases h : bn = w.heap.size
    · subst h
      exact .inr (.inr ⟨Nat.le_refl _, by simp⟩)
    · exact .inl (upd_ne _ _ h)
  · rw [St.blk_put_slot, St.blk_put_ne σ _ (fun e => hj e.symm)] at hc
    exact ⟨hc, upd_ne _ _ hj, upd_ne _ _ hj⟩
  · subst hj
    simp only [St.blk_put_slot, St.blk_put_same, Option.some.injEq] at hc
    subst hc
    refine ⟨(RepBlk.of_mem (b := newBlk x true own) rfl).2 ⟨cs, tag, ?_, ?_⟩, fun bn p hp => ?_⟩
    · show (w.alloc (.cells cs.toArray tag)).heap[upd gh.base j w.heap.size j]? = _
      rw [upd_same]
      exact heap_alloc_new w _
    · show RepO U gh'.F _ (upd gh.hdr j η j) own [] x cs
      rw [upd_same]
      exact hO.mono hF fun q ad cap hq e => by
        have := hη q ad cap hq e
        refine heap_alloc_old w _ _ ?_
        rcases S.frm.bound ad.block with h | h
        · rw [h] at this; cases this
        · exact h
    · cases p with
      | none =>
        have : upd gh.base j w.heap.size j = bn := hp.2
        rw [upd_same] at this
        subst this
        exact upd_same _ _ _
      | some q =>
        obtain ⟨ad, cap, h1, h2, h3⟩ := hp
        have h2 : upd gh.hdr j η j q = (some ad, cap) := h2
        rw [upd_same] at h2
        have h4 := hη q ad cap h1 h2
        rw [h3] at h4
        show upd gh.st w.heap.size (.own j none) bn = _
        rw [upd_ne _ _ (fun e => by rw [e, hsz] at h4; cases h4)]
        exact h4
  · refine slots_put S (dst := some d) (x := .ptr d 0 [] x.t) (fun d' h => by cases h; exact hd) (fun n => St.slot_put ..) fun _ => ?_
    refine .ptr ⟨newBlk x true own, by simp, Nat.le_refl _, fun _ => ?_⟩
    have := PtrAt.mem (U := U) (gh := gh') (k := d) (b := newBlk x true own) (p := []) (t := x.t) rfl .nil
    have e : gh'.base d = w.heap.size := upd_same _ _ _
    rw [e] at this
    exact this
theorem Info.zero (hU : ULaw U) {T : TypeId} {t : Ty} (hI : Info P U T t) {z : U.D} {m : Nat} (hz : zeroD U m t = some z) (F : Nat → Prop) (w : World) :
    ∃ i v c, P.info? T = some i ∧ i.zero = some v ∧ VOf t c v ∧ v.cells = c.toArray ∧ Rep U F w z c ∧ ∀ (η : Hdr) (own dd : List (List Nat)), (∀ q, η q = (none, 0)) → (∀ q, dd.contains q = false) → RepO U F w η own dd z c := by
  obtain ⟨i, d, v, cs, hi, _, _, _, _, hzv, hvo, hzc, _⟩ := hI
  obtain ⟨c, hc, h1, h2⟩ := zero_rep hU (F := F) (w := w) deep t cs [] hzc m z hz
  rw [List.append_nil] at hc
  subst hc
  exact ⟨i, v, _, hi, hzv, hvo, hvo.cells h1.one, h1, h2⟩
theorem run_newVar {T : TypeId} {v : Value} {c : List Value} (hc : v.cells = c.toArray) : (newVar T v).run P w = .ok ⟨w.heap.size, 0, none⟩ (w.alloc (.cells c.toArray T)) := by
  simp [newVar, Go.newRow, hc]
theorem opAlloc_step {G : Ctx U} (hU : ULaw U) (hG : GOk P U G) (S : Sim U E gh σ a w) (hd : InN E o.dst) {T : TypeId} (ho : o.op = .alloc T) {us : List (Upd U)} (h : (opAlloc G o.dst T : Out U).run σ = some us) : StepOk P U E o σ a w us := by
  unfold opAlloc at h
  split at h
  · rename_i d t hdst hT
    split at h
    · rename_i z hz
      obtain ⟨hno, h⟩ := fresh_some h
      simp only [run_ret, Option.some.injEq] at h
      subst h
      obtain ⟨i, v, c, hi, hzv, hvo, hvc, h1, h2⟩ := (hG.ty T _ hT).1.zero hU hz gh.F w
      obtain ⟨gh', S'⟩ := S.newVar hno (x := z) (own := slP U deep t) (cs := c) T (η := fun _ => (none, 0)) (fun _ _ _ _ e => by cases e) (h2 _ _ _ (fun _ => rfl) (fun _ => rfl)) (hd d hdst)
      intro K Q hK
      unfold Oper.wp
      have : (execOp a.eval o).run P w = .ok (.value (.pointer (some ⟨w.heap.size, 0, none⟩))) (w.alloc (.cells c.toArray T)) := by
        unfold execOp
        rw [ho]
        simp only [Sem.run_bind, Instr.alloc, run_zeroValue hi hzv, Result.andThen_ok, run_newVar hvc, Sem.run_pure]
      rw [this]
      refine hK gh' _ _ ?_
      rw [hdst, ← zeroD_t hz]
      rw [← zeroD_t hz] at S'
      exact S'
    · simp at h
  · simp at h
end
end Go.Ev
end
section
namespace Go.Ev
variable {U : Univ} {P : Program}
theorem contains_cons (q r : List Nat) (l : List (List Nat)) : (q :: l).contains r = ((r == q) || l.contains r) := rfl
theorem RepO.kill {F : Nat → Prop} {w : World} (hU : ULaw U) : ∀ {q : List Nat} {η : Hdr} {own own' dd dd' : List (List Nat)} {x y : U.D} {cs : List Value}, getQ U q x = some y → y.t.isSl = true →
    (∀ r, own'.contains r = (own.contains r && !pre q r)) → (∀ r, dd'.contains r = ((r == q) || dd.contains r)) → RepO U F w η own dd x cs → RepO U F w η own' dd' x cs
  | [], η, own, own', dd, dd', x, y, cs, hg, hy, ho, hd, h => by
    simp only [getQ, Option.some.injEq] at hg
    subst hg
    have h1 : dd'.contains [] = true := by rw [hd]; rfl
    have h2 : own'.contains [] = false := by rw [ho]; simp [pre]
    cases h with
    | dead _ _ g3 g4 => exact .dead h1 h2 g3 g4
    | leaf g1 _ _ => rw [g1] at hy; cases hy
    | frz _ _ _ _ => exact .dead h1 h2 rfl rfl
    | row _ _ _ _ _ _ => exact .dead h1 h2 rfl rfl
    | st _ => simp [Ty.isSl] at hy
  | j :: q, η, own, own', dd, dd', ⟨t, x⟩, y, cs, hg, hy, ho, hd, h => by
    cases t <;> try (simp [getQ] at hg; done)
    rename_i id
    simp only [getQ] at hg
    split at hg
    · rename_i z hz
      obtain ⟨c1, c, c2, rfl, h1, _, h3⟩ := h.st_inv.get hU hz
      simp only [Nat.zero_add] at h1 h3
      have hr := RepO.kill hU (q := q) (own' := subP j own') (dd' := subP j dd') hg hy (fun r => by rw [subP_contains, subP_contains, ho]; simp [pre]) (fun r => by
        rw [subP_contains, subP_contains, hd]
        congr 1
        cases hc : (r == q) with
        | true => have := (beq_iff_eq).1 hc; subst this; simp
        | false =>
          have : r ≠ q := by simpa using hc
          have h5 : (j :: r) ≠ (j :: q) := fun e => this (by injection e)
          simpa using h5) h1
      have := h3 η own' dd' z c (fun k r hk => ⟨by
        rw [ho]
        have : (j == k) = false := by simp only [beq_eq_false_iff_ne, ne_eq]; exact fun e => hk e.symm
        simp [pre, this], by
        rw [hd]
        have : ((k :: r) == (j :: q)) = false := by simp; intro e; exact absurd e hk
        rw [this]; rfl, rfl⟩) hr
      rw [list_set_self hz] at this
      exact .st this
    · cases hg
 where
  list_set_self {α : Type} : ∀ {l : List α} {i : Nat} {x : α}, l[i]? = some x → l.set i x = l
    | [], _, _, _ => rfl
    | _ :: _, 0, _, h => by simp at h; subst h; rfl
    | y :: l, i + 1, _, h => by simp at h; simp [list_set_self h]
section
variable {E : Env} {gh : Gh} {σ : St U} {a : Act} {w : World} {o : Oper}
theorem Sim.kill (hU : ULaw U) (S : Sim U E gh σ a w) {k : Nat} {b : Blk U} (hb : σ.blk k = some b) {q : List Nat} {y : U.D} (hg : getQ U q b.x = some y) (hy : y.t.isSl = true) : Sim U E gh (σ.put (.blk k (b.moved q))) a w := by
  refine S.step (fun j => j = k) rfl rfl (fun _ _ _ => rfl) (fun bn => .inl rfl) (Nat.le_refl _) rfl rfl rfl (fun j c hj hc => ?_) (fun j c hj hc => ?_) (fun j c hc => ?_) (fun n => .inl ⟨rfl, rfl⟩)
  · rw [St.blk_put_ne σ _ (fun e => hj e.symm)] at hc
    exact ⟨hc, rfl, rfl⟩
  · subst hj
    simp only [St.blk_put_same, Blk.moved, Option.some.injEq] at hc
    subst hc
    have hr := S.blks j b hb
    have key : ∀ {cs : List Value}, RepO U gh.F w (gh.hdr j) b.own b.dead b.x cs → RepO U gh.F w (gh.hdr j) (b.own.filter fun o => !pre q o) (q :: b.dead) b.x cs := fun h =>
      RepO.kill hU hg hy (fun r => contains_filter b.own q r) (fun r => contains_cons q r b.dead) h
    refine ⟨?_, fun bn p hp => ?_⟩
    · cases hm : b.mem with
      | true =>
        obtain ⟨cs, tag, e1, e2⟩ := (RepBlk.of_mem hm).1 hr
        exact (RepBlk.of_mem rfl).2 ⟨cs, tag, e1, key e2⟩
      | false =>
        obtain ⟨e0, v, e2⟩ := (RepBlk.of_not hm).1 hr
        exact (RepBlk.of_not rfl).2 ⟨e0, v, key e2⟩
    · cases p with
      | none => exact S.owns j b hb bn none hp
      | some r =>
        obtain ⟨ad, cap, h1, h2, h3⟩ := hp
        have h1' : (b.own.contains r && !pre q r) = true := by rw [← contains_filter]; exact h1
        simp only [Bool.and_eq_true] at h1'
        exact S.owns j b hb bn (some r) ⟨ad, cap, h1'.1, h2, h3⟩
  · by_cases hj : j = k
    · subst hj
      cases hb.symm.trans hc
      exact ⟨_, St.blk_put_same .., rfl, rfl, rfl, .inr (Nat.lt_succ_self _)⟩
    · exact ⟨c, by rw [St.blk_put_ne σ _ (fun e => hj e.symm)]; exact hc, LaterB.same c rfl rfl⟩
theorem Sim.ownRow (hU : ULaw U) (S : Sim U E gh σ a w) {k : Nat} {b : Blk U} {q : List Nat} {e : Ty} {l : List (e.den U.car)} (hb : σ.blk k = some b) (ho : b.own.contains q = true) (hd : b.dead.contains q = false)
    (hg : getQ U q b.x = some ⟨.sl e, l⟩) : ∃ ad cap tag n xs, gh.hdr k q = (ad, cap) ∧ Sz U e n ∧ RepL U gh.F w (l.map (D.mk e)) xs ∧ w.ownsRow 0 tag n (.slice ad l.length cap) l.length xs ∧ ∀ c, ad = some c → gh.st c.block = .own k (some q) := by
  have hr := S.blks k b hb
  have hg' := hg
  rw [getQ_eq] at hg
  have key : ∀ {cs : List Value}, RepO U gh.F w (gh.hdr k) b.own b.dead b.x cs → ∃ ad cap tag n xs, gh.hdr k q = (ad, cap) ∧ Sz U e n ∧ RepL U gh.F w (l.map (D.mk e)) xs ∧ w.ownsRow 0 tag n (.slice ad l.length cap) l.length xs := by
    intro cs hr
    obtain ⟨oo, hoo⟩ := At.ofGet hU q _ _ hg
    obtain ⟨_, c1, c, c2, _, _, h3, _⟩ := RepO.at hU hoo hr hg
    have h4 := h3 q (flds_map q)
    cases h4 with
    | dead e1 _ _ _ => rw [subQ_contains, List.append_nil, hd] at e1; cases e1
    | leaf e1 _ _ => simp [Ty.isSl] at e1
    | frz e1 _ _ _ => rw [subQ_contains, List.append_nil, ho] at e1; cases e1
    | row _ _ e3 e5 e6 e7 =>
      simp only [List.append_nil] at e7
      exact ⟨_, _, _, _, _, e7, e3, e5, e6⟩
  have h0 : ∃ ad cap tag n xs, gh.hdr k q = (ad, cap) ∧ Sz U e n ∧ RepL U gh.F w (l.map (D.mk e)) xs ∧ w.ownsRow 0 tag n (.slice ad l.length cap) l.length xs := by
    cases hm : b.mem with
    | true =>
      obtain ⟨cs, tag, _, h⟩ := (RepBlk.of_mem hm).1 hr
      exact key h
    | false =>
      obtain ⟨_, v, h⟩ := (RepBlk.of_not hm).1 hr
      exact key h
  obtain ⟨ad, cap, tag, n, xs, h1, h2, h3, h4⟩ := h0
  exact ⟨ad, cap, tag, n, xs, h1, h2, h3, h4, fun c hc => S.owns k b hb c.block (some q) ⟨c, cap, ho, by rw [h1, hc], rfl⟩⟩
theorem Sim.killed (S : Sim U E gh σ a w) {k : Nat} {b : Blk U} {q : List Nat} {bn : Nat} (hst : gh.st bn = .own k (some q)) {k' : Nat} {b' : Blk U} (hb' : (σ.put (.blk k (b.moved q))).blk k' = some b') (hb : σ.blk k = some b) {bn' : Nat} {p : Option (List Nat)} (ho : Ow gh k' b' bn' p) : bn' ≠ bn := by
  intro e
  subst e
  by_cases hk : k' = k
  · subst hk
    simp only [St.blk_put_same, Blk.moved, Option.some.injEq] at hb'
    subst hb'
    cases p with
    | none =>
      have := S.owns k' b hb bn' none ho
      rw [hst] at this
      cases this
    | some r =>
      obtain ⟨ad, cap, h1, h2, h3⟩ := ho
      have h1' : (b.own.contains r && !pre q r) = true := by rw [← contains_filter]; exact h1
      simp only [Bool.and_eq_true, Bool.not_eq_true'] at h1'
      have := S.owns k' b hb bn' (some r) ⟨ad, cap, h1'.1, h2, h3⟩
      rw [hst] at this
      cases this
      rw [pre_self] at h1'
      cases h1'.2
  · rw [St.blk_put_ne σ _ (fun e => hk e.symm)] at hb'
    have := S.owns k' b' hb' bn' p ho
    rw [hst] at this
    cases this
    exact hk rfl
end
end Go.Ev
end
section
namespace Go.Ev
variable {U : Univ} {P : Program}
structure Grown (w w' : World) (old : Option Addr) : Prop where
  os : w'.os = w.os
  tape : w'.tape = w.tape
  output : w'.output = w.output
  size : w.heap.size ≤ w'.heap.size
  heap : ∀ bn, bn < w.heap.size → (∀ c, old = some c → bn ≠ c.block) → w'.heap[bn]? = w.heap[bn]?
theorem run_append_any {T0 T1 ty EE : TypeId} {d1 : TypeDesc} {i : TypeInfo} {z : Value} (ht : P.underlying T0 = some (.slice EE)) (ht1 : P.underlying T1 = some d1) (hni : ∀ k, d1 ≠ .int k) (hi : P.info? EE = some i) (hz : i.zero = some z) (hzs : z.cells.size = i.size)
    {w : World} {x : Value} {m : Nat} {news : List Value} (hlen : ∀ w', (Builtin.lenOf x).run P w' = .ok m w') (hnew : ∀ w', w'.heap = w.heap → (Builtin.firstCells i.size m x).run P w' = .ok news.toArray w')
    (hl : news.length = m * i.size) (h1 : ∀ u ∈ news, u.oneCell' = true) {tag n cap : Nat} {ad : Option Addr} {xs : List Value} (hown : w.ownsRow 0 tag i.size (.slice ad n cap) n xs)
    (h63 : n + m ≤ maxLen) (hbytes : (n + m) * i.bytes ≤ 140737488355328) :
    ∃ ad' cap' tag' w', (Builtin.append_ #[T0, T1] ty #[.slice ad n cap, x]).run P w = .ok (.slice ad' (n + m) cap') w' ∧ w'.ownsRow 0 tag' i.size (.slice ad' (n + m) cap') (n + m) (xs ++ news) ∧ Grown w w' ad ∧
      ∀ c', ad' = some c' → (∃ c, ad = some c ∧ c'.block = c.block) ∨ (w.heap.size ≤ c'.block ∧ c'.block < w'.heap.size) := by
  have hz0 : ((match d1 with | .int _ => true | _ => false) : Bool) = false := by
    cases d1 <;> first | rfl | exact absurd rfl (hni _)
  have hx : (xs ++ news).length = (n + m) * i.size := by rw [List.length_append, hown.1, hl, Nat.add_mul]
  by_cases hroom : n + m ≤ cap
  · rcases hown.2 with ⟨e1, e2⟩ | ⟨g, cap', cur, e1, _, hg, hnc, hcm, hcs, htake⟩
    · simp only [Value.slice.injEq] at e1
      obtain ⟨rfl, rfl, rfl⟩ := e1
      have hm : m = 0 := by omega
      subst hm
      have hnn : news = [] := List.eq_nil_of_length_eq_zero (by simpa using hl)
      subst hnn
      refine ⟨none, 0, tag, w, ?_, by simpa using hown, ⟨rfl, rfl, rfl, Nat.le_refl _, fun _ _ _ => rfl⟩, fun c' h => by cases h⟩
      simp [Builtin.append_, run_underlying ht, run_underlying ht1, hz0, sizeOf, typeInfo, hi, hlen, hnew w rfl]
    · simp only [Value.slice.injEq] at e1
      obtain ⟨rfl, _, rfl⟩ := e1
      have hfit : n * i.size + news.length ≤ cur.size := by rw [hl, hcs, ← Nat.add_mul]; exact Nat.mul_le_mul_right _ hroom
      have hst := run_storeCells_at P g (n * i.size) tag news 0 cur w hg (by simpa using hfit) h1
      simp only [Nat.add_zero] at hst
      refine ⟨_, cap, tag, _, ?_, ⟨hx, .inr ⟨g, cap, _, rfl, Nat.zero_le _, setRow_heap w g cur (cur.toList.take (n * i.size) ++ news ++ cur.toList.drop (n * i.size + news.length)).toArray tag _ hg, hroom, hcm, ?_, ?_⟩⟩, ⟨rfl, rfl, rfl, by simp, fun k _ hk => setRow_other w g k _ (fun e => hk _ rfl e)⟩, fun c' h => .inl ⟨_, rfl, by cases h; rfl⟩⟩
      · simp [Builtin.append_, run_underlying ht, run_underlying ht1, hz0, sizeOf, typeInfo, hi, hlen, hroom, hnew w rfl, Addr.add_lit, hst]
      · simp only [List.size_toArray, List.length_append, List.length_take, List.length_drop, Array.length_toList]
        omega
      · rw [htake, ← hx]
        exact List.take_left
  · have h63' : ¬ (9223372036854775807 < ((n : Int) + (m : Int))) := by simp only [maxLen] at h63; omega
    have h48' : ¬ (281474976710656 < Builtin.nextslicecap (n + m) cap * i.bytes) := by
      have := growslice_fits (need := n + m) (old := cap) (by omega) hbytes
      omega
    have hold : (Builtin.firstCells i.size n (.slice ad n cap)).run P w.drew = .ok xs.toArray w.drew := by
      rcases hown.2 with ⟨e1, e2⟩ | ⟨g, cap', cur, e1, _, hg, hnc, hcm, hcs, htake⟩
      · simp only [Value.slice.injEq] at e1
        obtain ⟨rfl, rfl, rfl⟩ := e1
        have : xs = [] := List.eq_nil_of_length_eq_zero (by simpa using hown.1)
        subst this
        exact run_firstCells_none w.drew i.size 0 0 0
      · simp only [Value.slice.injEq] at e1
        obtain ⟨rfl, _, rfl⟩ := e1
        exact run_firstCells_some (P := P) w.drew i.size n ⟨g, 0, none⟩ n cap xs hown.1 (by simpa using hown.cells (g := g) rfl)
    have hge := grownCap_ge w (n + m) cap EE
    have hcm := grownCap_le_maxLen w (n + m) cap EE h63
    refine ⟨some ⟨w.heap.size, 0, none⟩, grownCap w (n + m) cap EE, EE, w.drew.alloc (.cells (xs.toArray ++ news.toArray ++ Builtin.zeroCells z.cells (grownCap w (n + m) cap EE - (n + m))) EE), ?_,
      ⟨hx, .inr ⟨w.heap.size, _, _, rfl, Nat.zero_le _, heap_alloc_new w.drew _, hge, hcm, ?_, ?_⟩⟩, ⟨rfl, rfl, rfl, by simp, fun k hk _ => heap_alloc_old w.drew _ k hk⟩, fun c' h => .inr (by cases h; simp)⟩
    · simp [Builtin.append_, run_underlying ht, run_underlying ht1, hz0, sizeOf, typeInfo, zeroValue, hi, hz, hlen, hroom, h63', h48', Question.forced, hnew w.drew rfl, hold, Go.newRow, grownCap]
      congr 2
      apply Array.ext'
      simp [List.append_assoc]
    · simp only [Array.size_append, List.size_toArray, size_zeroCells, hzs, hown.1, hl, ← Nat.add_mul]
      congr 1
      omega
    · simp only [Array.toList_append, List.append_assoc]
      rw [← List.append_assoc, ← hx]
      exact List.take_left
theorem run_append_full {T0 T1 ty EE : TypeId} {d1 : TypeDesc} {i : TypeInfo} (ht : P.underlying T0 = some (.slice EE)) (ht1 : P.underlying T1 = some d1) (hni : ∀ k, d1 ≠ .int k) (hi : P.info? EE = some i)
    {w : World} {x : Value} {m : Nat} {news : List Value} (hlen : ∀ w', (Builtin.lenOf x).run P w' = .ok m w') (hnew : ∀ w', w'.heap = w.heap → (Builtin.firstCells i.size m x).run P w' = .ok news.toArray w')
    (hl : news.length = m * i.size) (h1 : ∀ u ∈ news, u.oneCell' = true) {tag n cap : Nat} {ad : Option Addr} {xs : List Value} (hown : w.ownsRow 0 tag i.size (.slice ad cap cap) cap xs) (hroom : n + m ≤ cap) :
    ∃ w', (Builtin.append_ #[T0, T1] ty #[.slice ad n cap, x]).run P w = .ok (.slice ad (n + m) cap) w' ∧
      w'.ownsRow 0 tag i.size (.slice ad cap cap) cap (xs.take (n * i.size) ++ news ++ xs.drop ((n + m) * i.size)) ∧ Grown w w' ad := by
  have hz0 : ((match d1 with | .int _ => true | _ => false) : Bool) = false := by
    cases d1 <;> first | rfl | exact absurd rfl (hni _)
  have hnm : n * i.size + m * i.size ≤ cap * i.size := by rw [← Nat.add_mul]; exact Nat.mul_le_mul_right _ hroom
  have hx : (xs.take (n * i.size) ++ news ++ xs.drop ((n + m) * i.size)).length = cap * i.size := by
    simp only [List.length_append, List.length_take, List.length_drop, hown.1, hl, Nat.add_mul]
    omega
  rcases hown.2 with ⟨e1, e2⟩ | ⟨g, cap', cur, e1, _, hg, hnc, hcm, hcs, htake⟩
  · simp only [Value.slice.injEq] at e1
    obtain ⟨rfl, rfl, _⟩ := e1
    have hn : n = 0 := by omega
    have hm : m = 0 := by omega
    subst hn
    subst hm
    have hnn : news = [] := List.eq_nil_of_length_eq_zero (by simpa using hl)
    subst hnn
    refine ⟨w, ?_, ⟨hx, .inl ⟨rfl, rfl⟩⟩, ⟨rfl, rfl, rfl, Nat.le_refl _, fun _ _ _ => rfl⟩⟩
    simp [Builtin.append_, run_underlying ht, run_underlying ht1, hz0, sizeOf, typeInfo, hi, hlen, hnew w rfl]
  · simp only [Value.slice.injEq] at e1
    obtain ⟨rfl, _, rfl⟩ := e1
    have hcur : cur.toList = xs := by
      rw [← htake, List.take_of_length_le]
      simp [hcs]
    have hfit : n * i.size + news.length ≤ cur.size := by rw [hl, hcs]; omega
    have hst := run_storeCells_at P g (n * i.size) tag news 0 cur w hg (by simpa using hfit) h1
    simp only [Nat.add_zero] at hst
    have e9 : n * i.size + news.length = (n + m) * i.size := by rw [hl, Nat.add_mul]
    refine ⟨_, ?_, ⟨hx, .inr ⟨g, cap, _, rfl, Nat.zero_le _, setRow_heap w g cur (cur.toList.take (n * i.size) ++ news ++ cur.toList.drop (n * i.size + news.length)).toArray tag _ hg, Nat.le_refl _, hcm, ?_, ?_⟩⟩, ⟨rfl, rfl, rfl, by simp, fun k _ hk => setRow_other w g k _ (fun e => hk _ rfl e)⟩⟩
    · simp [Builtin.append_, run_underlying ht, run_underlying ht1, hz0, sizeOf, typeInfo, hi, hlen, hroom, hnew w rfl, Addr.add_lit, hst]
    · simp only [hcur, e9, List.size_toArray]
      exact hx
    · simp only [hcur, e9]
      rw [List.take_of_length_le (Nat.le_of_eq hx)]
end Go.Ev
end
section
namespace Go.Ev
variable {U : Univ} {P : Program}
section
variable {E : Env} {gh : Gh} {σ : St U} {a : Act} {w : World} {o : Oper}
theorem plainOf_some {α : Type} (hU : ULaw U) (S : Sim U E gh σ a w) {t : Ty} {v : AV U} {u : Value} {K : U.D → Rd U α} {r : α} (hv : RepAV U gh σ w v u) (h : (plainOf t v K).run σ = some r) :
    ∃ x : U.D, x.t = t ∧ (K x).run σ = some r ∧ ((∀ k ver q wn, v ≠ .row k ver q wn) → RepV U gh.F w x u) ∧ ∀ e (l : List (e.den U.car)), x = ⟨.sl e, l⟩ → Rd1 U gh.F w e l u := by
  have sl : ∀ x : U.D, RepV U gh.F w x u → ∀ e (l : List (e.den U.car)), x = ⟨.sl e, l⟩ → Rd1 U gh.F w e l u := by
    intro x hx e l he
    subst he
    obtain ⟨cs, h1, h2⟩ := hx
    simp only [VOf, Ty.isAgg, Bool.false_eq_true, if_false] at h2
    cases h1 with
    | sl g1 g2 g3 g4 =>
      cases h2
      obtain ⟨n, hn⟩ := hasSize hU e
      exact ⟨_, _, n, _, rfl, hn, g1, fun hl => let ⟨a1, a2, _, a4⟩ := g2 hl; ⟨_, a1, a2, a4⟩, g3, g4⟩
  unfold plainOf at h
  split at h
  · rename_i x
    split at h
    · rename_i hx
      cases hv with
      | d hv => exact ⟨x, Ty.beq_eq hx, h, fun _ => hv, sl x hv⟩
    · simp at h
  · rename_i x ns
    split at h
    · rename_i hx
      cases hv with
      | dz h1 h0 h2 =>
        have hr : RepV U gh.F w x (.agg _) := ⟨_, h2.plain h0 (fun _ => rfl), by
          unfold VOf
          rw [if_pos]
          obtain ⟨xt, x⟩ := x
          cases xt <;> simp [Ty.isSt] at h1
          rfl⟩
        exact ⟨x, Ty.beq_eq hx, h, fun _ => hr, sl x hr⟩
    · simp at h
  · split at h
    · rename_i e
      cases hv with
      | nilsl =>
        have hr : RepV U gh.F w ⟨.sl e, []⟩ (.slice none 0 0) := ⟨_, rep_nil e, rfl⟩
        exact ⟨_, rfl, h, fun _ => hr, sl _ hr⟩
    · simp at h
  · rename_i cs
    split at h
    · rename_i z hag hz hzd
      cases hv with
      | cagg =>
        obtain ⟨c, hc, h1, _⟩ := zero_rep hU (F := gh.F) (w := w) deep t cs [] hz deep z hzd
        rw [List.append_nil] at hc
        subst hc
        have hzt := zeroD_t hzd
        have hr : RepV U gh.F w z (.agg cs.toArray) := ⟨_, h1, by unfold VOf; rw [hzt, hag, if_pos rfl]⟩
        exact ⟨z, hzt, h, fun _ => hr, sl z hr⟩
    · simp at h
  · rename_i k ver q wn
    obtain ⟨b, x, hb, hd, hver, hg, h⟩ := rowOf_some h
    split at h
    · rename_i y hy
      split at h
      · rename_i hyt
        refine ⟨y, Ty.beq_eq hyt, h, fun hn => absurd rfl (hn k ver q wn), fun e l he => ?_⟩
        subst he
        obtain ⟨xt, x⟩ := x
        have hxt : xt = .sl e := by
          unfold win at hy
          split at hy
          · rename_i e' l' heq
            cases heq
            cases wn <;> simp only [Option.some.injEq, D.mk.injEq] at hy <;> (obtain ⟨hy, _⟩ := hy; injection hy with hy; rw [hy])
          · cases hy
        subst hxt
        cases hv with
        | row _ hr =>
          obtain ⟨b', hb', _, hr⟩ := hr
          cases hb.symm.trans hb'
          obtain ⟨n, hn, hr⟩ := hr hver e x hg
          exact (S.rowAt hU hb (dead_no hd) hg).win hU hn hr hy
      · simp at h
    · simp at h
  · simp at h
theorem ownsRow_pre {tag n len cap : Nat} {ad : Option Addr} {xs : List Value} (h : w.ownsRow 0 tag n (.slice ad len cap) len xs) {k : Nat} (hk : k ≤ len) : w.ownsRow 0 tag n (.slice ad k cap) k (xs.take (k * n)) := by
  have hkn : k * n ≤ len * n := Nat.mul_le_mul_right _ hk
  refine ⟨by rw [List.length_take, h.1]; omega, ?_⟩
  rcases h.2 with ⟨e1, e2⟩ | ⟨g, c, cur, e1, e2, e3, e4, e5, e6, e7⟩
  · simp only [Value.slice.injEq] at e1
    obtain ⟨rfl, rfl, rfl⟩ := e1
    have : k = 0 := by omega
    subst this
    exact .inl ⟨rfl, rfl⟩
  · simp only [Value.slice.injEq] at e1
    obtain ⟨rfl, _, rfl⟩ := e1
    refine .inr ⟨g, cap, cur, rfl, e2, e3, by omega, e5, e6, ?_⟩
    rw [← e7, List.take_take, Nat.min_eq_left hkn]
def stAt (st : Nat → BSt) (ad : Option Addr) (s : BSt) : Nat → BSt :=
  match ad with
  | some c => upd st c.block s
  | none => st
theorem Sim.grownW (S : Sim U E gh σ a w) {d : Nat} (hno : σ.blk d = none) (hd : d < E.n ∧ E.bx d = none) {ad ad' : Option Addr} {cap' tag' n : Nat} {w' : World} {e : Ty} {l : List (e.den U.car)} {xs : List Value} (hz : Sz U e n) (hr : RepL U gh.F w (l.map (D.mk e)) xs)
    (hown : w'.ownsRow 0 tag' n (.slice ad' l.length cap') l.length xs) (hg : Grown w w' ad) (hfree : ∀ c, ad = some c → (∃ k p, gh.st c.block = .own k p) ∧ ∀ k b, σ.blk k = some b → ∀ bn p, Ow gh k b bn p → bn ≠ c.block)
    (had : ∀ c', ad' = some c' → (∃ c, ad = some c ∧ c'.block = c.block) ∨ (w.heap.size ≤ c'.block ∧ c'.block < w'.heap.size))  {wn : Win} {v : Value} (hv : RowVal (ad', cap') l.length n wn v) :
    ∃ gh', Sim U E gh' ((σ.put (.blk d (some (newBlk ⟨.sl e, l⟩ false [[]])))).put (.slot d (.row d 0 [] wn))) (a.put (some d) v) w' := by
  let bs : Nat → Prop := fun bn => (∃ c, ad = some c ∧ bn = c.block) ∨ w.heap.size ≤ bn
  let st' : Nat → BSt := stAt gh.st ad' (.own d (some []))
  let gh1 : Gh := ⟨gh.base, gh.hdr, st'⟩
  have hlt : ∀ c, ad = some c → c.block < w.heap.size := fun c hc => by
    obtain ⟨⟨k, p, h⟩, _⟩ := hfree c hc
    rcases S.frm.bound c.block with h' | h'
    · rw [h'] at h; cases h
    · exact h'
  have S1 : Sim U E gh1 σ a w' := by
    refine S.world (gh' := gh1) bs (fun k b hb bn p ho hbs => ?_) (fun bn hbs => ?_) rfl rfl (fun bn => ?_) (fun bn hlt' hbs => hg.heap bn hlt' fun c hc e => hbs (.inl ⟨c, hc, e⟩)) hg.size hg.os hg.tape hg.output
    · rcases hbs with ⟨c, hc, rfl⟩ | hbs
      · exact (hfree c hc).2 k b hb _ p ho rfl
      · have := Ow.lt S hb ho
        omega
    · rcases hbs with ⟨c, hc, rfl⟩ | hbs
      · exact .inl (hfree c hc).1
      · exact .inr hbs
    · cases had' : ad' with
      | none =>
        have e1 : st' = gh.st := by simp only [st', had', stAt]
        exact .inl (congrFun e1 bn)
      | some c' =>
        have e1 : st' = upd gh.st c'.block (.own d (some [])) := by simp only [st', had', stAt]
        by_cases hb : bn = c'.block
        · subst hb
          refine .inr ⟨?_, ?_, d, some [], (congrFun e1 _).trans (upd_same _ _ _)⟩
          · rcases had c' had' with ⟨c, hc, h⟩ | h
            · exact .inl ⟨c, hc, h⟩
            · exact .inr h.1
          · rcases had c' had' with ⟨c, hc, h⟩ | h
            · have := hlt c hc
              have := hg.size
              omega
            · exact h.2
        · exact .inl ((congrFun e1 bn).trans (upd_ne _ _ hb))
  have hF : ∀ b, gh.F b → gh1.F b ∧ w'.heap[b]? = w.heap[b]? := by
    intro b hb
    have hbl : b < w.heap.size := by
      rcases S.frm.bound b with h | h
      · rw [Gh.F, h] at hb; cases hb
      · exact h
    have hne : ∀ c, ad = some c → b ≠ c.block := fun c hc e => by
      obtain ⟨⟨k, p, h⟩, _⟩ := hfree c hc
      rw [Gh.F, e, h] at hb
      cases hb
    refine ⟨?_, hg.heap b hbl hne⟩
    show st' b = .frz
    cases had' : ad' with
    | none => simp only [st', had', stAt]; exact hb
    | some c' =>
      simp only [st', had', stAt]
      rw [upd_ne]
      · exact hb
      · intro e
        rcases had c' had' with ⟨c, hc, h⟩ | h
        · exact hne c hc (e.trans h)
        · omega
  exact S1.newSlotRowW hno hz (hr.mono hF) hown (fun c' hc' => by
    show st' c'.block = _
    subst hc'
    exact upd_same _ _ _) hd hv
theorem Sim.grown (S : Sim U E gh σ a w) {d : Nat} (hno : σ.blk d = none) (hd : d < E.n ∧ E.bx d = none) {ad ad' : Option Addr} {cap' tag' n : Nat} {w' : World} {e : Ty} {l : List (e.den U.car)} {xs : List Value} (hz : Sz U e n) (hr : RepL U gh.F w (l.map (D.mk e)) xs)
    (hown : w'.ownsRow 0 tag' n (.slice ad' l.length cap') l.length xs) (hg : Grown w w' ad) (hfree : ∀ c, ad = some c → (∃ k p, gh.st c.block = .own k p) ∧ ∀ k b, σ.blk k = some b → ∀ bn p, Ow gh k b bn p → bn ≠ c.block)
    (had : ∀ c', ad' = some c' → (∃ c, ad = some c ∧ c'.block = c.block) ∨ (w.heap.size ≤ c'.block ∧ c'.block < w'.heap.size)) :
    ∃ gh', Sim U E gh' ((σ.put (.blk d (some (newBlk ⟨.sl e, l⟩ false [[]])))).put (.slot d (.row d 0 [] .all))) (a.put (some d) (.slice ad' l.length cap')) w' :=
  S.grownW hno hd hz hr hown hg hfree had (wn := .all) rfl
end
end Go.Ev
end
section
namespace Go.Ev
variable {U : Univ} {P : Program}
section
variable {E : Env} {gh : Gh} {σ : St U} {a : Act} {w : World} {o : Oper}
structure App (P : Program) (U : Univ) (gh : Gh) (w : World) (sz : Nat) (u : Value) (e : Ty) (ys : List (e.den U.car)) (news : List Value) : Prop where
  len : ∀ w', (Builtin.lenOf u).run P w' = .ok ys.length w'
  new : ∀ w', w'.heap = w.heap → (Builtin.firstCells sz ys.length u).run P w' = .ok news.toArray w'
  rep : RepL U gh.F w (ys.map (D.mk e)) news
theorem App.of_sl {e : Ty} {ys : List (e.den U.car)} {u : Value} {sz : Nat} (hU : ULaw U) (hz : Sz U e sz) (h : Rd1 U gh.F w e ys u) : ∃ news, App P U gh w sz u e ys news := by
  obtain ⟨ad, cap, n, xs, rfl, hn, hr, hl, hc, hm⟩ := h
  cases hn.uniq hz
  refine ⟨xs, ⟨fun w' => rfl, fun w' hw => ?_, hr⟩⟩
  cases ad with
  | none =>
    have : ys = [] := by
      cases ys with
      | nil => rfl
      | cons y l => obtain ⟨c, h, _⟩ := hl (by simp); cases h
    subst this
    simp only [List.map_nil] at hr
    cases hr
    rfl
  | some c =>
    refine run_firstCells_some (P := P) w' sz ys.length c ys.length cap xs (hr.length_map hU hz) fun j v hj => ?_
    have hne : ys ≠ [] := by
      intro e0
      subst e0
      simp only [List.map_nil] at hr
      cases hr
      simp at hj
    obtain ⟨c', h1, _, h3⟩ := hl hne
    cases h1
    have := h3 j v hj
    unfold World.cell? at this ⊢
    rw [hw]
    exact this
theorem bytes_rep {F : Nat → Prop} : ∀ l : List UInt8, RepL U F w ((l.map fun c => (c.toNat : Int)).map (D.mk (.int .u8))) (l.map fun b => Value.int .u8 b.toNat)
  | [] => .nil
  | b :: l => by
    have h : Rep U F w ⟨.int .u8, (b.toNat : Int)⟩ [.int .u8 b.toNat] := .int (by
      have := b.toNat_lt
      unfold fitInt
      simp only [IntKind.min, IntKind.max, IntKind.signed, IntKind.bits]
      constructor
      · simp
      · simp; omega)
    exact .cons (c := [.int .u8 b.toNat]) h (bytes_rep l)
theorem App.of_str {s : ByteArray} {sz : Nat} : App P U gh w sz (.string s) (.int .u8) (s.data.toList.map fun c => (c.toNat : Int)) (s.data.toList.map fun b => Value.int .u8 b.toNat) := by
  have hl : (s.data.toList.map fun c => (c.toNat : Int)).length = s.size := by simp
  refine ⟨fun w' => ?_, fun w' hw => ?_, bytes_rep _⟩
  · rw [hl]; rfl
  · rw [hl]
    simp only [Builtin.firstCells, Sem.run_pure]
    congr 1
    apply Array.ext'
    have : (s.extract 0 s.size) = s := by simp
    rw [this]
    simp
theorem as_sl {e : Ty} {d : U.D} {l : List (e.den U.car)} (h : d.as (.sl e) = some l) : d = ⟨.sl e, l⟩ := D.as_some h
theorem opAppend_step {G : Ctx U} (hU : ULaw U) (hG : GOk P U G) (S : Sim U E gh σ a w) (hd : InN E o.dst) {T T' : TypeId} {s x : Operand} {c : Call} (ho : o.op = .call c) (hc : c.callee = .builtin .append) (hargs : c.args = #[s, x]) (htys : c.argTypes = #[T, T'])
    {t : Ty} {EB : Nat} (hT : G.ty T = some t) (hB : G.bytes T = some EB) {isStr : Bool} (hT' : match isStr with | true => G.ty T' = some .str | false => ∃ e', G.ty T' = some (.sl e'))
    {sv xv : AV U} (hs : RepAV U gh σ w sv (a.eval s)) (hx : RepAV U gh σ w xv (a.eval x)) {us : List (Upd U)} (h : (opAppend o.dst t EB sv xv isStr : Out U).run σ = some us) : StepOk P U E o σ a w us := by
  unfold opAppend at h
  split at h
  case h_2 => simp at h
  rename_i d e hdst
  obtain ⟨EE, i, hu, hi, hib, hisz, _, hB0⟩ := hG.bytes T EB hB
  obtain ⟨EE', hu', ⟨i', dd, z, zs, hi', _, _, hsz, _, hzz, hvo, hzc, hzs⟩, _⟩ := (hG.ty T _ hT).2
  rw [hu] at hu'
  cases hu'
  rw [hi] at hi'
  cases hi'
  obtain ⟨d1, hu1, hni⟩ : ∃ d1, P.underlying T' = some d1 ∧ ∀ k, d1 ≠ .int k := by
    cases isStr with
    | true => exact ⟨_, (hG.ty T' _ hT').2, fun k e => by cases e⟩
    | false =>
      obtain ⟨e', h'⟩ := hT'
      obtain ⟨EE2, h2, _⟩ := (hG.ty T' _ h').2
      exact ⟨_, h2, fun k e => by cases e⟩
  have hK : ∃ ys news, App P U gh w i.size (a.eval x) e ys news ∧ (appendTo d e EB sv ys : Out U).run σ = some us := by
    cases isStr with
    | true =>
      simp only [appended] at h
      split at h
      · rename_i b
        split at h
        · rename_i l hl
          have := as_sl hl
          injection this with h1 h2
          injection h1 with h1
          subst h1
          cases h2
          obtain ⟨hxe, _⟩ := hx.str_inv
          rw [hxe]
          exact ⟨_, _, App.of_str, h⟩
        · simp at h
      · simp at h
    | false =>
      simp only [appended] at h
      obtain ⟨y, hyt, h, _, hrd⟩ := plainOf_some hU S hx h
      split at h
      · rename_i l hl
        have := as_sl hl
        obtain ⟨news, hn⟩ := App.of_sl (P := P) hU hsz (hrd e l this)
        exact ⟨l, news, hn, h⟩
      · simp at h
  clear h
  obtain ⟨ys, news, ha, h⟩ := hK
  have hnl : news.length = ys.length * i.size := ha.rep.length_map hU hsz
  have hlt : d < E.n ∧ E.bx d = none := hd d hdst
  have run : ∀ (v : Value), (Builtin.append_ #[T, T'] o.type #[a.eval s, a.eval x]).run P w = .ok v w → True := fun _ _ => trivial
  have exec : ∀ {r : Result Value}, (Builtin.append_ #[T, T'] o.type #[a.eval s, a.eval x]).run P w = r → (execOp a.eval o).run P w = r.andThen fun v w' => .ok (.value v) w' := by
    intro r hr
    unfold execOp
    rw [ho]
    simp only [Sem.run_bind, resolve, hc, hargs, htys, Sem.run_pure, Result.andThen_ok, invoke, builtin]
    simp only [List.map_toArray, List.map_cons, List.map_nil]
    rw [hr]
  have n63 : ∀ n, room ((n + ys.length) * EB) → n + ys.length ≤ maxLen ∧ (n + ys.length) * i.bytes ≤ 140737488355328 := by
    intro n hr
    rw [room_iff] at hr
    rw [hib]
    refine ⟨?_, hr⟩
    have : n + ys.length ≤ (n + ys.length) * EB := Nat.le_mul_of_pos_right _ hB0
    simp only [maxLen]
    omega
  unfold appendTo at h
  split at h
  · rename_i k v q n
    obtain ⟨b, y, hb, hdead, hver, hg, h⟩ := rowOf_some h
    split at h
    case h_2 => simp at h
    rename_i l hl
    split at h
    case isFalse => simp at h
    rename_i hown
    simp only [run_chk] at h
    split at h
    case isFalse => cases h
    rename_i hroom
    obtain ⟨hno, h⟩ := fresh_some h
    simp only [run_ret, Option.some.injEq] at h
    subst h
    cases as_sl hl
    obtain ⟨ad, cap, tag, n', xs, hh, hn, hr0, hown0, hst0⟩ := S.ownRow hU hb hown (dead_no hdead) hg
    cases hn.uniq hsz
    generalize hse : a.eval s = sval at hs exec
    cases hs with
    | row _ hr =>
      obtain ⟨b', hb', _, hr⟩ := hr
      cases hb.symm.trans hb'
      obtain ⟨m, hm, r0, r1, r2, r3⟩ := hr hver e l hg
      rw [hh] at r2 r3
      simp only at r2 r3
      subst r2
      subst r3
      have hnn : n.toNat + ys.length ≤ l.length := by omega
      obtain ⟨w', hrun, hown', hgr⟩ := run_append_full (P := P) (ty := o.type) (T1 := T') hu hu1 hni hi ha.len ha.new hnl ha.rep.one hown0 hnn
      have S1 := S.kill hU hb hg rfl
      have hkd : k ≠ d := fun e0 => by rw [e0, hno] at hb; cases hb
      have hlen : (l.take n.toNat ++ ys ++ l.drop (n + (ys.length : Int)).toNat).length = l.length := by
        simp only [List.length_append, List.length_take, List.length_drop]
        omega
      have hdr : (n + (ys.length : Int)).toNat = n.toNat + ys.length := by omega
      have hrl : RepL U gh.F w ((l.take n.toNat ++ ys ++ l.drop (n + (ys.length : Int)).toNat).map (D.mk e)) (xs.take (n.toNat * i.size) ++ news ++ xs.drop ((n.toNat + ys.length) * i.size)) := by
        rw [List.map_append, List.map_append, hdr]
        exact ((hr0.take hU hsz _).append ha.rep).append (hr0.drop hU hsz _)
      obtain ⟨gh', S'⟩ := S1.grownW (d := d) (by rw [St.blk_put_ne σ _ hkd]; exact hno) hlt (l := l.take n.toNat ++ ys ++ l.drop (n + (ys.length : Int)).toNat) hsz hrl (by rw [hlen]; exact hown') hgr (fun c hc => ⟨⟨k, some q, hst0 c hc⟩, fun k' b' hb' bn p ho => S.killed (hst0 c hc) hb' hb ho⟩) (fun c' hc => .inl ⟨c', hc, rfl⟩) (wn := .full (n + (ys.length : Int))) (v := .slice ad (n.toNat + ys.length) l.length) ⟨by omega, by omega, by rw [hdr], hlen.symm⟩
      intro K Q hK
      unfold Oper.wp
      rw [exec hrun]
      refine hK gh' _ _ ?_
      rw [hdst]
      exact S'
  rename_i hnf
  clear hnf
  unfold appendTo0 at h
  split at h
  · simp only [run_chk] at h
    split at h
    · rename_i hroom
      obtain ⟨hno, h⟩ := fresh_some h
      simp only [run_ret, Option.some.injEq] at h
      subst h
      generalize hse : a.eval s = sval at hs exec
      cases hs with
      | nilsl =>
        obtain ⟨b1, b2⟩ := n63 0 (by rw [Nat.zero_add]; exact hroom)
        obtain ⟨ad', cap', tag', w', hr, hown, hgr, had⟩ := run_append_any (P := P) (ty := o.type) (T1 := T') hu hu1 hni hi hzz hzs ha.len ha.new hnl ha.rep.one (World.ownsRow_nil w 0 0 i.size) b1 b2
        simp only [Nat.zero_add, List.nil_append] at hr hown
        obtain ⟨gh', S'⟩ := S.grown hno hlt (l := ys) hsz ha.rep hown hgr (fun c h => by cases h) had
        intro K Q hK
        unfold Oper.wp
        rw [exec hr]
        refine hK gh' _ _ ?_
        rw [hdst]
        exact S'
    · cases h
  · rename_i k v q wn
    replace h := rowOf_some h
    obtain ⟨b, y, hb, hdead, hver, hg, h⟩ := h
    split at h
    · rename_i y' hy'
      split at h
      · rename_i l hl
        split at h
        · rename_i hcond
          simp only [Bool.and_eq_true] at hcond
          simp only [run_chk] at h
          split at h
          · rename_i hroom
            obtain ⟨hno, h⟩ := fresh_some h
            simp only [run_ret, Option.some.injEq] at h
            subst h
            have hy'' := as_sl hl
            subst hy''
            obtain ⟨yt, y⟩ := y
            have hyt : yt = .sl e := by
              unfold win at hy'
              split at hy'
              · rename_i e' l' heq
                cases heq
                cases wn <;> simp only [Option.some.injEq, D.mk.injEq] at hy' <;> (obtain ⟨hy', _⟩ := hy'; injection hy' with hy'; rw [hy'])
              · cases hy'
            subst hyt
            obtain ⟨ad, cap, tag, n, xs, hh, hn, hr0, hown0, hst0⟩ := S.ownRow hU hb hcond.1 (dead_no hdead) hg
            cases hn.uniq hsz
            generalize hse : a.eval s = sval at hs exec
            cases hs with
            | row _ hr =>
              obtain ⟨b', hb', _, hr⟩ := hr
              cases hb.symm.trans hb'
              obtain ⟨m, hm, hr⟩ := hr hver e y hg
              have hrow : ∃ xs', sval = .slice ad l.length cap ∧ w.ownsRow 0 tag i.size (.slice ad l.length cap) l.length xs' ∧ RepL U gh.F w (l.map (D.mk e)) xs' := by
                cases wn with
                | all =>
                  simp only [win, Option.some.injEq, D.mk.injEq, heq_eq_eq, true_and] at hy'
                  subst hy'
                  refine ⟨xs, ?_, hown0, hr0⟩
                  have hr : sval = .slice (gh.hdr k q).1 y.length (gh.hdr k q).2 := hr
                  rw [hh] at hr
                  exact hr
                | pre j =>
                  simp only [win, Option.some.injEq, D.mk.injEq, heq_eq_eq, true_and] at hy'
                  subst hy'
                  obtain ⟨s0, s1, s2⟩ := hr
                  rw [hh] at s2
                  have hlen : (y.take j.toNat).length = j.toNat := by rw [List.length_take]; omega
                  rw [hlen]
                  exact ⟨_, s2, ownsRow_pre hown0 s1, hr0.take hU hsz _⟩
                | full j =>
                  simp only [win, Option.some.injEq, D.mk.injEq, heq_eq_eq, true_and] at hy'
                  subst hy'
                  obtain ⟨s0, s1, s2, _⟩ := hr
                  rw [hh] at s2
                  have hlen : (y.take j.toNat).length = j.toNat := by rw [List.length_take]; omega
                  rw [hlen]
                  exact ⟨_, s2, ownsRow_pre hown0 s1, hr0.take hU hsz _⟩
                | mid _ _ => cases hcond.2
              obtain ⟨xs', rfl, hown1, hr1⟩ := hrow
              obtain ⟨b1, b2⟩ := n63 l.length hroom
              obtain ⟨ad', cap', tag', w', hrun, hown, hgr, had⟩ := run_append_any (P := P) (ty := o.type) (T1 := T') hu hu1 hni hi hzz hzs ha.len ha.new hnl ha.rep.one hown1 b1 b2
              have S1 := S.kill hU hb hg rfl
              have hkd : k ≠ d := fun e0 => by rw [e0, hno] at hb; cases hb
              obtain ⟨gh', S'⟩ := S1.grown (d := d) (by rw [St.blk_put_ne σ _ hkd]; exact hno) hlt (l := l ++ ys) hsz (by rw [List.map_append]; exact hr1.append ha.rep) (by rw [List.length_append]; exact hown) hgr (fun c hc => ⟨⟨k, some q, hst0 c hc⟩, fun k' b' hb' bn p ho => S.killed (hst0 c hc) hb' hb ho⟩) had
              rw [List.length_append] at S'
              intro K Q hK
              unfold Oper.wp
              rw [exec hrun]
              refine hK gh' _ _ ?_
              rw [hdst]
              exact S'
          · cases h
        · simp at h
      · simp at h
    · simp at h
  · simp at h
end
end Go.Ev
end
section
namespace Go.Ev
variable {U : Univ} {P : Program}
theorem overlay_list (off : Nat) : ∀ (vs : List Value) (k : Nat) (cells : Array Value), off + k + vs.length ≤ cells.size →
    ((vs.zipIdx k).foldl (fun cs (x : Value × Nat) => cs.setIfInBounds (off + x.2) x.1) cells).toList = cells.toList.take (off + k) ++ vs ++ cells.toList.drop (off + k + vs.length)
  | [], k, cells, _ => by simp
  | v :: vs, k, cells, h => by
    simp only [List.length_cons] at h
    simp only [List.zipIdx_cons, List.foldl_cons]
    rw [overlay_list off vs (k + 1) _ (by simp; omega)]
    have := list_seg_step cells.toList (off + k) v vs (by simp; omega)
    simpa [Array.toList_setIfInBounds, Nat.add_assoc, Nat.add_comm 1] using this
theorem overlay (off : Nat) (vs cells : Array Value) (h : off + vs.size ≤ cells.size) :
    (vs.zipIdx.foldl (fun cs (x : Value × Nat) => cs.setIfInBounds (off + x.2) x.1) cells).toList = cells.toList.take off ++ vs.toList ++ cells.toList.drop (off + vs.size) := by
  have := overlay_list off vs.toList 0 cells (by simpa using h)
  rw [← Array.foldl_toList]
  simpa using this
inductive RepParts (U : Univ) (F : Nat → Prop) (w : World) : List (Nat × U.D) → List (Nat × Value) → Prop
  | nil : RepParts U F w [] []
  | cons {i : Nat} {x : U.D} {v : Value} {l : List (Nat × U.D)} {vs : List (Nat × Value)} : RepV U F w x v → RepParts U F w l vs → RepParts U F w ((i, x) :: l) ((i, v) :: vs)
theorem fill_rep {F : Nat → Prop} {w : World} (hU : ULaw U) {ts : List Ty} {place : Nat → Option (Nat × Nat)} (hp : ∀ i t, ts[i]? = some t → ∃ off sz, place i = some (off, sz) ∧ SzL U (ts.take i) off ∧ Sz U t sz) :
    ∀ (l : List (Nat × U.D)) (vs : List (Nat × Value)) (ds ds' : List U.D) (cells : Array Value), ds.map D.t = ts → RepL U F w ds cells.toList → RepParts U F w l vs → fillD ds l = some ds' →
      ∃ cells', Instr.fill place cells vs = some cells' ∧ RepL U F w ds' cells'.toList ∧ ds'.map D.t = ts
  | [], vs, ds, ds', cells, ht, hr, hv, h => by
    cases hv
    simp only [fillD, Option.some.injEq] at h
    subst h
    exact ⟨cells, rfl, hr, ht⟩
  | (i, x) :: l, vs, ds, ds', cells, ht, hr, hv, h => by
    cases hv with
    | cons hx hv =>
      rename_i v vs
      obtain ⟨cs, hcs, hvo⟩ := hx
      simp only [fillD] at h
      split at h
      · rename_i z hz
        split at h
        · rename_i hzt
          have hzt := Ty.beq_eq hzt
          have hti : ts[i]? = some z.t := by rw [← ht]; simp [hz]
          obtain ⟨off, sz, hpl, ho, hs⟩ := hp i z.t hti
          obtain ⟨c1, c, c2, e2, g1, g2, g3⟩ := hr.get hz
          have hl1 : c1.length = off := g1.offset hU (by rw [ht]; exact ho)
          have hl2 : c.length = sz := g2.length hU hs
          have hvc := hvo.cells hcs.one
          have hl3 : cs.length = sz := hcs.length hU (by rw [hzt]; exact hs)
          have hsize : cells.size = c1.length + (c.length + c2.length) := by rw [← Array.length_toList, e2]; simp
          have hov := overlay off cs.toArray cells (by simp; omega)
          have e3 : (cs.toArray.zipIdx.foldl (fun cs (x : Value × Nat) => cs.setIfInBounds (off + x.2) x.1) cells).toList = c1 ++ (cs ++ c2) := by
            rw [hov, e2, ← hl1]
            simp only [List.take_left, List.size_toArray, hl3, ← hl2, List.append_assoc]
            congr 2
            rw [List.drop_append, List.drop_append]
            simp
          have hr' : RepL U F w (ds.set i x) (cs.toArray.zipIdx.foldl (fun cs (x : Value × Nat) => cs.setIfInBounds (off + x.2) x.1) cells).toList := by
            rw [e3]
            exact RepL.sets hz g1 hcs g3
          obtain ⟨cells', f1, f2, f3⟩ := fill_rep hU hp l vs (ds.set i x) ds' _ (by
            rw [List.map_set, hzt, ht]
            exact RepO.kill.list_set_self hti) hr' hv h
          refine ⟨cells', ?_, f2, f3⟩
          unfold Instr.fill
          simp only [hpl, hvc, List.size_toArray, hl3]
          rw [if_neg]
          · exact f1
          · simp
            omega
        · cases h
      · cases h
end Go.Ev
end
