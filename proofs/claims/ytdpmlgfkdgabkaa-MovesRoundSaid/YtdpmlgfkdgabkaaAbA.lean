/- Contracts of the program's functions over an abstract state, and what they rest on: part AbA. No condition. -/
import Derived.RangeFuncLeaves
import Derived.TacticsIn
import Derived.WalkKit
import Derived.Laws.StructEq
import Derived.WalkSpells
set_option linter.unusedVariables false
set_option linter.unusedSimpArgs false

/- The abstract state over which straight code is evaluated: values, owned blocks, and the evaluator 'W' (no proofs here). -/
namespace Go.Ab

/-- An abstract value. -/
inductive V : Type 1 where
  | und
  | bool (b : Bool)
  | int (k : IntKind) (n : Int)
  | str (s : ByteArray)
  | agg (l : List V)
  | tuple (l : List V)
  | nils
  | lit (n : Nat) (ess : List (List V)) (fl : Bool)
  | sl (α : Type) (d : α) (n : Nat) (enc : α → List V) (fl : Bool) (xs : List α)
  | pp (cs : List V)
  | ref (k n lo len : Nat)
  | pe (k n i off : Nat)
  | ptr (k off : Nat)
  | nilp
  | mp (k : Nat)
  | nilm
  | fn (f : Nat) (first cap : List V)
  | nilf
  | yld
  | iface (t : Nat) (v : V)
  | nili
  | itr (k : Nat)

/-- A kind of element: how it is laid in cells, and read back. -/
structure El : Type 1 where
  α : Type
  d : α
  n : Nat
  enc : α → List V
  dec : List V → α

/-- A kind of map. -/
structure Mp : Type 1 where
  κ : Type
  eq : DecidableEq κ
  kenc : κ → V
  kdec : V → κ
  β : Type
  d : β
  venc : β → V
  vdec : V → β

/-- An owned block. -/
inductive Blk : Type 1 where
  | dead
  | cells (l : List V)
  | arr (e : Nat) (el : El) (xs : List el.α)
  | map (m : Mp) (es : List (m.κ × m.β))
  | iter (r : Nat) (m : Mp) (es : List (m.κ × m.β)) (rem : List Nat) (cur : Option Nat)

abbrev Env := List V
abbrev Heap := List Blk

inductive X : Type 1 where
  | norm
  | exit (id : Nat)
  | ret
  | pan (v : V)

inductive Out : Type 1 where
  | ret (v : V)
  | pan (v : V)

abbrev Post := X → Env → Heap → Prop

/-- What sort of type it is, as far as a comparison asks. -/
inductive Cat where
  | no | bool | slice | ptr | fn

/-- What is known of a type. -/
structure TI : Type 1 where
  agg : Bool := false
  size : Nat := 1
  zero : List V := []
  fs : List (Nat × Nat × Bool) := []
  el : Option El := none
  eid : Nat := 0
  arr : Option (Nat × Nat × Bool) := none
  mp : Option Mp := none
  kind : Option IntKind := none
  c : Cat := .no
  eq2 : Bool := false

abbrev Tab := Nat → TI

def lookTI (t : Nat) : List (Nat × TI) → TI
  | [] => { size := 0 }
  | (u, i) :: rest => bif Nat.beq t u then i else lookTI t rest

/-- Which arrays. -/
abbrev Ar := Nat → Bool

def noAr : Ar := fun _ => false
def eqk (k : Nat) : Ar := fun j => Nat.beq j k

/-- A kind's number. -/
def kn : IntKind → Nat
  | .i8 => 0 | .i16 => 1 | .i32 => 2 | .i64 => 3 | .u8 => 4 | .u16 => 5 | .u32 => 6 | .u64 => 7

/-- The words that the evaluator leaves as they are: of numbers. -/
inductive Wz where
  | ar | arok | lt | le | eq | ne | seq | sne | wr | nat | sub | add | ixn | rng | irng | iers | bd

def Wz.ty : Wz → Type
  | .ar => BinOp → IntKind → Int → Int → Int
  | .arok => BinOp → IntKind → Int → Int → Prop
  | .lt => Int → Int → Bool
  | .le => Int → Int → Bool
  | .eq => Int → Int → Bool
  | .ne => Int → Int → Bool
  | .seq => ByteArray → ByteArray → Bool
  | .sne => ByteArray → ByteArray → Bool
  | .wr => IntKind → Int → Int
  | .nat => Int → Nat
  | .sub => Nat → Nat → Nat
  | .add => Nat → Nat → Nat
  | .ixn => Nat → Int → Prop
  | .rng => Int → Int → Int → Prop
  | .irng => Nat → List Nat
  | .iers => List Nat → Nat → List Nat
  | .bd => Nat → Nat → Prop

/-- Of values, and lists. -/
inductive Ws where
  | call | yld | tri | mv | drw | len | idx | at_ | lit | app | cut | set | rep | mget | mhas | mput | mkey | mval

def Ws.ty : Ws → Type 1
  | .call => Nat → List V → Heap → (Out → Ar → Heap → Prop) → Prop
  | .yld => List V → Heap → (Out → Ar → Heap → Prop) → Prop
  | .mv => Nat → Heap → Prop
  | .drw => Heap → Prop
  | .tri => Code → Post → Env → Heap → Prop
  | .len => (α : Type) → List α → Int
  | .idx => (α : Type) → List α → Int → Prop
  | .at_ => (α : Type) → α → List α → Nat → α
  | .lit => List (List V) → Nat → List V
  | .app => (α : Type) → List α → List α → List α
  | .cut => (α : Type) → List α → Nat → Nat → List α
  | .set => (α : Type) → List α → Nat → α → List α
  | .rep => (α : Type) → Nat → α → List α
  | .mget => (m : Mp) → List (m.κ × m.β) → m.κ → m.β
  | .mhas => (m : Mp) → List (m.κ × m.β) → m.κ → Bool
  | .mput => (m : Mp) → List (m.κ × m.β) → m.κ → m.β → List (m.κ × m.β)
  | .mkey => (m : Mp) → List (m.κ × m.β) → Nat → m.κ
  | .mval => (m : Mp) → List (m.κ × m.β) → Nat → m.β

abbrev Sz := (w : Wz) → w.ty
abbrev Sy := (w : Ws) → w.ty

variable (z : Sz) (S : Sy) (tab : Tab) (D : List Nat)

def litV : Value → V
  | .bool b => .bool b
  | .int k n => .int k n
  | .string s => .str s
  | .slice none 0 0 => .nils
  | .pointer none => .nilp
  | .map none => .nilm
  | .nilFunc => .nilf
  | .nilIface => .nili
  | _ => .und

def opd (env : Env) : Operand → V
  | .tmp t => env.getD t .und
  | .const v => litV v
  | .func f => .fn f [] []
  | .global _ => .und

def put (env : Env) : Option Nat → V → Env
  | some d, v => env.set d v
  | none, _ => env

def V.cells : V → List V
  | .agg l => l
  | v => [v]

/-- A cell that persistent data may have. -/
def V.flat : V → Bool
  | .bool _ | .int _ _ | .str _ | .nils | .lit _ _ _ | .sl .. | .nilp | .nilm | .nilf | .nili => true
  | _ => false

/-- What fills one cell, surely. -/
def V.one : V → Bool
  | .und | .agg _ | .tuple _ => false
  | _ => true

def allOne : List V → Bool
  | [] => true
  | x :: xs => bif x.one then allOne xs else false

def allFlat : List V → Bool
  | [] => true
  | x :: xs => bif x.flat then allFlat xs else false

def upd (l : List V) (off : Nat) (cs : List V) : List V := l.take off ++ cs ++ l.drop (off + cs.length)

mutual
/-- A value without what it says of arrays that have moved. -/
def killV (p : Ar) : V → V
  | .ref j n lo len => bif p j then .und else .ref j n lo len
  | .pe j n i off => bif p j then .und else .pe j n i off
  | .agg l => .agg (killL p l)
  | .tuple l => .tuple (killL p l)
  | .fn f a b => .fn f (killL p a) (killL p b)
  | .iface t v => .iface t (killV p v)
  | v => v
def killL (p : Ar) : List V → List V
  | [] => []
  | x :: xs => killV p x :: killL p xs
end

def killB (p : Ar) : Blk → Blk
  | .cells l => .cells (killL p l)
  | b => b

/-- Iterators are told no more. -/
def killI : Blk → Blk
  | .iter _ _ _ _ _ => .dead
  | b => b

def killH (p : Ar) (H : Heap) : Heap := H.map (killB p)

def binI (o : BinOp) (k : IntKind) (a b : Int) (K : V → Prop) : Prop :=
  match o with
  | .eql => K (.bool (z .eq a b))
  | .neq => K (.bool (z .ne a b))
  | .lss => K (.bool (z .lt a b))
  | .leq => K (.bool (z .le a b))
  | .gtr => K (.bool (z .lt b a))
  | .geq => K (.bool (z .le b a))
  | .add => K (.int k (z .ar .add k a b))
  | .sub => K (.int k (z .ar .sub k a b))
  | .mul => K (.int k (z .ar .mul k a b))
  | o => z .arok o k a b ∧ K (.int k (z .ar o k a b))

/-- Structs of two whole numbers. -/
def binA (e : Bool) (o : BinOp) (x y : List V) (K : V → Prop) : Prop :=
  match e with
  | false => False
  | true => match x, y with
    | [.int .i64 a, .int .i64 b], [.int .i64 c, .int .i64 d] => match o with
      | .eql => K (.bool (match z .eq a c with | true => z .eq b d | false => false))
      | .neq => K (.bool (match z .eq a c with | true => z .ne b d | false => true))
      | _ => False
    | _, _ => False

def bin (o : BinOp) (t : Nat) (x y : V) (K : V → Prop) : Prop :=
  match x, y with
  | .int k a, .int k' b => match o with
    | .shl => z .arok .shl k a b ∧ K (.int k (z .ar .shl k a b))
    | .shr => z .arok .shr k a b ∧ K (.int k (z .ar .shr k a b))
    | o => bif Nat.beq (kn k) (kn k') then binI z o k a b K else False
  | .bool a, .bool b => match (tab t).c, o with
    | .bool, .eql => K (.bool (match a with | true => b | false => !b))
    | .bool, .neq => K (.bool (match a with | true => !b | false => b))
    | _, _ => False
  | .str a, .str b => match o with
    | .eql => K (.bool (z .seq a b))
    | .neq => K (.bool (z .sne a b))
    | _ => False
  | .sl _ _ _ _ _ xs, .nils => match (tab t).c, o with
    | .slice, .eql => ∀ b : Bool, (b = true → xs = []) → K (.bool b)
    | .slice, .neq => ∀ b : Bool, (b = false → xs = []) → K (.bool b)
    | _, _ => False
  | .nils, .nils => match (tab t).c, o with
    | .slice, .eql => K (.bool true)
    | .slice, .neq => K (.bool false)
    | _, _ => False
  | .lit _ _ _, .nils => match (tab t).c, o with
    | .slice, .eql => ∀ b : Bool, K (.bool b)
    | .slice, .neq => ∀ b : Bool, K (.bool b)
    | _, _ => False
  | .ptr _ _, .nilp => match (tab t).c, o with
    | .ptr, .eql => K (.bool false)
    | .ptr, .neq => K (.bool true)
    | _, _ => False
  | .nilp, .nilp => match (tab t).c, o with
    | .ptr, .eql => K (.bool true)
    | .ptr, .neq => K (.bool false)
    | _, _ => False
  | .fn _ _ _, .nilf => match (tab t).c, o with
    | .fn, .eql => K (.bool false)
    | .fn, .neq => K (.bool true)
    | _, _ => False
  | .nilf, .nilf => match (tab t).c, o with
    | .fn, .eql => K (.bool true)
    | .fn, .neq => K (.bool false)
    | _, _ => False
  | .agg xs, .agg ys => binA z (tab t).eq2 o xs ys K
  | _, _ => False

/-- n cells from an address on. -/
def ldC (H : Heap) (p : V) (n : Nat) : Option (List V) :=
  match p with
  | .pp cs => bif Nat.ble n cs.length then some (cs.take n) else none
  | .ptr k off => match H[k]? with
    | some (.cells l) => bif Nat.ble (off + n) l.length then some ((l.drop off).take n) else none
    | _ => none
  | .pe k m i off => match H[k]? with
    | some (.arr _ el xs) => bif Nat.beq m el.n && Nat.ble (off + n) el.n then some (((el.enc (S .at_ el.α el.d xs i)).drop off).take n) else none
    | _ => none
  | _ => none

def ld (t : Nat) (H : Heap) (p : V) (K : V → Prop) : Prop :=
  match Nat.blt 0 (tab t).size with
  | false => False
  | true => match ldC S H p (tab t).size with
  | some cs => bif (tab t).agg then K (.agg cs) else
    match cs with
    | [c] => K c
    | _ => False
  | none => False

def st (t : Nat) (H : Heap) (p v : V) (K : Heap → Prop) : Prop :=
  bif Nat.beq v.cells.length (tab t).size && Nat.blt 0 (tab t).size && allOne v.cells then
  match p with
  | .ptr k off => match H[k]? with
    | some (.cells l) => bif Nat.ble (off + v.cells.length) l.length then K (H.set k (.cells (upd l off v.cells))) else False
    | _ => False
  | .pe k m i off => match H[k]? with
    | some (.arr e el xs) => bif Nat.beq m el.n && Nat.ble (off + v.cells.length) el.n then
        el.enc (el.dec (upd (el.enc (S .at_ el.α el.d xs i)) off v.cells)) = upd (el.enc (S .at_ el.α el.d xs i)) off v.cells ∧
        K (H.set k (.arr e el (S .set el.α xs i (el.dec (upd (el.enc (S .at_ el.α el.d xs i)) off v.cells)))))
      else False
    | _ => False
  | _ => False
  else False

def fieldOf (cs : List V) (off size : Nat) (agg : Bool) : V :=
  bif agg then .agg ((cs.drop off).take size) else cs.getD off .und

/-- Parts laid into cells, by their offsets and sizes. -/
def fillV (place : Nat → Nat × Nat) (cs : List V) : List (Nat × V) → Option (List V)
  | [] => some cs
  | (i, v) :: rest =>
    bif Nat.beq v.cells.length (place i).2 && Nat.blt 0 (place i).2 && allOne v.cells && Nat.ble ((place i).1 + v.cells.length) cs.length
    then fillV place (upd cs (place i).1 v.cells) rest else none

def rounds (n : Nat) (z : List V) : List V := match n with
  | 0 => []
  | n + 1 => z ++ rounds n z

def chunks (n : Nat) (cs : List V) : Nat → List (List V)
  | 0 => []
  | m + 1 => cs.take n :: chunks n (cs.drop n) m

/-- Surely nothing, and no room. -/
def emptyFull : V → Bool
  | .nils => true
  | _ => false

/-- An append. -/
def app (t : Nat) (own : Bool) (env : Env) (H : Heap) (x y : V) (K : Env → V → Heap → Prop) : Prop :=
  match (tab t).el with
  | none => False
  | some el => match x with
    | .ref k n lo len => match H[k]? with
      | some (.arr e el' xs) => bif Nat.beq lo 0 && Nat.beq n el'.n && Nat.beq n el.n && Nat.beq e (tab t).eid then
          match y with
          | .lit m ess _ => bif Nat.beq m n then
              ess.map (fun c => el'.enc (el'.dec c)) = ess ∧ z .bd len ess.length ∧ S .mv k H ∧
              K (env.map (killV (eqk k))) (.ref k n 0 (z .add len ess.length)) ((killH (eqk k) H).set k (.arr e el' (S .app el'.α (S .cut el'.α xs 0 len) (ess.map el'.dec))))
            else False
          | .nils => K env x H
          | y => ∃ (fl : Bool) (ys : List el'.α), y = .sl el'.α el'.d el'.n el'.enc fl ys ∧ z .bd len ys.length ∧ S .mv k H ∧
            K (env.map (killV (eqk k))) (.ref k n 0 (z .add len ys.length)) ((killH (eqk k) H).set k (.arr e el' (S .app el'.α (S .cut el'.α xs 0 len) ys)))
        else False
      | _ => False
    | x => match own with
      | true => match emptyFull x with
        | false => False
        | true => match y with
          | .lit m ess _ => bif Nat.beq m el.n then
              ess.map (fun c => el.enc (el.dec c)) = ess ∧ z .bd ess.length 0 ∧ K env (.ref H.length el.n 0 ess.length) (H ++ [.arr (tab t).eid el (ess.map el.dec)])
            else False
          | .nils => K env (.ref H.length el.n 0 0) (H ++ [.arr (tab t).eid el []])
          | y => ∃ (fl : Bool) (ys : List el.α), y = .sl el.α el.d el.n el.enc fl ys ∧ z .bd ys.length 0 ∧ K env (.ref H.length el.n 0 ys.length) (H ++ [.arr (tab t).eid el ys])
      | false => match x, y with
        | .nils, .nils => K env .nils H
        | .nils, .lit n ess _ => bif Nat.beq n el.n then z .bd ess.length 0 ∧ K env (.lit n ess false) H else False
        | .nils, .sl α d n enc _ ys => bif Nat.beq n el.n then z .bd ys.length 0 ∧ K env (.sl α d n enc false ys) H else False
        | .lit n xs true, .nils => K env (.lit n xs true) H
        | .lit n xs true, .lit m ess _ => bif Nat.beq n el.n && Nat.beq m el.n then z .bd xs.length ess.length ∧ K env (.lit n (xs ++ ess) false) H else False
        | .lit _ [] true, .sl α d n enc _ ys => bif Nat.beq n el.n then z .bd ys.length 0 ∧ K env (.sl α d n enc false ys) H else False
        | .lit n (c :: cs) true, .sl α d m enc _ ys => ∃ xs : List α, c :: cs = xs.map enc ∧ n = m ∧ n = el.n ∧ z .bd xs.length ys.length ∧ K env (.sl α d m enc false (S .app α xs ys)) H
        | .sl α d n enc true xs, y => ∃ (fy : Bool) (ys : List α), (y = .sl α d n enc fy ys ∨ y = .lit n (ys.map enc) fy) ∧ n = el.n ∧ z .bd xs.length ys.length ∧ K env (.sl α d n enc false (S .app α xs ys)) H
        | _, _ => False

/-- x[lo:hi] -/
def sliceV (H : Heap) (t : Nat) (x : V) (lo hi : Option V) (K : V → Prop) : Prop :=
  match (tab t).el with
  | none => False
  | some e => match x with
    | .sl α d n enc fl xs => bif Nat.beq n e.n then match lo, hi with
      | some (.int _ a), none => z .rng 0 a (S .len α xs) ∧ K (.sl α d n enc fl (S .cut α xs (z .nat a) xs.length))
      | none, some (.int _ b) => z .rng 0 b (S .len α xs) ∧ K (.sl α d n enc false (S .cut α xs 0 (z .nat b)))
      | some (.int _ a), some (.int _ b) => z .rng 0 b (S .len α xs) ∧ z .rng 0 a b ∧ K (.sl α d n enc false (S .cut α xs (z .nat a) (z .nat b)))
      | _, _ => False
      else False
    | .ref k n l len => match H[k]? with
      | some (.arr _ _ _) => bif Nat.beq n e.n then match lo, hi with
        | some (.int _ a), none => z .rng 0 a (Int.ofNat len) ∧ K (.ref k n (z .add l (z .nat a)) (z .sub len (z .nat a)))
        | none, some (.int _ b) => z .rng 0 b (Int.ofNat len) ∧ K (.ref k n l (z .nat b))
        | some (.int _ a), some (.int _ b) => z .rng 0 b (Int.ofNat len) ∧ z .rng 0 a b ∧ K (.ref k n (z .add l (z .nat a)) (z .sub (z .nat b) (z .nat a)))
        | _, _ => False
        else False
      | _ => False
    | _ => False

/-- x[i] of a map; the parts are values already. -/
def lookV (t : Nat) (ok : Bool) (H : Heap) (xv iv : V) (K : V → Prop) : Prop :=
  match xv with
  | .mp k => match H[k]? with
    | some (.map m es) => (tab t).mp = some m ∧ m.kenc (m.kdec iv) = iv ∧
      (match ok with
       | true => K (.tuple [m.venc (S .mget m es (m.kdec iv)), .bool (S .mhas m es (m.kdec iv))])
       | false => K (m.venc (S .mget m es (m.kdec iv))))
    | _ => False
  | _ => False

def updV (t : Nat) (H : Heap) (xv iv vv : V) (K : Heap → Prop) : Prop :=
  match xv with
  | .mp k => match H[k]? with
    | some (.map m es) => (tab t).mp = some m ∧ m.kenc (m.kdec iv) = iv ∧ m.venc (m.vdec vv) = vv ∧
      K ((H.map killI).set k (.map m (S .mput m es (m.kdec iv) (m.vdec vv))))
    | _ => False
  | _ => False

def Op1 (o : Op) (dst : Option Nat) (env : Env) (H : Heap) (K : Env → V → Heap → Prop) : Prop :=
  match o with
  | .move x | .assign x => K env (opd env x) H
  | .pick c a b => match opd env c with
    | .bool c => match c with
      | true => K env (opd env a) H
      | false => K env (opd env b) H
    | _ => False
  | .alloc t => match (tab t).zero with
    | [] => False
    | z => K env (.ptr H.length 0) (H ++ [.cells z])
  | .box _ x => bif allOne (opd env x).cells then K env (.ptr H.length 0) (H ++ [.cells (opd env x).cells]) else False
  | .build t ps => match (tab t).zero with
    | [] => False
    | c :: cs => match (tab t).arr, (tab t).fs with
      | none, f :: fs => match fillV (fun i => (((f :: fs).getD i (0, 0, false)).1, ((f :: fs).getD i (0, 0, false)).2.1)) (c :: cs) (ps.toList.map fun p => (p.1, opd env p.2)) with
        | some cs => K env (.agg cs) H
        | none => False
      | some (_, s, _), _ => match fillV (fun i => (i * s, s)) (c :: cs) (ps.toList.map fun p => (p.1, opd env p.2)) with
        | some cs => K env (.agg cs) H
        | none => False
      | _, _ => False
  | .buildSlice t len ps => match (tab t).el with
    | some el => match fillV (fun i => (i * el.n, el.n)) (rounds len (el.enc el.d)) (ps.toList.map fun p => (p.1, opd env p.2)) with
      | some cs => bif allFlat cs && Nat.ble len 100000 then
        match (match dst with | some d => D.elem d | none => false) with
        | true => (chunks el.n cs len).map (fun c => el.enc (el.dec c)) = chunks el.n cs len ∧ K env (.ref H.length el.n 0 len) (H ++ [.arr (tab t).eid el ((chunks el.n cs len).map el.dec)])
        | false => K env (.lit el.n (chunks el.n cs len) true) H
      else False
      | none => False
    | none => False
  | .load t a => ld S tab t H (opd env a) fun v => K env v H
  | .store t a x => st S tab t H (opd env a) (opd env x) fun H' => K env .und H'
  | .nilCheck x => match opd env x with
    | .ptr k off => K env (.ptr k off) H
    | .pp cs => K env (.pp cs) H
    | .pe k n i off => K env (.pe k n i off) H
    | .fn f a b => K env (.fn f a b) H
    | _ => False
  | .binOp o t x y _ => bin z tab o t (opd env x) (opd env y) fun v => K env v H
  | .unOp o _ x => match o, opd env x with
    | .not, .bool b => K env (.bool (!b)) H
    | .neg, .int k n => K env (.int k (z .ar .sub k 0 n)) H
    | _, _ => False
  | .convert src dst x => match (tab src).kind, (tab dst).kind, opd env x with
    | some _, some k, .int _ n => K env (.int k (z .wr k n)) H
    | _, _, _ => False
  | .makeFunc (.func f) first cap => K env (.fn f (first.toList.map (opd env)) (cap.toList.map (opd env))) H
  | .makeMap t none => match (tab t).mp with
    | some m => K env (.mp H.length) (H ++ [.map m []])
    | none => False
  | .makeSlice t l c => match (tab t).el, opd env l, opd env c with
    | some el, .int _ n, .int _ m => z .rng 0 n 1000000 ∧ n = m ∧ K env (.ref H.length el.n 0 (z .nat n)) (H ++ [.arr (tab t).eid el (S .rep el.α (z .nat n) el.d)])
    | _, _, _ => False
  | .slice t x lo hi none => sliceV z S tab H t (opd env x) (lo.map (opd env)) (hi.map (opd env)) fun v => K env v H
  | .fieldAddr t x f => match (tab t).fs[f]? with
    | some (off, _, _) => match opd env x with
      | .pp cs => K env (.pp (cs.drop off)) H
      | .ptr k o => K env (.ptr k (o + off)) H
      | .pe k n i o => match H[k]? with
        | some (.arr _ _ _) => K env (.pe k n i (o + off)) H
        | _ => False
      | _ => False
    | none => False
  | .field t x f => match (tab t).fs[f]?, opd env x with
    | some (off, size, agg), .agg cs => bif Nat.ble (off + size) cs.length then K env (fieldOf cs off size agg) H else False
    | _, _ => False
  | .indexAddr t x i => match (tab t).el with
    | some e => match opd env x, opd env i with
      | .sl α d n enc _ xs, .int _ i => bif Nat.beq n e.n then S .idx α xs i ∧ K env (.pp (enc (S .at_ α d xs (z .nat i)))) H else False
      | .lit n ess _, .int _ i => bif Nat.beq n e.n then z .ixn ess.length i ∧ K env (.pp (S .lit ess (z .nat i))) H else False
      | .ref k n lo len, .int _ i => match H[k]? with
        | some (.arr _ _ _) => bif Nat.beq n e.n then z .ixn len i ∧ K env (.pe k n (z .add lo (z .nat i)) 0) H else False
        | _ => False
      | _, _ => False
    | none => match opd env x, opd env i with
      | .ptr k o, .int _ i => match (tab t).arr with
        | some (len, s, _) => match i with
          | .ofNat i => bif Nat.blt i len then K env (.ptr k (o + i * s)) H else False
          | _ => False
        | none => False
      | _, _ => False
  | .index t x i => match (tab t).arr, opd env x, opd env i with
    | some (len, s, agg), .agg cs, .int _ i => match i with
      | .ofNat i => bif Nat.blt i len && Nat.ble (i * s + s) cs.length then K env (fieldOf cs (i * s) s agg) H else False
      | _ => False
    | _, _, _ => False
  | .lookup t x i ok => lookV S tab t ok H (opd env x) (opd env i) fun v => K env v H
  | .mapUpdate t x i v | .insert t x i v => updV S tab t H (opd env x) (opd env i) (opd env v) fun H' => K env .und H'
  | .range t x => match opd env x with
    | .mp k => match H[k]? with
      | some (.map m es) => (tab t).mp = some m ∧ K env (.itr H.length) (H ++ [.iter k m es (z .irng es.length) none])
      | _ => False
    | _ => False
  | .next it false => match opd env it with
    | .itr j => match H[j]? with
      | some (.iter k m es rem _) => match H[k]? with
        | some (.map m' es') => (∃ h : m' = m, h ▸ es' = es) ∧
          (rem = [] → K env (.tuple [.bool false]) H) ∧
          ∀ i, i ∈ rem → K env (.tuple [.bool true, m.kenc (S .mkey m es i), m.venc (S .mval m es i)]) (H.set j (.iter k m es (z .iers rem i) (some i)))
        | _ => False
      | _ => False
    | _ => False
  | .entry it => match opd env it with
    | .itr j => match H[j]? with
      | some (.iter k m es _ (some i)) => match H[k]? with
        | some (.map m' es') => (∃ h : m' = m, h ▸ es' = es) ∧ K env (.tuple [m.kenc (S .mkey m es i), m.venc (S .mval m es i)]) H
        | _ => False
      | _ => False
    | _ => False
  | .extract t i => match opd env t with
    | .tuple l => match l[i]? with
      | some v => K env v H
      | none => False
    | _ => False
  | .call c => match c.callee with
    | .value f => match opd env f with
      | .fn f first cap => S .call f (first ++ c.args.toList.map (opd env) ++ cap) H fun
        | .ret v, p, H' => K (env.map (killV p)) v H'
        | .pan _, _, _ => False
      | .yld => S .yld (c.args.toList.map (opd env)) H fun
        | .ret v, p, H' => K (env.map (killV p)) v H'
        | .pan _, _, _ => False
      | _ => False
    | .builtin .append => match c.args.toList, c.argTypes.toList with
      | [x, y], [t, t'] => bif Nat.beq t t' then app z S tab t (match dst with | some d => D.elem d | none => false) env H (opd env x) (opd env y) K else False
      | _, _ => False
    | .builtin .len => match c.args.toList, c.argTypes.toList with
      | [x], [t] => match (tab t).el with
        | some _ => match opd env x with
          | .sl α _ _ _ _ xs => K env (.int .i64 (S .len α xs)) H
          | .lit _ ess _ => K env (.int .i64 (Int.ofNat ess.length)) H
          | .nils => K env (.int .i64 (Int.ofNat 0)) H
          | .ref k _ _ len => match H[k]? with
            | some (.arr _ _ _) => K env (.int .i64 (Int.ofNat len)) H
            | _ => False
          | _ => False
        | none => match (tab t).mp with
          | some _ => match opd env x with
            | .mp k => match H[k]? with
              | some (.map m es) => z .bd es.length 0 ∧ K env (.int .i64 (S .len (m.κ × m.β) es)) H
              | _ => False
            | _ => False
          | none => False
      | _, _ => False
    | .builtin .clear => match c.args.toList, c.argTypes.toList with
      | [x], [t] => match (tab t).el with
        | some el0 => match opd env x with
          | .ref k n lo len => match H[k]? with
            | some (.arr e el xs) => bif Nat.beq n el.n && Nat.beq e (tab t).eid then el.enc el.d = el0.enc el0.d ∧ K env (.tuple []) (H.set k (.arr e el (S .app el.α (S .cut el.α xs 0 lo) (S .app el.α (S .rep el.α len el.d) (S .cut el.α xs (z .add lo len) xs.length))))) else False
            | _ => False
          | .nils => K env (.tuple []) H
          | _ => False
        | none => False
      | _, _ => False
    | .builtin .min => match c.args.toList.map (opd env) with
      | [.int k a, .int k' b] => match z .lt b a with
        | true => match Nat.beq (kn k) (kn k') with
          | true => K env (.int k b) H
          | false => False
        | false => K env (.int k a) H
      | _ => False
    | .builtin .max => match c.args.toList.map (opd env) with
      | [.int k a, .int k' b] => match z .lt a b with
        | true => match Nat.beq (kn k) (kn k') with
          | true => K env (.int k b) H
          | false => False
        | false => K env (.int k a) H
      | _ => False
    | _ => False
  | _ => False

def slotOf (ops : List Oper) (j : Nat) : Option Nat := match ops[j]? with
  | some o => o.dst
  | none => none

def WI (all : List Oper) (K : Env → Heap → Prop) : List Nat → Env → Heap → Prop
  | [], env, H => K env H
  | i :: rest, env, H => match all[i]? with
    | none => False
    | some o => match o.guard with
      | none => Op1 z S tab D o.op o.dst env H fun env' v H' => WI all K rest (put env' o.dst v) H'
      | some (j, want) => match slotOf all j with
        | none => False
        | some s => match env.getD s .und with
          | .bool b => match want with
            | true => match b with
              | true => Op1 z S tab D o.op o.dst env H fun env' v H' => WI all K rest (put env' o.dst v) H'
              | false => WI all K rest (put env o.dst (.tuple [])) H
            | false => match b with
              | true => WI all K rest (put env o.dst (.tuple [])) H
              | false => Op1 z S tab D o.op o.dst env H fun env' v H' => WI all K rest (put env' o.dst v) H'
          | .tuple _ => WI all K rest (put env o.dst (.tuple [])) H
          | _ => False

/-- In which orders a region that draws its order may go; what asks no world goes first. -/
inductive DT where
  | done
  | take (i : Nat) (t : DT)
  | alt (i : Nat) (t r : DT)
  | stop

def WT (all : List Oper) (K : Env → Heap → Prop) : DT → Env → Heap → Prop
  | .done, env, H => K env H
  | .take i t, env, H => WI z S tab D all (fun env H => WT all K t env H) [i] env H
  | .alt i t r, env, H => WI z S tab D all (fun env H => WT all K t env H) [i] env H ∧ WT all K r env H
  | .stop, _, _ => True

variable (tr : Nat → DT)

def W : Code → Post → Env → Heap → Prop
  | .skip, Q, env, H => Q .norm env H
  | .region id ops draw, Q, env, H => match draw with
    | false => WI z S tab D ops.toList (Q .norm) (List.range ops.toList.length) env H
    | true => S .drw H ∧ WT z S tab D ops.toList (Q .norm) (tr id) env H
  | .seq a b, Q, env, H => W a (fun e env H => match e with
    | .norm => W b Q env H
    | e => Q e env H) env H
  | .cond c a b, Q, env, H => match opd env c with
    | .bool t => match t with
      | true => W a Q env H
      | false => W b Q env H
    | _ => False
  | .block id b, Q, env, H => W b (fun e env H => match e with
    | .exit i => match Nat.beq i id with
      | true => Q .norm env H
      | false => Q (.exit i) env H
    | e => Q e env H) env H
  | .exit i, Q, env, H => Q (.exit i) env H
  | .ret, Q, env, H => Q .ret env H
  | c, Q, env, H => S .tri c Q env H

end Go.Ab

/- What an abstract value says of a value in a world, and what stays when the world goes on. -/
namespace Go.Ab

structure Gh where
  prot : Nat → Prop
  fr : Nat → Prop
  n : Nat
  blk : Nat → Nat
  arv : Nat → Value
  yl : Nat
  marks : List Nat

/-- A slice of an owned array. -/
def refRel (u : Value) (n lo len : Nat) (v : Value) : Prop :=
  match u with
  | .slice none _ _ => lo = 0 ∧ len = 0 ∧ v = .slice none 0 0
  | .slice (some p) m cap => lo + len ≤ m ∧ m ≤ cap ∧ ∃ q, v = .slice (some q) len (cap - lo) ∧ q.block = p.block ∧ (0 < len ∨ lo = 0 → q = p.add (lo * n))
  | _ => False

def peOf (v : Value) (n i off : Nat) : Option Value :=
  match v with
  | .slice (some a) m _ => if i < m then some (.pointer (some (a.add (i * n + off)))) else none
  | _ => none

theorem flat_pos {ess : List (List V)} {j : Nat} {y : V} (h : ess.flatten[j]? = some y) : 0 < ess.length := by
  cases ess with
  | nil => simp at h
  | cons c r => simp

inductive Rep (G : Gh) (w : World) : Value → V → Prop
  | und (v : Value) : Rep G w v .und
  | bool (b : Bool) : Rep G w (.bool b) (.bool b)
  | int (k : IntKind) (n : Int) (h : k.has n) : Rep G w (.int k n) (.int k n)
  | str (s : ByteArray) : Rep G w (.string s) (.str s)
  | agg (cs : Array Value) (l : List V) (hn : cs.size = l.length) (h : ∀ (i : Nat) c x, cs[i]? = some c → l[i]? = some x → Rep G w c x) : Rep G w (.agg cs) (.agg l)
  | tuple (cs : Array Value) (l : List V) (hn : cs.size = l.length) (h : ∀ (i : Nat) c x, cs[i]? = some c → l[i]? = some x → Rep G w c x) : Rep G w (.tuple cs) (.tuple l)
  | nils : Rep G w (.slice none 0 0) .nils
  | lit (n : Nat) (ess : List (List V)) (fl : Bool) (ad : Option Addr) (cap : Nat) (f : Nat → Value) (hlen : ess.length ≤ cap) (hm : cap ≤ maxLen) (hf : fl = true → cap = ess.length)
      (hnone : ad = none → ess = [] ∧ cap = 0) (hp : ∀ p, ad = some p → 0 < cap → G.prot p.block ∧ p.spot = none) (hx : ∀ c ∈ ess, c.length = n) (hfl : ∀ y ∈ ess.flatten, V.flat y = true)
      (hc : ∀ p (j : Nat) y, ad = some p → ess.flatten[j]? = some y → w.cell? (p.add j) = some (f j)) (hr : ∀ (j : Nat) y, ess.flatten[j]? = some y → Rep G w (f j) y) :
      Rep G w (.slice ad ess.length cap) (.lit n ess fl)
  | sl (α : Type) (d : α) (n : Nat) (enc : α → List V) (fl : Bool) (xs : List α) (v : Value) (h : Rep G w v (.lit n (xs.map enc) fl)) : Rep G w v (.sl α d n enc fl xs)
  | pp (cs : List V) (p : Addr) (f : Nat → Value) (hp : G.prot p.block) (hs : p.spot = none) (hfl : ∀ y ∈ cs, V.flat y = true)
      (hc : ∀ (j : Nat) y, cs[j]? = some y → w.cell? (p.add j) = some (f j)) (hr : ∀ (j : Nat) y, cs[j]? = some y → Rep G w (f j) y) : Rep G w (.pointer (some p)) (.pp cs)
  | ref (k n lo len : Nat) (v : Value) (hk : k < G.n) (h : refRel (G.arv k) n lo len v) : Rep G w v (.ref k n lo len)
  | pe (k n i off : Nat) (v : Value) (hk : k < G.n) (h : peOf (G.arv k) n i off = some v) : Rep G w v (.pe k n i off)
  | ptr (k off : Nat) (hk : k < G.n) : Rep G w (.pointer (some ⟨G.blk k, off, none⟩)) (.ptr k off)
  | nilp : Rep G w (.pointer none) .nilp
  | mp (k : Nat) (hk : k < G.n) : Rep G w (.map (some (G.blk k))) (.mp k)
  | nilm : Rep G w (.map none) .nilm
  | fn (f : Nat) (fs cs : Array Value) (a b : List V) (h1 : fs.size = a.length) (h2 : cs.size = b.length) (ha : ∀ (i : Nat) c x, fs[i]? = some c → a[i]? = some x → Rep G w c x)
      (hb : ∀ (i : Nat) c x, cs[i]? = some c → b[i]? = some x → Rep G w c x) : Rep G w (.func (.func f) fs cs) (.fn f a b)
  | nilf : Rep G w .nilFunc .nilf
  | yld : Rep G w (.func (.yield G.yl) #[] #[]) .yld
  | iface (t : Nat) (u : Value) (x : V) (h : Rep G w u x) : Rep G w (.iface t u) (.iface t x)
  | nili : Rep G w .nilIface .nili
  | itr (k : Nat) (hk : k < G.n) : Rep G w (.pointer (some ⟨G.blk k, 0, none⟩)) (.itr k)

structure Le (G : Gh) (w : World) (G' : Gh) (w' : World) : Prop where
  prot : ∀ b, G.prot b → G'.prot b
  cell : ∀ p : Addr, G.prot p.block → w'.cell? p = w.cell? p
  n : G.n ≤ G'.n
  blk : ∀ k, k < G.n → G'.blk k = G.blk k
  arv : ∀ k, k < G.n → G'.arv k = G.arv k
  yl : G'.yl = G.yl

theorem Rep.mono {G : Gh} {w : World} {G' : Gh} {w' : World} (h : Le G w G' w') {v : Value} {x : V} (r : Rep G w v x) : Rep G' w' v x := by
  induction r with
  | und v => exact .und v
  | bool b => exact .bool b
  | int k n h => exact .int k n h
  | str s => exact .str s
  | agg cs l hn _ ih => exact .agg cs l hn ih
  | tuple cs l hn _ ih => exact .tuple cs l hn ih
  | nils => exact .nils
  | lit n ess fl ad cap f hlen hm hf hnone hp hx hfl hc _ ih =>
    exact .lit n ess fl ad cap f hlen hm hf hnone (fun p hp' h0 => ⟨h.prot _ (hp p hp' h0).1, (hp p hp' h0).2⟩) hx hfl
      (fun p j y hp' hy => by
        have hb : (p.add j).block = p.block := by unfold Addr.add; split <;> rfl
        rw [h.cell _ (hb ▸ (hp p hp' (Nat.lt_of_lt_of_le (flat_pos hy) hlen)).1)]; exact hc p j y hp' hy) ih
  | sl α d n enc fl xs v _ ih => exact .sl α d n enc fl xs v ih
  | pp cs p f hp hs hfl hc _ ih =>
    exact .pp cs p f (h.prot _ hp) hs hfl
      (fun j y hy => by
        have hb : (p.add j).block = p.block := by unfold Addr.add; split <;> rfl
        rw [h.cell _ (hb ▸ hp)]; exact hc j y hy) ih
  | ref k n lo len v hk h' => exact .ref k n lo len v (Nat.lt_of_lt_of_le hk h.n) (by rw [h.arv k hk]; exact h')
  | pe k n i off v hk h' => exact .pe k n i off v (Nat.lt_of_lt_of_le hk h.n) (by rw [h.arv k hk]; exact h')
  | ptr k off hk => have := Rep.ptr (G := G') (w := w') k off (Nat.lt_of_lt_of_le hk h.n); rwa [h.blk k hk] at this
  | nilp => exact .nilp
  | mp k hk => have := Rep.mp (G := G') (w := w') k (Nat.lt_of_lt_of_le hk h.n); rwa [h.blk k hk] at this
  | nilm => exact .nilm
  | fn f fs cs a b h1 h2 _ _ iha ihb => exact .fn f fs cs a b h1 h2 iha ihb
  | nilf => exact .nilf
  | yld => have := Rep.yld (G := G') (w := w'); rwa [h.yl] at this
  | iface t u x _ ih => exact .iface t u x ih
  | nili => exact .nili
  | itr k hk => have := Rep.itr (G := G') (w := w') k (Nat.lt_of_lt_of_le hk h.n); rwa [h.blk k hk] at this

structure LeK (p : Ar) (G : Gh) (w : World) (G' : Gh) (w' : World) : Prop where
  prot : ∀ b, G.prot b → G'.prot b
  cell : ∀ p : Addr, G.prot p.block → w'.cell? p = w.cell? p
  n : G.n ≤ G'.n
  blk : ∀ k, k < G.n → G'.blk k = G.blk k
  arv : ∀ k, k < G.n → p k = false → G'.arv k = G.arv k
  yl : G'.yl = G.yl

theorem killL_eq (p : Ar) (l : List V) : killL p l = l.map (killV p) := by
  induction l with
  | nil => simp [killL]
  | cons x xs ih => simp [killL, ih]

theorem killV_flat {p : Ar} {x : V} (h : x.flat = true) : killV p x = x := by
  cases x <;> first | rfl | (simp [V.flat] at h) | simp [killV]

theorem Rep.kill {q : Ar} {G : Gh} {w : World} {G' : Gh} {w' : World} (h : LeK q G w G' w') {v : Value} {x : V} (r : Rep G w v x) : Rep G' w' v (killV q x) := by
  induction r with
  | und v => simp only [killV]; exact .und v
  | bool b => simp only [killV]; exact .bool b
  | int k n h => simp only [killV]; exact .int k n h
  | str s => simp only [killV]; exact .str s
  | agg cs l hn _ ih =>
    simp only [killV, killL_eq]
    refine .agg cs _ (by simpa using hn) (fun i c x hc hx => ?_)
    simp only [List.getElem?_map, Option.map_eq_some_iff] at hx
    obtain ⟨y, hy, rfl⟩ := hx
    exact ih i c y hc hy
  | tuple cs l hn _ ih =>
    simp only [killV, killL_eq]
    refine .tuple cs _ (by simpa using hn) (fun i c x hc hx => ?_)
    simp only [List.getElem?_map, Option.map_eq_some_iff] at hx
    obtain ⟨y, hy, rfl⟩ := hx
    exact ih i c y hc hy
  | nils => simp only [killV]; exact .nils
  | lit n ess fl ad cap f hlen hm hf hnone hp hx hfl hc _ ih =>
    simp only [killV]
    exact .lit n ess fl ad cap f hlen hm hf hnone (fun p hp' h0 => ⟨h.prot _ (hp p hp' h0).1, (hp p hp' h0).2⟩) hx hfl
      (fun p j y hp' hy => by
        have hb : (p.add j).block = p.block := by unfold Addr.add; split <;> rfl
        rw [h.cell _ (hb ▸ (hp p hp' (Nat.lt_of_lt_of_le (flat_pos hy) hlen)).1)]; exact hc p j y hp' hy)
      (fun j y hy => by have := ih j y hy; rwa [killV_flat (hfl y (List.mem_of_getElem? hy))] at this)
  | sl α d n enc fl xs v _ ih => simp only [killV] at ih ⊢; exact .sl α d n enc fl xs v ih
  | pp cs p f hp hs hfl hc _ ih =>
    simp only [killV]
    exact .pp cs p f (h.prot _ hp) hs hfl
      (fun j y hy => by
        have hb : (p.add j).block = p.block := by unfold Addr.add; split <;> rfl
        rw [h.cell _ (hb ▸ hp)]; exact hc j y hy)
      (fun j y hy => by have := ih j y hy; rwa [killV_flat (hfl y (List.mem_of_getElem? hy))] at this)
  | ref k n lo len v hk h' =>
    cases e : q k
    · simp only [killV, e, cond_false]; exact .ref k n lo len v (Nat.lt_of_lt_of_le hk h.n) (by rw [h.arv k hk e]; exact h')
    · simp only [killV, e, cond_true]; exact .und v
  | pe k n i off v hk h' =>
    cases e : q k
    · simp only [killV, e, cond_false]; exact .pe k n i off v (Nat.lt_of_lt_of_le hk h.n) (by rw [h.arv k hk e]; exact h')
    · simp only [killV, e, cond_true]; exact .und v
  | ptr k off hk => simp only [killV]; have := Rep.ptr (G := G') (w := w') k off (Nat.lt_of_lt_of_le hk h.n); rwa [h.blk k hk] at this
  | nilp => simp only [killV]; exact .nilp
  | mp k hk => simp only [killV]; have := Rep.mp (G := G') (w := w') k (Nat.lt_of_lt_of_le hk h.n); rwa [h.blk k hk] at this
  | nilm => simp only [killV]; exact .nilm
  | fn f fs cs a b h1 h2 _ _ iha ihb =>
    simp only [killV, killL_eq]
    refine .fn f fs cs _ _ (by simpa using h1) (by simpa using h2) (fun i c x hc hx => ?_) (fun i c x hc hx => ?_)
    · simp only [List.getElem?_map, Option.map_eq_some_iff] at hx
      obtain ⟨y, hy, rfl⟩ := hx
      exact iha i c y hc hy
    · simp only [List.getElem?_map, Option.map_eq_some_iff] at hx
      obtain ⟨y, hy, rfl⟩ := hx
      exact ihb i c y hc hy
  | nilf => simp only [killV]; exact .nilf
  | yld => simp only [killV]; have := Rep.yld (G := G') (w := w'); rwa [h.yl] at this
  | iface t u x _ ih => simp only [killV]; exact .iface t u _ ih
  | nili => simp only [killV]; exact .nili
  | itr k hk => simp only [killV]; have := Rep.itr (G := G') (w := w') k (Nat.lt_of_lt_of_le hk h.n); rwa [h.blk k hk] at this

/-- Cells that lie in a row of values, one by one. -/
def RepL (G : Gh) (w : World) (vs : List Value) (l : List V) : Prop := vs.length = l.length ∧ ∀ (i : Nat) (c : Value) (x : V), vs[i]? = some c → l[i]? = some x → Rep G w c x

theorem RepL.mono {G : Gh} {w : World} {G' : Gh} {w' : World} (h : Le G w G' w') {vs : List Value} {l : List V} (r : RepL G w vs l) : RepL G' w' vs l :=
  ⟨r.1, fun i c x hc hx => (r.2 i c x hc hx).mono h⟩

theorem RepL.kill {q : Ar} {G : Gh} {w : World} {G' : Gh} {w' : World} (h : LeK q G w G' w') {vs : List Value} {l : List V} (r : RepL G w vs l) : RepL G' w' vs (killL q l) := by
  refine ⟨by rw [killL_eq]; simpa using r.1, fun i c x hc hx => ?_⟩
  rw [killL_eq] at hx
  simp only [List.getElem?_map, Option.map_eq_some_iff] at hx
  obtain ⟨y, hy, rfl⟩ := hx
  exact (r.2 i c y hc hy).kill h

theorem RepL.flatK {q : Ar} {G : Gh} {w : World} {G' : Gh} {w' : World} (h : LeK q G w G' w') {vs : List Value} {l : List V} (hf : ∀ y ∈ l, V.flat y = true) (r : RepL G w vs l) : RepL G' w' vs l :=
  ⟨r.1, fun i c x hc hx => by have := (r.2 i c x hc hx).kill h; rwa [killV_flat (hf x (List.mem_of_getElem? hx))] at this⟩

/-- What is asked of a kind of element. -/
structure ElOk (el : El) : Prop where
  len : ∀ x, (el.enc x).length = el.n
  flat : ∀ x, ∀ y ∈ el.enc x, V.flat y = true
  pos : 0 < el.n
  small : el.n ≤ 100

/-- What is asked of a kind of map's keys and values. -/
structure MpPlain (m : Mp) : Prop where
  key : ∀ x, (m.kenc x).flat = true
  val : ∀ x, (m.venc x).flat = true

structure IterOk (ents : Array MapEntry) (clock since : Nat) (seen : Array Nat) (stepped : Nat) (rem : List Nat) (cur : Option Nat) : Prop where
  since : since = clock
  stepped : stepped = clock
  nd : rem.Nodup
  rem : ∀ i, i ∈ rem ↔ ∃ e, ents[i]? = some e ∧ seen.contains e.born = false
  cur : ∀ i, cur = some i → ∃ e, ents[i]? = some e ∧ seen.back? = some e.born

def RepB (G : Gh) (w : World) (k : Nat) : Blk → Prop
  | .dead => True
  | .cells l => ∃ (cs : Array Value) (t : TypeId), w.heap[G.blk k]? = some (.cells cs t (0, 0)) ∧ RepL G w cs.toList l
  | .arr e el xs => ElOk el ∧ ∃ vs, w.ownsRow 0 e el.n (G.arv k) xs.length vs ∧ RepL G w vs (xs.flatMap el.enc)
  | .map m es => MpPlain m ∧ ∃ ents clock, w.heap[G.blk k]? = some (.map ents clock) ∧ ents.size = es.length ∧
      (∀ (i : Nat) (e : MapEntry) (p : m.κ × m.β), ents[i]? = some e → es[i]? = some p → Rep G w e.key (m.kenc p.1) ∧ Rep G w e.val (m.venc p.2)) ∧
      (∀ (i : Nat) (e : MapEntry), ents[i]? = some e → e.born < clock) ∧
      (∀ (i j : Nat) (e f : MapEntry), ents[i]? = some e → ents[j]? = some f → e.born = f.born → i = j) ∧ (es.map (·.1)).Nodup
  | .iter r m _ rem cur => MpPlain m ∧ ∃ since seen stepped, w.heap[G.blk k]? = some (.mapIter (some (G.blk r)) since seen stepped) ∧ (r < G.n ∧ G.blk r < w.heap.size) ∧
      ∀ ents clock, w.heap[G.blk r]? = some (.map ents clock) → IterOk ents clock since seen stepped rem cur

def ownOf (G : Gh) (k : Nat) : Blk → Option Nat
  | .dead => none
  | .arr .. => (G.arv k).ownBlock
  | _ => some (G.blk k)

structure SimH (G : Gh) (w : World) (H : Heap) : Prop where
  n : G.n = H.length
  rep : ∀ k b, H[k]? = some b → RepB G w k b
  own : ∀ k b q, H[k]? = some b → ownOf G k b = some q → q < w.heap.size ∧ ¬ G.prot q
  inj : ∀ k k' b b' q, H[k]? = some b → H[k']? = some b' → ownOf G k b = some q → ownOf G k' b' = some q → k = k'
  plt : ∀ q, G.prot q → q < w.heap.size
  fro : ∀ k b q, H[k]? = some b → ownOf G k b = some q → ¬ G.fr q
  frs : ∀ q, G.fr q → q < w.heap.size ∧ ¬ G.prot q

def markOf (D : Nat) : Deferred := { target := .collected D, args := #[] }

structure Sim (G : Gh) (a : Act) (w : World) (env : Env) (H : Heap) : Prop where
  h : SimH G w H
  env : RepL G w a.tmps.toList env
  marks : a.defers = G.marks.map markOf
  md : ∀ D ∈ G.marks, w.heap[D]? = some (.deferred (some [])) ∧ G.prot D
  nd : G.marks.Nodup

/-- How much of a heap is older; and which arrays of it may move. -/
structure Lim where
  n : Nat
  p : Ar

structure Ext (n0 : Lim) (G : Gh) (w : World) (G' : Gh) (w' : World) : Prop where
  prot : ∀ b, G.prot b → G'.prot b
  keep : ∀ b, G.prot b → w'.heap[b]? = w.heap[b]?
  size : w.heap.size ≤ w'.heap.size
  os : w'.os = w.os
  tape : w'.tape = w.tape
  output : w'.output = w.output
  blk : ∀ k, k < n0.n → G'.blk k = G.blk k
  yl : G'.yl = G.yl
  arv : ∀ k, k < n0.n → n0.p k = false → G'.arv k = G.arv k
  fr : G'.fr = G.fr
  kfr : ∀ b, G.fr b → w'.heap[b]? = w.heap[b]?
  len : n0.n ≤ G.n → n0.n ≤ G'.n
  mks : ∀ D ∈ G'.marks, D ∈ G.marks ∨ w.heap.size ≤ D

theorem Ext.refl (n0 : Lim) (G : Gh) (w : World) : Ext n0 G w G w := ⟨fun _ h => h, fun _ _ => rfl, Nat.le_refl _, rfl, rfl, rfl, fun _ _ => rfl, rfl, fun _ _ _ => rfl, rfl, fun _ _ => rfl, id, fun _ h => .inl h⟩

theorem Ext.trans {n0 : Lim} {G G1 G2 : Gh} {w w1 w2 : World} (h : Ext n0 G w G1 w1) (k : Ext n0 G1 w1 G2 w2) : Ext n0 G w G2 w2 :=
  ⟨fun b hb => k.prot b (h.prot b hb), fun b hb => (k.keep b (h.prot b hb)).trans (h.keep b hb), Nat.le_trans h.size k.size, k.os.trans h.os, k.tape.trans h.tape, k.output.trans h.output,
   fun j hj => (k.blk j hj).trans (h.blk j hj), k.yl.trans h.yl, fun j hj hp => (k.arv j hj hp).trans (h.arv j hj hp), k.fr.trans h.fr, fun b hb => (k.kfr b (h.fr ▸ hb)).trans (h.kfr b hb), fun h' => k.len (h.len h'), fun D hD => (k.mks D hD).elim (fun h' => h.mks D h') (fun h' => .inr (Nat.le_trans h.size h'))⟩

end Go.Ab

/- What is known of types; the words as they are; operands; operations that leave the world alone. -/
namespace Go.Ab

def isAggD : TypeDesc → Bool
  | .struct _ | .array _ _ => true
  | _ => false

/-- A zero value's cell. -/
def zeroV (v : Value) (x : V) : Prop :=
  match v, x with
  | .int k n, .int k' n' => k = k' ∧ n = 0 ∧ n' = 0
  | .bool b, .bool b' => b = false ∧ b' = false
  | .string s, .str s' => s = s'
  | .slice a l c, .nils => a = none ∧ l = 0 ∧ c = 0
  | .slice a l c, .sl _ _ _ _ _ xs => a = none ∧ l = 0 ∧ c = 0 ∧ xs = []
  | .pointer a, .nilp => a = none
  | .map a, .nilm => a = none
  | .nilFunc, .nilf => True
  | .nilIface, .nili => True
  | _, _ => False

def zeroL : List Value → List V → Prop
  | [], [] => True
  | v :: vs, x :: xs => zeroV v x ∧ zeroL vs xs
  | _, _ => False

structure MpOk (P : Program) (key elem : TypeId) (m : Mp) : Prop where
  plain : MpPlain m
  key : ∃ (ik : IntKind) (kf : m.κ → Int), P.underlying key = some (.int ik) ∧ (∀ x, m.kenc x = .int ik (kf x)) ∧ (∀ x y, kf x = kf y → x = y) ∧ (∀ k n, m.kenc (m.kdec (.int k n)) = .int k n → k = ik ∧ kf (m.kdec (.int k n)) = n)
  zero : ∃ i z, P.info? elem = some i ∧ i.zero = some z ∧ ∀ (G : Gh) (w : World), Rep G w z (m.venc m.d)

structure TIok (P : Program) (t : Nat) (ti : TI) : Prop where
  size : 0 < ti.size → ∃ i d, P.info? t = some i ∧ i.size = ti.size ∧ P.underlying t = some d ∧ isAggD d = ti.agg
  zero : ti.zero ≠ [] → ∃ i z, P.info? t = some i ∧ i.zero = some z ∧ zeroL z.cells.toList ti.zero
  st : ti.fs ≠ [] → ∃ fields, P.underlying t = some (.struct fields) ∧
    fields.toList.mapM (fun f => (P.info? f.type).bind fun i => (P.underlying f.type).map fun d => (f.offset, i.size, isAggD d)) = some ti.fs ∧ ∀ q ∈ ti.fs, 0 < q.2.1 ∧ (q.2.2 = false → q.2.1 = 1)
  el : ∀ el, ti.el = some el → ElOk el ∧ ∃ i z, P.underlying t = some (.slice ti.eid) ∧ P.info? ti.eid = some i ∧ i.size = el.n ∧ i.bytes ≤ 1048576 ∧ i.zero = some z ∧ z.cells.size = el.n ∧
    zeroL z.cells.toList (el.enc el.d)
  arr : ∀ len s ag, ti.arr = some (len, s, ag) → ∃ e i d, P.underlying t = some (.array len e) ∧ P.info? e = some i ∧ i.size = s ∧ 0 < s ∧ P.underlying e = some d ∧ isAggD d = ag ∧ (ag = false → s = 1)
  mp : ∀ m, ti.mp = some m → ∃ key elem, P.underlying t = some (.map key elem) ∧ MpOk P key elem m
  kind : ∀ k, ti.kind = some k → P.underlying t = some (.int k)
  cb : ti.c = .bool → P.underlying t = some .bool
  cs : ti.c = .slice → ∃ e, P.underlying t = some (.slice e)
  cp : ti.c = .ptr → ∃ e, P.underlying t = some (.pointer e)
  cf : ti.c = .fn → ∃ p r q, P.underlying t = some (.func p r q)
  eq2 : ti.eq2 = true → P.eqGuardType P.depth t = false ∧ ∀ (w : World) (a b c d : Int), (Op.equalIn 10000 t (.agg #[.int .i64 a, .int .i64 b]) (.agg #[.int .i64 c, .int .i64 d])).run P w = .ok (a == c && b == d) w

/-! ### The words as they are -/
def arF (o : BinOp) (k : IntKind) (a b : Int) : Int :=
  match o with
  | .add => k.wrap (a + b)
  | .sub => k.wrap (a - b)
  | .mul => k.wrap (a * b)
  | .quo => k.wrap (a.tdiv b)
  | .rem => a.tmod b
  | .and => k.wrap ((BitVec.ofInt k.bits a &&& BitVec.ofInt k.bits b).toNat)
  | .or => k.wrap ((BitVec.ofInt k.bits a ||| BitVec.ofInt k.bits b).toNat)
  | .xor => k.wrap ((BitVec.ofInt k.bits a ^^^ BitVec.ofInt k.bits b).toNat)
  | .andNot => k.wrap ((BitVec.ofInt k.bits a &&& ~~~BitVec.ofInt k.bits b).toNat)
  | .shl => k.wrap (a * 2 ^ (min b.toNat k.bits))
  | .shr => a.fdiv (2 ^ (min b.toNat k.bits))
  | _ => 0

def arokF (o : BinOp) (_k : IntKind) (_a b : Int) : Prop :=
  match o with
  | .quo | .rem => b ≠ 0
  | .shl | .shr => 0 ≤ b
  | .and | .or | .xor | .andNot => True
  | _ => False

def realz : Sz := fun
  | .ar => arF
  | .arok => arokF
  | .lt => fun a b => decide (a < b)
  | .le => fun a b => decide (a ≤ b)
  | .eq => fun a b => a == b
  | .ne => fun a b => a != b
  | .seq => fun a b => a.toList == b.toList
  | .sne => fun a b => !(a.toList == b.toList)
  | .wr => IntKind.wrap
  | .nat => Int.toNat
  | .sub => fun a b => a - b
  | .add => fun a b => a + b
  | .ixn => fun n i => 0 ≤ i ∧ i < n
  | .rng => fun a b c => a ≤ b ∧ b ≤ c
  | .irng => List.range
  | .iers => fun l i => l.erase i
  | .bd => fun a b => a + b ≤ 1000000

def mget (m : Mp) (es : List (m.κ × m.β)) (k : m.κ) : m.β :=
  match es.find? (fun p => @decide (p.1 = k) (m.eq _ _)) with
  | some p => p.2
  | none => m.d

def mhas (m : Mp) (es : List (m.κ × m.β)) (k : m.κ) : Bool := es.any fun p => @decide (p.1 = k) (m.eq _ _)

def mput (m : Mp) (es : List (m.κ × m.β)) (k : m.κ) (v : m.β) : List (m.κ × m.β) :=
  if mhas m es k then es.map fun p => if @decide (p.1 = k) (m.eq _ _) then (p.1, v) else p else es ++ [(k, v)]

variable {P : Program}

/-- What calls of yield are known to do (where there is a yield). -/
structure Cx where
  yl : Nat
  ok : Gh → World → Prop
  Y : List V → Heap → (Out → Heap → Prop) → Prop

def Cx.plain (yl : Nat) : Cx := { yl, ok := fun G _ => G.yl = yl, Y := fun _ _ _ => False }

def Fw (rnd : Option Nat) : Fence := { Fence.wide with round := rnd }

def endRel (G : Gh) (w : World) : Ending → Out → Prop
  | .returned v, .ret x => Rep G w v x
  | .panicked chain, .pan x => ∃ u, chain = [{ v := u, recovered := false }] ∧ Rep G w u x
  | _, _ => False

def callPost (n0 : Lim) (G : Gh) (w : World) (K : Out → Heap → Prop) (e : Ending) (w' : World) : Prop :=
  ∃ G' x H', endRel G' w' e x ∧ Ext n0 G w G' w' ∧ SimH G' w' H' ∧ K x H'

/-- A function that may be called: it has a body. -/
def Callable (P : Program) (f : Nat) : Prop := ∃ fn, P.funcs[f]? = some fn ∧ (fn.name == "runtime.NumGoroutine") = false ∧ fn.body.isNone = false

/-- **A contract.** -/
def CT (P : Program) (cx : Cx) (p : Ar) (f : Nat) (args : List V) (H : Heap) (K : Out → Heap → Prop) : Prop :=
  Callable P f ∧ ∀ (G : Gh) (w : World) (vs : Array Value), cx.ok G w → SimH G w H → RepL G w vs.toList args → CallsIn Fence.wide 0 P f vs w (callPost ⟨H.length, p⟩ G w K)

def YT (P : Program) (cx : Cx) (p : Ar) (args : List V) (H : Heap) (K : Out → Heap → Prop) : Prop :=
  ∀ (G : Gh) (w : World) (vs : Array Value), cx.ok G w → SimH G w H → RepL G w vs.toList args →
    ∃ f tmps assign body, (Instr.yield cx.yl vs).run P w = .ok (.round cx.yl f tmps assign body) w ∧ RoundIn Fence.wide 0 P cx.yl f tmps assign body w (callPost ⟨H.length, p⟩ G w K)

def xRel (G : Gh) (w : World) : Exit → X → Prop
  | .normal, .norm => True
  | .exit i, .exit j => i = j
  | .ret, .ret => True
  | .panic chain, .pan x => ∃ u, chain = [{ v := u, recovered := false }] ∧ Rep G w u x
  | _, _ => False

def relX (n0 : Lim) (G : Gh) (w : World) (Q : Post) (e : Exit) (a' : Act) (w' : World) : Prop :=
  ∃ x G' env' H', xRel G' w' e x ∧ Ext n0 G w G' w' ∧ Sim G' a' w' env' H' ∧ Q x env' H'

/-- **A triple.** -/
def T (P : Program) (cx : Cx) (rnd : Option Nat) (n0 : Lim) (c : Code) (Q : Post) (env : Env) (H : Heap) : Prop :=
  ∀ (G : Gh) (a : Act) (w : World), cx.ok G w → Sim G a w env H → c.wpIn (Fw rnd) 0 P (relX n0 G w Q) a w

structure Cx.Ok (cx : Cx) (n0 : Lim) : Prop where
  st : ∀ G w G' w', cx.ok G w → Ext n0 G w G' w' → cx.ok G' w'
  yl : ∀ G w, cx.ok G w → G.yl = cx.yl

theorem Cx.plain_ok (yl : Nat) (n0 : Lim) : (Cx.plain yl).Ok n0 := ⟨fun _ _ _ _ h e => e.yl.trans h, fun _ _ h => h⟩

/-- Arrays of the elder heap that move are among those that may. -/
def Lim.may (n0 : Lim) (p : Ar) : Prop := ∀ k, k < n0.n → p k = true → n0.p k = true

def reals (P : Program) (cx : Cx) (rnd : Option Nat) (n0 : Lim) : Sy := fun
  | .call => fun f args H K => ∃ p, n0.may p ∧ CT P cx p f args H (fun o H' => K o p H')
  | .yld => fun args H K => ∃ p, n0.may p ∧ YT P cx p args H (fun o H' => K o p H')
  | .mv => fun k _ => n0.may (eqk k)
  | .drw => fun _ => rnd = none ∧ P.follows .mixedOrders = true
  | .tri => T P cx rnd n0
  | .len => fun _ xs => (xs.length : Int)
  | .idx => fun _ xs i => 0 ≤ i ∧ i < (xs.length : Int)
  | .at_ => fun _ d xs i => xs.getD i d
  | .lit => fun ess i => ess.getD i []
  | .app => fun _ xs ys => xs ++ ys
  | .cut => fun _ xs i j => (xs.take j).drop i
  | .set => fun _ xs i x => xs.set i x
  | .rep => fun _ n x => List.replicate n x
  | .mget => mget
  | .mhas => mhas
  | .mput => mput
  | .mkey => fun m es i => match es[i]? with | some p => p.1 | none => m.kdec .und
  | .mval => fun m es i => match es[i]? with | some p => p.2 | none => m.d

/-! ### Operands -/
def holdsB (k : IntKind) (n : Int) : Bool := decide (k.min ≤ n) && decide (n ≤ k.max)

def okOpd : Operand → Bool
  | .const (.int k n) => holdsB k n
  | _ => true

theorem holds_has {k : IntKind} {n : Int} (h : holdsB k n = true) : k.has n := by
  simpa [holdsB, IntKind.has] using h

theorem wrap_has (k : IntKind) (n : Int) : k.has (k.wrap n) := by
  cases k <;> simp only [IntKind.has, IntKind.min, IntKind.max, IntKind.wrap, IntKind.signed, IntKind.bits] <;> simp <;> (try split) <;> omega

theorem rep_lit {G : Gh} {w : World} (v : Value) (h : okOpd (.const v) = true) : Rep G w v (litV v) := by
  cases v with
  | int k n => exact .int k n (holds_has h)
  | bool b => exact .bool b
  | string s => exact .str s
  | slice a l c =>
    unfold litV
    split <;> first | (rename_i h; cases h; exact .nils) | (rename_i h; cases h) | exact .und _
  | pointer a => cases a <;> first | exact .nilp | exact .und _
  | map a => cases a <;> first | exact .nilm | exact .und _
  | nilFunc => exact .nilf
  | nilIface => exact .nili
  | _ => exact .und _

theorem RepL.at {G : Gh} {w : World} {vs : List Value} {l : List V} (h : RepL G w vs l) (i : Nat) : Rep G w (vs.getD i undef) (l.getD i .und) := by
  simp only [List.getD_eq_getElem?_getD]
  cases hl : l[i]? with
  | none => simp only [Option.getD_none]; exact .und _
  | some x =>
    have hlt : i < vs.length := by rw [h.1]; exact (List.getElem?_eq_some_iff.1 hl).1
    rw [List.getElem?_eq_getElem hlt]
    exact h.2 i _ x (List.getElem?_eq_getElem hlt) hl

theorem rep_opd {G : Gh} {a : Act} {w : World} {env : Env} {H : Heap} (s : Sim G a w env H) (o : Operand) (h : okOpd o = true) : Rep G w (a.eval o) (opd env o) := by
  cases o with
  | tmp t =>
    have := s.env.at t
    simpa [Act.eval, opd, Array.getD_eq_getD_getElem?, List.getD_eq_getElem?_getD] using this
  | const v => exact rep_lit v h
  | global g => exact .und _
  | func f => exact .fn f #[] #[] [] [] rfl rfl (fun i c x hc => by simp at hc) (fun i c x hc => by simp at hc)

/-! ### One operation -/
/-- What an operation that calls nothing comes to. -/
def Done (P : Program) (n0 : Lim) (G : Gh) (a : Act) (w : World) (o : Oper) (K : Env → V → Heap → Prop) : Prop :=
  ∃ r v w', (execOp a.eval o).run P w = .ok r w' ∧ (r = .value v ∨ (r = .skip ∧ v = undef)) ∧
    ∃ G' env' x H', Ext n0 G w G' w' ∧ Sim G' a w' env' H' ∧ Rep G' w' v x ∧ K env' x H'

theorem Done.same {n0 : Lim} {G : Gh} {a : Act} {w : World} {o : Oper} {K : Env → V → Heap → Prop} {env : Env} {H : Heap} {v : Value} {x : V} (s : Sim G a w env H)
    (hr : (execOp a.eval o).run P w = .ok (.value v) w) (r : Rep G w v x) (h : K env x H) : Done P n0 G a w o K :=
  ⟨_, v, w, hr, .inl rfl, G, env, x, H, Ext.refl _ _ _, s, r, h⟩

/-- An operation that asks no world. -/
def DoneA (P : Program) (G : Gh) (a : Act) (w : World) (o : Oper) (K : Env → V → Heap → Prop) (env : Env) (H : Heap) : Prop :=
  ∃ v x, (∀ w, (execOp a.eval o).run P w = .ok (.value v) w) ∧ Rep G w v x ∧ K env x H

theorem DoneA.mk {G : Gh} {a : Act} {w : World} {o : Oper} {K : Env → V → Heap → Prop} {env : Env} {H : Heap} {v : Value} {x : V}
    (hr : ∀ w, (execOp a.eval o).run P w = .ok (.value v) w) (r : Rep G w v x) (h : K env x H) : DoneA P G a w o K env H := ⟨v, x, hr, r, h⟩

theorem DoneA.done {n0 : Lim} {G : Gh} {a : Act} {w : World} {o : Oper} {K : Env → V → Heap → Prop} {env : Env} {H : Heap} (d : DoneA P G a w o K env H) (s : Sim G a w env H) : Done P n0 G a w o K := by
  obtain ⟨v, x, hr, r, h⟩ := d
  exact Done.same s (hr w) r h

theorem Sim.put {G : Gh} {a : Act} {w : World} {env : Env} {H : Heap} (s : Sim G a w env H) (dst : Option Nat) {v : Value} {x : V} (r : Rep G w v x) :
    Sim G (a.put dst v) w (put env dst x) H := by
  cases dst with
  | none => exact s
  | some d =>
    refine ⟨s.h, ⟨by simpa [Act.put, Ab.put] using s.env.1, fun i c y hc hy => ?_⟩, s.marks, s.md, s.nd⟩
    simp only [Act.put, Ab.put, Array.toList_setIfInBounds] at hc hy
    rw [List.getElem?_set] at hc hy
    by_cases e : d = i
    · subst e
      simp only [if_true] at hc hy
      split at hc
      · split at hy
        · cases hc; cases hy; exact r
        · cases hy
      · cases hc
    · simp only [e, if_false] at hc hy
      exact s.env.2 i c y hc hy

/-- n values that operands are, of operands that may be. -/
theorem rep_opds {G : Gh} {a : Act} {w : World} {env : Env} {H : Heap} (s : Sim G a w env H) (l : List Operand) (h : l.all okOpd = true) : RepL G w (l.map a.eval) (l.map (opd env)) := by
  refine ⟨by simp, fun i c x hc hx => ?_⟩
  simp only [List.getElem?_map, Option.map_eq_some_iff] at hc hx
  obtain ⟨o, ho, rfl⟩ := hc
  obtain ⟨o', ho', rfl⟩ := hx
  rw [ho] at ho'; cases ho'
  exact rep_opd s o (List.all_eq_true.1 h o (List.mem_of_getElem? ho))

end Go.Ab

/- Operations that leave the world as it is: they do as the evaluator says. -/
namespace Go.Ab

def okOper (o : Oper) : Bool := o.op.operands.toList.all okOpd && (match o.guard with | some _ => true | none => true)

theorem okOper_mem {o : Oper} (h : okOper o = true) {x : Operand} (hx : x ∈ o.op.operands.toList) : okOpd x = true := by
  simp only [okOper, Bool.and_eq_true] at h
  exact List.all_eq_true.1 h.1 x hx

section
variable {P : Program} {n0 : Lim} {cx : Cx} {rnd : Option Nat} {tab : Tab} {D : List Nat} {G : Gh} {a : Act} {w : World} {env : Env} {H : Heap} {o : Oper} {K : Env → V → Heap → Prop}

theorem Rep.int_inv {v : Value} {k : IntKind} {n : Int} (h : Rep G w v (.int k n)) : v = .int k n ∧ k.has n := by cases h; exact ⟨rfl, ‹_›⟩
theorem Rep.bool_inv {v : Value} {b : Bool} (h : Rep G w v (.bool b)) : v = .bool b := by cases h; rfl
theorem Rep.str_inv {v : Value} {b : ByteArray} (h : Rep G w v (.str b)) : v = .string b := by cases h; rfl

theorem kn_inj {j k : IntKind} (h : Nat.beq (kn j) (kn k) = true) : j = k := by
  cases j <;> cases k <;> first | rfl | (simp [kn] at h)

theorem pure_move (s : Sim G a w env H) (x : Operand) (ho : o.op = .move x ∨ o.op = .assign x) (hk : okOper o = true) (h : K env (opd env x) H) : DoneA P G a w o K env H := by
  rcases ho with ho | ho <;>
    exact DoneA.mk (fun w => by simp [execOp, ho]) (rep_opd s x (okOper_mem hk (by simp [ho, Op.operands]))) h


theorem done_move (s : Sim G a w env H) (x : Operand) (ho : o.op = .move x ∨ o.op = .assign x) (hk : okOper o = true) (h : K env (opd env x) H) : Done P n0 G a w o K :=
  (pure_move s x ho hk h).done s

theorem pure_pick (s : Sim G a w env H) (c x y : Operand) (ho : o.op = .pick c x y) (hk : okOper o = true)
    (h : Op1 realz (reals P cx rnd n0) tab D (.pick c x y) o.dst env H K) : DoneA P G a w o K env H := by
  have rc := rep_opd s c (okOper_mem hk (by simp [ho, Op.operands]))
  have rx := rep_opd s x (okOper_mem hk (by simp [ho, Op.operands]))
  have ry := rep_opd s y (okOper_mem hk (by simp [ho, Op.operands]))
  simp only [Op1] at h
  split at h
  · rename_i b hb
    rw [hb] at rc
    have e := rc.bool_inv
    cases b
    · exact DoneA.mk (v := a.eval y) (fun w => by simp [execOp, ho, e, asBool]) ry h
    · exact DoneA.mk (v := a.eval x) (fun w => by simp [execOp, ho, e, asBool]) rx h
  · exact h.elim


theorem done_pick (s : Sim G a w env H) (c x y : Operand) (ho : o.op = .pick c x y) (hk : okOper o = true)
    (h : Op1 realz (reals P cx rnd n0) tab D (.pick c x y) o.dst env H K) : Done P n0 G a w o K :=
  (pure_pick s c x y ho hk h).done s

theorem arF_has {op : BinOp} {k : IntKind} {x y : Int} (hx : k.has x) (hok : arokF op k x y ∨ op = .add ∨ op = .sub ∨ op = .mul) : k.has (arF op k x y) := by
  have zero_in : k.min ≤ 0 ∧ 0 ≤ k.max := by cases k <;> decide
  cases op <;> simp only [arF] <;> first
    | exact wrap_has _ _
    | (simp [arokF] at hok; done)
    | skip
  · -- rem
    obtain ⟨h1, h2⟩ := hx
    have h0 : k.min ≤ 0 ∧ 0 ≤ k.max := zero_in
    have hb : (x.tmod y).natAbs ≤ x.natAbs := by rw [Int.natAbs_tmod]; exact Nat.mod_le _ _
    rcases Int.le_total 0 x with hx0 | hx0
    · have := Int.tmod_nonneg y hx0
      exact ⟨by omega, by omega⟩
    · have : x.tmod y ≤ 0 := by
        have h3 := Int.tmod_nonneg (a := -x) y (by omega)
        rw [Int.neg_tmod] at h3; omega
      exact ⟨by omega, by omega⟩
  · -- shr
    obtain ⟨h1, h2⟩ := hx
    have hp : (0 : Int) < 2 ^ (min y.toNat k.bits) := Int.pow_pos (by decide)
    rw [Int.fdiv_eq_ediv_of_nonneg _ (Int.le_of_lt hp)]
    generalize (2 : Int) ^ (min y.toNat k.bits) = p at hp
    have h0 : k.min ≤ 0 ∧ 0 ≤ k.max := zero_in
    rcases Int.le_total 0 x with hx0 | hx0
    · have e1 := Int.ediv_nonneg hx0 (Int.le_of_lt hp)
      have e2 := Int.ediv_le_self p hx0
      exact ⟨by omega, by omega⟩
    · have e1 : x / p ≤ 0 := by
        have := Int.ediv_le_ediv hp hx0
        simpa using this
      have e2 : x ≤ x / p := by
        rw [Int.le_ediv_iff_mul_le hp]
        have : x * p ≤ x * 1 := Int.mul_le_mul_of_nonpos_left hx0 (by omega)
        omega
      exact ⟨by omega, by omega⟩

theorem Rep.nils_inv {v : Value} (h : Rep G w v .nils) : v = .slice none 0 0 := by cases h; rfl

theorem eq_ptr_nil (t e : TypeId) (p : Option Addr) (h : P.underlying t = some (.pointer e)) (d : Nat) : (Op.equalIn (d + 1) t (.pointer p) (.pointer none)).run P w = .ok p.isNone w := by
  cases p <;> simp [Op.equalIn, run_underlying h]
theorem eq_fn_nil (t : TypeId) (p r : Array TypeId) (q : Bool) (f : Fn) (x y : Array Value) (h : P.underlying t = some (.func p r q)) (d : Nat) :
    (Op.equalIn (d + 1) t (.func f x y) .nilFunc).run P w = .ok false w := by
  simp [Op.equalIn, run_underlying h]
theorem eq_nilfn_nil (t : TypeId) (p r : Array TypeId) (q : Bool) (h : P.underlying t = some (.func p r q)) (d : Nat) : (Op.equalIn (d + 1) t .nilFunc .nilFunc).run P w = .ok true w := by
  simp [Op.equalIn, run_underlying h]

theorem Rep.agg2 {v : Value} {k k' : IntKind} {m n : Int} (h : Rep G w v (.agg [.int k m, .int k' n])) : v = .agg #[.int k m, .int k' n] ∧ k.has m ∧ k'.has n := by
  cases h with
  | agg cs l hn hh =>
    match cs, hn with
    | ⟨[c, d]⟩, _ =>
      have h0 := (hh 0 c _ rfl rfl).int_inv
      have h1 := (hh 1 d _ rfl rfl).int_inv
      rw [h0.1, h1.1]
      exact ⟨rfl, h0.2, h1.2⟩

theorem pure_bin (s : Sim G a w env H) (hT : ∀ t, TIok P t (tab t)) (op : BinOp) (t t' : TypeId) (x y : Operand) (ho : o.op = .binOp op t x y t') (hk : okOper o = true)
    (h : Op1 realz (reals P cx rnd n0) tab D (.binOp op t x y t') o.dst env H K) : DoneA P G a w o K env H := by
  have rx := rep_opd s x (okOper_mem hk (by simp [ho, Op.operands]))
  have ry := rep_opd s y (okOper_mem hk (by simp [ho, Op.operands]))
  simp only [Op1] at h
  generalize opd env x = xv at h rx
  generalize opd env y = yv at h ry
  unfold bin at h
  split at h
  · -- ints
    rename_i k m k' n
    obtain ⟨ex, hm⟩ := rx.int_inv
    obtain ⟨ey, hn⟩ := ry.int_inv
    cases op
    case shl =>
      refine DoneA.mk (v := .int k (arF .shl k m n)) ?_ (.int _ _ (arF_has hm (.inl h.1))) h.2
      have h0 : ¬ n < 0 := by have := h.1; simp [realz, arokF] at this; omega
      simp [execOp, ho, ex, ey, eqGuard, Go.binOp, Op.shift, h0, arF]
    case shr =>
      refine DoneA.mk (v := .int k (arF .shr k m n)) ?_ (.int _ _ (arF_has hm (.inl h.1))) h.2
      have h0 : ¬ n < 0 := by have := h.1; simp [realz, arokF] at this; omega
      simp [execOp, ho, ex, ey, eqGuard, Go.binOp, Op.shift, h0, arF]
    all_goals
      simp only at h
      cases hkk : Nat.beq (kn k) (kn k') with
      | false => rw [hkk] at h; exact h.elim
      | true =>
        rw [hkk] at h
        have e := kn_inj hkk
        subst e
        simp only [cond_true, binI] at h
        first
          | exact DoneA.mk (v := .bool (realz .eq m n)) (fun w => by simp [execOp, ho, ex, ey, eqGuard, Go.binOp, Op.intCmp, realz]) (.bool _) h
          | exact DoneA.mk (v := .bool (realz .ne m n)) (fun w => by simp [execOp, ho, ex, ey, eqGuard, Go.binOp, Op.intCmp, realz]) (.bool _) h
          | exact DoneA.mk (v := .bool (realz .lt m n)) (fun w => by simp [execOp, ho, ex, ey, eqGuard, Go.binOp, Op.intCmp, realz]) (.bool _) h
          | exact DoneA.mk (v := .bool (realz .le m n)) (fun w => by simp [execOp, ho, ex, ey, eqGuard, Go.binOp, Op.intCmp, realz]) (.bool _) h
          | exact DoneA.mk (v := .bool (realz .lt n m)) (fun w => by simp [execOp, ho, ex, ey, eqGuard, Go.binOp, Op.intCmp, realz]) (.bool _) h
          | exact DoneA.mk (v := .bool (realz .le n m)) (fun w => by simp [execOp, ho, ex, ey, eqGuard, Go.binOp, Op.intCmp, realz]) (.bool _) h
          | exact DoneA.mk (v := .int k (arF .add k m n)) (fun w => by simp [execOp, ho, ex, ey, eqGuard, Go.binOp, Op.intArith, arF]) (.int _ _ (wrap_has _ _)) h
          | exact DoneA.mk (v := .int k (arF .sub k m n)) (fun w => by simp [execOp, ho, ex, ey, eqGuard, Go.binOp, Op.intArith, arF]) (.int _ _ (wrap_has _ _)) h
          | exact DoneA.mk (v := .int k (arF .mul k m n)) (fun w => by simp [execOp, ho, ex, ey, eqGuard, Go.binOp, Op.intArith, arF]) (.int _ _ (wrap_has _ _)) h
          | (refine DoneA.mk (v := .int k (arF .quo k m n)) ?_ (.int _ _ (wrap_has _ _)) h.2; have h0 : ¬ n = 0 := h.1; simp [execOp, ho, ex, ey, eqGuard, Go.binOp, Op.intDiv, h0, arF])
          | (refine DoneA.mk (v := .int k (arF .rem k m n)) ?_ (.int _ _ (arF_has hm (.inl h.1))) h.2; have h0 : ¬ n = 0 := h.1; simp [execOp, ho, ex, ey, eqGuard, Go.binOp, Op.intDiv, h0, arF])
          | exact DoneA.mk (v := .int k (arF .and k m n)) (fun w => by simp [execOp, ho, ex, ey, eqGuard, Go.binOp, Op.intBits, arF]) (.int _ _ (wrap_has _ _)) h.2
          | exact DoneA.mk (v := .int k (arF .or k m n)) (fun w => by simp [execOp, ho, ex, ey, eqGuard, Go.binOp, Op.intBits, arF]) (.int _ _ (wrap_has _ _)) h.2
          | exact DoneA.mk (v := .int k (arF .xor k m n)) (fun w => by simp [execOp, ho, ex, ey, eqGuard, Go.binOp, Op.intBits, arF]) (.int _ _ (wrap_has _ _)) h.2
          | exact DoneA.mk (v := .int k (arF .andNot k m n)) (fun w => by simp [execOp, ho, ex, ey, eqGuard, Go.binOp, Op.intBits, arF]) (.int _ _ (wrap_has _ _)) h.2
          | exact (h.1 : False).elim
  · -- bools
    rename_i b c
    have ex := rx.bool_inv
    have ey := ry.bool_inv
    split at h
    · rename_i hc
      have hub := (hT t).cb hc
      cases b <;> cases c <;> exact DoneA.mk (v := .bool _) (fun w => by simp [execOp, ho, ex, ey, eqGuard, run_eql_bool w t _ _ hub]) (.bool _) h
    · rename_i hc
      have hub := (hT t).cb hc
      cases b <;> cases c <;> exact DoneA.mk (v := .bool _) (fun w => by simp [execOp, ho, ex, ey, eqGuard, run_neq_bool w t _ _ hub]) (.bool _) h
    · exact h.elim
  · -- strings
    rename_i b c
    have ex := rx.str_inv
    have ey := ry.str_inv
    split at h
    · exact DoneA.mk (v := .bool (realz .seq b c)) (fun w => by simp [execOp, ho, ex, ey, eqGuard, Go.binOp, Op.stringOp, realz]) (.bool _) h
    · exact DoneA.mk (v := .bool (realz .sne b c)) (fun w => by simp [execOp, ho, ex, ey, eqGuard, Go.binOp, Op.stringOp, realz]) (.bool _) h
    · exact h.elim
  · -- a list, and nil
    rename_i α d n enc fl xs
    have ey := ry.nils_inv
    generalize hv : a.eval x = v at rx
    cases rx with
    | sl _ _ _ _ _ _ _ hl =>
      cases hl with
      | lit _ _ _ ad cap f hlen hm hf hnone hp hx hfl hc hr =>
        have hnil : ad.isNone = true → xs = [] := fun e => by
          have := (hnone (Option.isNone_iff_eq_none.1 e)).1
          simpa using this
        split at h
        · rename_i hc
          obtain ⟨e, hu⟩ := (hT t).cs hc
          exact DoneA.mk (v := .bool ad.isNone) (fun w => by simp [execOp, ho, hv, ey, eqGuard, Lib.run_eql_slice_nil w t e _ _ _ _ _ hu]) (.bool _) (h _ hnil)
        · rename_i hc
          obtain ⟨e, hu⟩ := (hT t).cs hc
          exact DoneA.mk (v := .bool (!ad.isNone)) (fun w => by simp [execOp, ho, hv, ey, eqGuard, run_neq_slice_nil_any w t e _ _ _ _ _ hu]) (.bool _) (h _ (fun e => hnil (by simpa using e)))
        · exact h.elim
  · -- nil, and nil
    have ex := rx.nils_inv
    have ey := ry.nils_inv
    split at h
    · rename_i hc
      obtain ⟨e, hu⟩ := (hT t).cs hc
      exact DoneA.mk (v := .bool true) (fun w => by simp [execOp, ho, ex, ey, eqGuard, Lib.run_eql_slice_nil w t e _ _ _ _ _ hu]) (.bool _) h
    · rename_i hc
      obtain ⟨e, hu⟩ := (hT t).cs hc
      exact DoneA.mk (v := .bool false) (fun w => by simp [execOp, ho, ex, ey, eqGuard, run_neq_slice_nil_any w t e _ _ _ _ _ hu]) (.bool _) h
    · exact h.elim
  · -- a literal, and nil
    have ey := ry.nils_inv
    generalize hv : a.eval x = v at rx
    cases rx with
    | lit _ _ _ ad cap f hlen hm hf hnone hp hx hfl hc hr =>
      split at h
      · rename_i hc
        obtain ⟨e, hu⟩ := (hT t).cs hc
        exact DoneA.mk (v := .bool ad.isNone) (fun w => by simp [execOp, ho, hv, ey, eqGuard, Lib.run_eql_slice_nil w t e _ _ _ _ _ hu]) (.bool _) (h _)
      · rename_i hc
        obtain ⟨e, hu⟩ := (hT t).cs hc
        exact DoneA.mk (v := .bool (!ad.isNone)) (fun w => by simp [execOp, ho, hv, ey, eqGuard, run_neq_slice_nil_any w t e _ _ _ _ _ hu]) (.bool _) (h _)
      · exact h.elim
  · -- a pointer, and nil
    generalize hv : a.eval x = v at rx
    generalize hu' : a.eval y = u at ry
    cases rx
    cases ry
    split at h
    · rename_i hc
      obtain ⟨e, hu⟩ := (hT t).cp hc
      exact DoneA.mk (v := .bool false) (fun w => by simp only [execOp, ho, hv, hu', eqGuard, Go.binOp]; simp [Op.equal, Op.maxDepth, eq_ptr_nil t e _ hu 9999]) (.bool _) h
    · rename_i hc
      obtain ⟨e, hu⟩ := (hT t).cp hc
      exact DoneA.mk (v := .bool true) (fun w => by simp only [execOp, ho, hv, hu', eqGuard, Go.binOp]; simp [Op.equal, Op.maxDepth, eq_ptr_nil t e _ hu 9999]) (.bool _) h
    · exact h.elim
  · generalize hv : a.eval x = v at rx
    generalize hu' : a.eval y = u at ry
    cases rx
    cases ry
    split at h
    · rename_i hc
      obtain ⟨e, hu⟩ := (hT t).cp hc
      exact DoneA.mk (v := .bool true) (fun w => by simp only [execOp, ho, hv, hu', eqGuard, Go.binOp]; simp [Op.equal, Op.maxDepth, eq_ptr_nil t e _ hu 9999]) (.bool _) h
    · rename_i hc
      obtain ⟨e, hu⟩ := (hT t).cp hc
      exact DoneA.mk (v := .bool false) (fun w => by simp only [execOp, ho, hv, hu', eqGuard, Go.binOp]; simp [Op.equal, Op.maxDepth, eq_ptr_nil t e _ hu 9999]) (.bool _) h
    · exact h.elim
  · generalize hv : a.eval x = v at rx
    generalize hu' : a.eval y = u at ry
    cases rx
    cases ry
    split at h
    · rename_i hc
      obtain ⟨p, r, q, hu⟩ := (hT t).cf hc
      exact DoneA.mk (v := .bool false) (fun w => by simp only [execOp, ho, hv, hu', eqGuard, Go.binOp]; simp [Op.equal, Op.maxDepth, eq_fn_nil t p r q _ _ _ hu 9999]) (.bool _) h
    · rename_i hc
      obtain ⟨p, r, q, hu⟩ := (hT t).cf hc
      exact DoneA.mk (v := .bool true) (fun w => by simp only [execOp, ho, hv, hu', eqGuard, Go.binOp]; simp [Op.equal, Op.maxDepth, eq_fn_nil t p r q _ _ _ hu 9999]) (.bool _) h
    · exact h.elim
  · generalize hv : a.eval x = v at rx
    generalize hu' : a.eval y = u at ry
    cases rx
    cases ry
    split at h
    · rename_i hc
      obtain ⟨p, r, q, hu⟩ := (hT t).cf hc
      exact DoneA.mk (v := .bool true) (fun w => by simp only [execOp, ho, hv, hu', eqGuard, Go.binOp]; simp [Op.equal, Op.maxDepth, eq_nilfn_nil t p r q hu 9999]) (.bool _) h
    · rename_i hc
      obtain ⟨p, r, q, hu⟩ := (hT t).cf hc
      exact DoneA.mk (v := .bool false) (fun w => by simp only [execOp, ho, hv, hu', eqGuard, Go.binOp]; simp [Op.equal, Op.maxDepth, eq_nilfn_nil t p r q hu 9999]) (.bool _) h
    · exact h.elim
  · -- structs
    rename_i xs ys
    generalize hv : a.eval x = v at rx
    generalize hu' : a.eval y = u at ry
    unfold binA at h
    split at h
    · exact h.elim
    rename_i he
    obtain ⟨hg, hq⟩ := (hT t).eq2 he
    split at h
    · rename_i a1 b1 c1 d1
      obtain ⟨rfl, _, _⟩ := rx.agg2
      obtain ⟨rfl, _, _⟩ := ry.agg2
      have hbe : ∀ p q : Int, realz .eq p q = (p == q) := fun _ _ => rfl
      split at h
      · refine DoneA.mk (v := .bool (a1 == c1 && b1 == d1)) (fun w => ?_) (.bool _) ?_
        · simp [execOp, ho, hv, hu', run_eqGuard_agg w _ t x y _ _ hg, run_eql_struct w t, hq w, Result.andThen]
        · rw [hbe] at h
          cases h1 : a1 == c1 <;> rw [h1] at h <;> exact h
      · refine DoneA.mk (v := .bool (!(a1 == c1 && b1 == d1))) (fun w => ?_) (.bool _) ?_
        · simp [execOp, ho, hv, hu', run_eqGuard_agg w _ t x y _ _ hg, run_neq_struct w t, hq w, Result.andThen]
        · rw [hbe] at h
          cases h1 : a1 == c1 <;> rw [h1] at h <;> exact h
      · exact h.elim
    · exact h.elim
  · exact h.elim

theorem done_bin (s : Sim G a w env H) (hT : ∀ t, TIok P t (tab t)) (op : BinOp) (t t' : TypeId) (x y : Operand) (ho : o.op = .binOp op t x y t') (hk : okOper o = true)
    (h : Op1 realz (reals P cx rnd n0) tab D (.binOp op t x y t') o.dst env H K) : Done P n0 G a w o K :=
  (pure_bin s hT op t t' x y ho hk h).done s

end
end Go.Ab

/- More operations that leave the world as it is. -/
namespace Go.Ab
section
variable {P : Program} {n0 : Lim} {cx : Cx} {rnd : Option Nat} {tab : Tab} {D : List Nat} {G : Gh} {a : Act} {w : World} {env : Env} {H : Heap} {o : Oper} {K : Env → V → Heap → Prop}

theorem pure_nilCheck (s : Sim G a w env H) (x : Operand) (ho : o.op = .nilCheck x) (hk : okOper o = true)
    (h : Op1 realz (reals P cx rnd n0) tab D (.nilCheck x) o.dst env H K) : DoneA P G a w o K env H := by
  have rx := rep_opd s x (okOper_mem hk (by simp [ho, Op.operands]))
  simp only [Op1] at h
  generalize opd env x = xv at h rx
  generalize hv : a.eval x = v at rx
  split at h
  · cases rx; rename_i hk'; exact DoneA.mk (fun w => by simp [execOp, ho, hv]) (.ptr _ _ hk') h
  · have rx' := rx; cases rx; exact DoneA.mk (fun w => by simp [execOp, ho, hv]) rx' h
  · have rx' := rx
    cases rx with
    | pe k n i off _ hk' hh =>
      have hp : ∃ p, v = .pointer (some p) := by
        unfold peOf at hh
        split at hh
        · split at hh <;> simp at hh
          exact ⟨_, hh.symm⟩
        · simp at hh
      obtain ⟨p, rfl⟩ := hp
      exact DoneA.mk (fun w => by simp [execOp, ho, hv]) rx' h
  · have rx' := rx; cases rx; exact DoneA.mk (fun w => by simp [execOp, ho, hv]) rx' h
  · exact h.elim


theorem done_nilCheck (s : Sim G a w env H) (x : Operand) (ho : o.op = .nilCheck x) (hk : okOper o = true)
    (h : Op1 realz (reals P cx rnd n0) tab D (.nilCheck x) o.dst env H K) : Done P n0 G a w o K :=
  (pure_nilCheck s x ho hk h).done s

theorem pure_unOp (s : Sim G a w env H) (u : UnOp) (t : TypeId) (x : Operand) (ho : o.op = .unOp u t x) (hk : okOper o = true)
    (h : Op1 realz (reals P cx rnd n0) tab D (.unOp u t x) o.dst env H K) : DoneA P G a w o K env H := by
  have rx := rep_opd s x (okOper_mem hk (by simp [ho, Op.operands]))
  simp only [Op1] at h
  generalize opd env x = xv at h rx
  split at h
  · have e := rx.bool_inv
    exact DoneA.mk (v := .bool _) (fun w => by simp [execOp, ho, e, Op.unary]) (.bool _) h
  · obtain ⟨e, _⟩ := rx.int_inv
    exact DoneA.mk (v := .int _ _) (fun w => by simp [execOp, ho, e, Op.unary, Op.intArith]) (.int _ _ (wrap_has _ _)) h
  · exact h.elim


theorem done_unOp (s : Sim G a w env H) (u : UnOp) (t : TypeId) (x : Operand) (ho : o.op = .unOp u t x) (hk : okOper o = true)
    (h : Op1 realz (reals P cx rnd n0) tab D (.unOp u t x) o.dst env H K) : Done P n0 G a w o K :=
  (pure_unOp s u t x ho hk h).done s

theorem pure_convert (s : Sim G a w env H) (hT : ∀ t, TIok P t (tab t)) (src dst : TypeId) (x : Operand) (ho : o.op = .convert src dst x) (hk : okOper o = true)
    (h : Op1 realz (reals P cx rnd n0) tab D (.convert src dst x) o.dst env H K) : DoneA P G a w o K env H := by
  have rx := rep_opd s x (okOper_mem hk (by simp [ho, Op.operands]))
  simp only [Op1] at h
  generalize opd env x = xv at h rx
  split at h
  · rename_i ks k _ n hks hkk
    obtain ⟨e, _⟩ := rx.int_inv
    have hd := (hT src).kind _ hks
    have hu := (hT dst).kind _ hkk
    exact DoneA.mk (v := .int k (k.wrap n)) (fun w => by simp [execOp, ho, e, Go.convert, run_underlying hd, run_underlying hu, Conv.intToInt]) (.int _ _ (wrap_has _ _)) h
  · exact h.elim


theorem done_convert (s : Sim G a w env H) (hT : ∀ t, TIok P t (tab t)) (src dst : TypeId) (x : Operand) (ho : o.op = .convert src dst x) (hk : okOper o = true)
    (h : Op1 realz (reals P cx rnd n0) tab D (.convert src dst x) o.dst env H K) : Done P n0 G a w o K :=
  (pure_convert s hT src dst x ho hk h).done s

theorem pure_makeFunc (s : Sim G a w env H) (f : FuncId) (first cap : Array Operand) (ho : o.op = .makeFunc (.func f) first cap) (hk : okOper o = true)
    (h : Op1 realz (reals P cx rnd n0) tab D (.makeFunc (.func f) first cap) o.dst env H K) : DoneA P G a w o K env H := by
  simp only [Op1] at h
  have h1 := rep_opds s first.toList (List.all_eq_true.2 fun x hx => okOper_mem hk (by simp [ho, Op.operands]; exact .inl (by simpa using hx)))
  have h2 := rep_opds s cap.toList (List.all_eq_true.2 fun x hx => okOper_mem hk (by simp [ho, Op.operands]; exact .inr (by simpa using hx)))
  refine DoneA.mk (v := .func (.func f) (first.map a.eval) (cap.map a.eval)) (fun w => by simp [execOp, ho, Instr.makeFunc]) ?_ h
  exact .fn f _ _ _ _ (by simp) (by simp) (fun i c x hc hx => h1.2 i c x (by simpa using hc) hx) (fun i c x hc hx => h2.2 i c x (by simpa using hc) hx)


theorem done_makeFunc (s : Sim G a w env H) (f : FuncId) (first cap : Array Operand) (ho : o.op = .makeFunc (.func f) first cap) (hk : okOper o = true)
    (h : Op1 realz (reals P cx rnd n0) tab D (.makeFunc (.func f) first cap) o.dst env H K) : Done P n0 G a w o K :=
  (pure_makeFunc s f first cap ho hk h).done s

theorem pure_extract (s : Sim G a w env H) (x : Operand) (i : Nat) (ho : o.op = .extract x i) (hk : okOper o = true)
    (h : Op1 realz (reals P cx rnd n0) tab D (.extract x i) o.dst env H K) : DoneA P G a w o K env H := by
  have rx := rep_opd s x (okOper_mem hk (by simp [ho, Op.operands]))
  simp only [Op1] at h
  generalize opd env x = xv at h rx
  generalize hv : a.eval x = v at rx
  split at h
  · cases rx with
    | tuple cs l hn hh =>
      split at h
      · rename_i y hy
        have hlt : i < cs.size := by rw [hn]; exact (List.getElem?_eq_some_iff.1 hy).1
        exact DoneA.mk (v := cs[i]) (fun w => by simp [execOp, ho, hv, Instr.extract, Array.getElem?_eq_getElem hlt]) (hh i _ _ (Array.getElem?_eq_getElem hlt) hy) h
      · exact h.elim
  · exact h.elim


theorem done_extract (s : Sim G a w env H) (x : Operand) (i : Nat) (ho : o.op = .extract x i) (hk : okOper o = true)
    (h : Op1 realz (reals P cx rnd n0) tab D (.extract x i) o.dst env H K) : Done P n0 G a w o K :=
  (pure_extract s x i ho hk h).done s

/-- A part of a row of cells, as the model takes it. -/
theorem run_part {t : TypeId} {i : TypeInfo} {d : TypeDesc} (hi : P.info? t = some i) (hd : P.underlying t = some d) (cs : Array Value) (off : Nat) (hs : 0 < i.size) (hle : off + i.size ≤ cs.size) (ha : isAggD d = false → i.size = 1) :
    (Go.part t cs off).run P w = .ok (if isAggD d then .agg (cs.extract off (off + i.size)) else cs.getD off undef) w := by
  have hlt : off < cs.size := by omega
  cases d <;> simp [Go.part, isAgg, run_underlying hd, sizeOf, typeInfo, hi, isAggD, Array.getElem?_eq_getElem hlt, Array.getD_eq_getD_getElem?]

theorem rep_part {cs : Array Value} {l : List V} (h : Rep G w (.agg cs) (.agg l)) (off size : Nat) (ag : Bool) (hle : off + size ≤ cs.size) :
    Rep G w (if ag = true then .agg (cs.extract off (off + size)) else cs.getD off undef) (fieldOf l off size ag) := by
  cases h with
  | agg _ _ hn hh =>
    cases ag with
    | true =>
      simp only [if_true, fieldOf, cond_true]
      refine .agg _ _ (by simp; omega) (fun i c x hc hx => ?_)
      rw [Array.getElem?_extract] at hc
      rw [List.getElem?_take, List.getElem?_drop] at hx
      split at hx
      · split at hc
        · exact hh (off + i) c x hc hx
        · cases hc
      · cases hx
    | false =>
      simp only [Bool.false_eq_true, if_false, fieldOf, cond_false]
      have := RepL.at (G := G) (w := w) (vs := cs.toList) (l := l) ⟨by simpa using hn, fun i c x hc hx => hh i c x (by simpa using hc) hx⟩ off
      simpa [Array.getD_eq_getD_getElem?, List.getD_eq_getElem?_getD] using this

theorem mapM_get {α β : Type} {f : α → Option β} : ∀ {l : List α} {r : List β}, l.mapM f = some r → ∀ (i : Nat) (y : β), r[i]? = some y → ∃ x, l[i]? = some x ∧ f x = some y
  | [], r, h, i, y, hy => by simp at h; subst h; simp at hy
  | x :: l, r, h, i, y, hy => by
    simp only [List.mapM_cons, Option.bind_eq_bind, Option.pure_def, Option.bind_eq_some_iff] at h
    obtain ⟨z, hz, r', hr, he⟩ := h
    cases he
    cases i with
    | zero => simp at hy; subst hy; exact ⟨x, rfl, hz⟩
    | succ i => simp at hy; exact mapM_get hr i y hy

/-- A field of a struct's type. -/
theorem field_ok (hT : ∀ t, TIok P t (tab t)) {t f off size : Nat} {ag : Bool} (h : (tab t).fs[f]? = some (off, size, ag)) :
    ∃ fields fld i d, P.underlying t = some (.struct fields) ∧ fields[f]? = some fld ∧ fld.offset = off ∧ P.info? fld.type = some i ∧ i.size = size ∧ 0 < size ∧ P.underlying fld.type = some d ∧ isAggD d = ag ∧ (ag = false → size = 1) := by
  obtain ⟨fields, hu, hm, hp⟩ := (hT t).st (by intro e; rw [e] at h; simp at h)
  obtain ⟨fld, hf, hx⟩ := mapM_get hm f _ h
  simp only [Option.bind_eq_some_iff, Option.map_eq_some_iff] at hx
  obtain ⟨i, hi, d, hd, he⟩ := hx
  simp only [Prod.mk.injEq] at he
  obtain ⟨rfl, rfl, rfl⟩ := he
  exact ⟨fields, fld, i, d, hu, by simpa using hf, rfl, hi, rfl, (hp _ (List.mem_of_getElem? h)).1, hd, rfl, (hp _ (List.mem_of_getElem? h)).2⟩

theorem add_add (p : Addr) (i j : Nat) (hs : p.spot = none) : (p.add i).add j = p.add (i + j) := by
  unfold Addr.add
  cases p
  simp only at hs
  subst hs
  by_cases hi : i = 0 <;> by_cases hj : j = 0 <;> simp [hi, hj, Nat.add_assoc]

theorem add_spot (p : Addr) (i : Nat) (hs : p.spot = none) : (p.add i).spot = none := by unfold Addr.add; split <;> simp_all
theorem add_block (p : Addr) (i : Nat) : (p.add i).block = p.block := by unfold Addr.add; split <;> rfl

/-- Further on among persistent cells. -/
theorem rep_pp_drop {p : Addr} {cs : List V} (h : Rep G w (.pointer (some p)) (.pp cs)) (i : Nat) : Rep G w (.pointer (some (p.add i))) (.pp (cs.drop i)) := by
  cases h with
  | pp _ _ f hp hs hfl hc hr =>
    exact .pp _ _ (fun j => f (i + j)) (by rw [add_block]; exact hp) (add_spot _ _ hs) (fun y hy => hfl y (List.mem_of_mem_drop hy))
      (fun j y hy => by rw [add_add _ _ _ hs]; exact hc (i + j) y (by rwa [List.getElem?_drop] at hy))
      (fun j y hy => hr (i + j) y (by rwa [List.getElem?_drop] at hy))

theorem peOf_add {v : Value} {n i off k : Nat} {p : Addr} (h : peOf v n i off = some (.pointer (some p))) (hs : ∀ q m c, v = .slice (some q) m c → q.spot = none) : peOf v n i (off + k) = some (.pointer (some (p.add k))) := by
  unfold peOf at h ⊢
  split at h
  · split at h
    · rename_i q m c hlt
      simp only [Option.some.injEq, Value.pointer.injEq] at h
      subst h
      rw [if_pos hlt, add_add _ _ _ (hs _ _ _ rfl), Nat.add_assoc]
    · cases h
  · cases h

theorem peOf_ptr {v u : Value} {n i off : Nat} (h : peOf v n i off = some u) : ∃ p, u = .pointer (some p) := by
  unfold peOf at h
  split at h
  · split at h
    · cases h; exact ⟨_, rfl⟩
    · cases h
  · cases h

/-- An owned array's own slice. -/
theorem SimH.arv_spot {k e : Nat} {el : El} {xs : List el.α} (s : SimH G w H) (hk : H[k]? = some (.arr e el xs)) {q : Addr} {m c : Nat} (h : G.arv k = .slice (some q) m c) : q.off = 0 ∧ q.spot = none ∧ m = xs.length := by
  have := s.rep k _ hk
  obtain ⟨_, vs, hown, _⟩ := this
  rcases hown.2 with ⟨h1, _⟩ | ⟨g, cap, cur, h1, _⟩
  · rw [h] at h1; cases h1
  · rw [h] at h1; cases h1; exact ⟨rfl, rfl, rfl⟩

theorem pure_fieldAddr (s : Sim G a w env H) (hT : ∀ t, TIok P t (tab t)) (t : TypeId) (x : Operand) (f : Nat) (ho : o.op = .fieldAddr t x f) (hk : okOper o = true)
    (h : Op1 realz (reals P cx rnd n0) tab D (.fieldAddr t x f) o.dst env H K) : DoneA P G a w o K env H := by
  have rx := rep_opd s x (okOper_mem hk (by simp [ho, Op.operands]))
  simp only [Op1] at h
  split at h
  · rename_i off size ag hf
    obtain ⟨fields, fld, i, d, hu, hfl, rfl, hi, hsz, h0, _, _⟩ := field_ok hT hf
    have hne : i.size ≠ 0 := by omega
    have run : ∀ p, a.eval x = .pointer (some p) → ∀ w, (execOp a.eval o).run P w = .ok (.value (.pointer (some (p.add fld.offset)))) w := fun p hp => by
      simp [execOp, ho, hp, Instr.fieldAt, run_underlying hu, hfl, Instr.sureAddr, fieldPlace, sizeOf, typeInfo, hi, hne]
    generalize opd env x = xv at h rx
    generalize hv : a.eval x = v at rx
    split at h
    · have rx' := rx
      cases rx with
      | pp _ p _ _ _ _ _ _ => exact DoneA.mk (run _ hv) (rep_pp_drop rx' _) h
    · rename_i k o'
      cases rx with
      | ptr _ _ hk' =>
        refine DoneA.mk (run _ hv) ?_ h
        have := Rep.ptr (G := G) (w := w) k (o' + fld.offset) hk'
        have e : (⟨G.blk k, o', none⟩ : Addr).add fld.offset = ⟨G.blk k, o' + fld.offset, none⟩ := by unfold Addr.add; split <;> simp_all
        rw [e]; exact this
    · rename_i k n j off
      split at h
      case h_2 => exact h.elim
      rename_i hb
      cases rx with
      | pe _ _ _ _ _ hk' hh =>
        obtain ⟨p, rfl⟩ := peOf_ptr hh
        exact DoneA.mk (run _ hv) (.pe _ _ _ _ _ hk' (peOf_add hh (fun q m c hq => (s.h.arv_spot hb hq).2.1))) h
    · exact h.elim
  · exact h.elim


theorem done_fieldAddr (s : Sim G a w env H) (hT : ∀ t, TIok P t (tab t)) (t : TypeId) (x : Operand) (f : Nat) (ho : o.op = .fieldAddr t x f) (hk : okOper o = true)
    (h : Op1 realz (reals P cx rnd n0) tab D (.fieldAddr t x f) o.dst env H K) : Done P n0 G a w o K :=
  (pure_fieldAddr s hT t x f ho hk h).done s

theorem done_field (s : Sim G a w env H) (hT : ∀ t, TIok P t (tab t)) (t : TypeId) (x : Operand) (f : Nat) (ho : o.op = .field t x f) (hk : okOper o = true)
    (h : Op1 realz (reals P cx rnd n0) tab D (.field t x f) o.dst env H K) : Done P n0 G a w o K := by
  have rx := rep_opd s x (okOper_mem hk (by simp [ho, Op.operands]))
  simp only [Op1] at h
  split at h
  · rename_i off size ag cs hf hx
    obtain ⟨fields, fld, i, d, hu, hfl, rfl, hi, hsz', h0, hd, rfl, h1⟩ := field_ok hT hf
    cases hb : Nat.ble (fld.offset + size) cs.length with
    | false => rw [hb] at h; exact h.elim
    | true =>
    rw [hb] at h
    have hle := Nat.le_of_ble_eq_true hb
    rw [hx] at rx
    generalize hv : a.eval x = v at rx
    have rx' := rx
    cases rx with
    | agg vs _ hn hh =>
      have hle' : fld.offset + i.size ≤ vs.size := by rw [hn]; omega
      have hp := run_part (P := P) (w := w) hi hd vs fld.offset (by omega) hle' (fun e => by rw [hsz']; exact h1 e)
      refine Done.same s (v := _) (by simp [execOp, ho, hv, Instr.field, run_underlying hu, hfl, asAgg, hp]; rfl) ?_ h
      have := rep_part rx' fld.offset size (isAggD d) (by rw [← hsz']; exact hle')
      rw [Array.getD_eq_getD_getElem?] at this
      rw [hsz']
      exact this
  · exact h.elim

end
end Go.Ab

/- Places in slices and arrays, parts of slices, literals, lengths. -/
namespace Go.Ab
section
variable {P : Program} {n0 : Lim} {cx : Cx} {rnd : Option Nat} {tab : Tab} {D : List Nat} {G : Gh} {a : Act} {w : World} {env : Env} {H : Heap} {o : Oper} {K : Env → V → Heap → Prop}

theorem flatten_get {α : Type _} {n : Nat} : ∀ {ess : List (List α)}, (∀ c ∈ ess, c.length = n) → ∀ (i j : Nat) (c : List α), ess[i]? = some c → j < n → ess.flatten[i * n + j]? = c[j]?
  | [], _, i, j, c, h, _ => by simp at h
  | e :: ess, hl, i, j, c, h, hj => by
    have he : e.length = n := hl e (by simp)
    cases i with
    | zero =>
      simp at h; subst h
      rw [List.flatten_cons, Nat.zero_mul, Nat.zero_add, List.getElem?_append_left (by omega)]
    | succ i =>
      simp at h
      rw [List.flatten_cons, List.getElem?_append_right (by rw [he, Nat.succ_mul]; omega)]
      have : (i + 1) * n + j - e.length = i * n + j := by rw [he, Nat.succ_mul]; omega
      rw [this]
      exact flatten_get (fun c hc => hl c (by simp [hc])) i j c h hj

theorem flatten_len {α : Type _} {n : Nat} : ∀ {ess : List (List α)}, (∀ c ∈ ess, c.length = n) → ess.flatten.length = ess.length * n
  | [], _ => by simp
  | e :: ess, hl => by
    have := flatten_len (ess := ess) (fun c hc => hl c (by simp [hc]))
    simp [hl e (by simp), this, Nat.succ_mul, Nat.add_comm]

theorem flatten_take {α : Type _} {n : Nat} : ∀ {ess : List (List α)}, (∀ c ∈ ess, c.length = n) → ∀ i, (ess.take i).flatten = ess.flatten.take (i * n)
  | [], _, i => by simp
  | e :: ess, hl, 0 => by simp
  | e :: ess, hl, i + 1 => by
    have := flatten_take (ess := ess) (fun c hc => hl c (by simp [hc])) i
    have he : e.length = n := hl e (by simp)
    rw [List.take_succ_cons, List.flatten_cons, List.flatten_cons, this, List.take_append, Nat.succ_mul, List.take_of_length_le (l := e) (by omega)]
    have : i * n + n - e.length = i * n := by omega
    rw [this]

theorem flatten_drop {α : Type _} {n : Nat} : ∀ {ess : List (List α)}, (∀ c ∈ ess, c.length = n) → ∀ i, (ess.drop i).flatten = ess.flatten.drop (i * n)
  | [], _, i => by simp
  | e :: ess, hl, 0 => by simp
  | e :: ess, hl, i + 1 => by
    have := flatten_drop (ess := ess) (fun c hc => hl c (by simp [hc])) i
    have he : e.length = n := hl e (by simp)
    rw [List.drop_succ_cons, List.flatten_cons, this, List.drop_append, Nat.succ_mul, List.drop_of_length_le (l := e) (by omega), List.nil_append]
    have : i * n + n - e.length = i * n := by omega
    rw [this]

/-- An element's own place, in persistent data. -/
theorem rep_elem {ad : Option Addr} {len cap n i : Nat} {ess : List (List V)} {fl : Bool} {c : List V} (h : Rep G w (.slice ad len cap) (.lit n ess fl)) (hc : ess[i]? = some c) :
    ∃ p, ad = some p ∧ len = ess.length ∧ Rep G w (.pointer (some (p.add (i * n)))) (.pp c) := by
  generalize hv : Value.slice ad len cap = v at h
  cases h with
  | lit _ _ _ ad' cap' f hlen hm hf hnone hp hx hfl hcc hr =>
    cases hv
    have hcm : c ∈ ess := List.mem_of_getElem? hc
    cases ad with
    | none => rw [(hnone rfl).1] at hc; simp at hc
    | some p =>
      obtain ⟨hpb, hs⟩ := hp p rfl (Nat.lt_of_lt_of_le (List.length_pos_of_mem hcm) hlen)
      have key : ∀ (j : Nat) (y : V), c[j]? = some y → ess.flatten[i * n + j]? = some y := fun j y hy => by
        rw [flatten_get hx i j c hc (by rw [← hx c hcm]; exact (List.getElem?_eq_some_iff.1 hy).1)]; exact hy
      refine ⟨p, rfl, rfl, .pp c _ (fun j => f (i * n + j)) (by rw [add_block]; exact hpb) (add_spot _ _ hs) (fun y hy => hfl y (List.mem_flatten.2 ⟨c, hcm, hy⟩)) (fun j y hy => ?_) (fun j y hy => hr _ y (key j y hy))⟩
      rw [add_add _ _ _ hs]
      exact hcc p _ y rfl (key j y hy)

theorem Rep.slice_inv {v : Value} {n : Nat} {ess : List (List V)} {fl : Bool} (h : Rep G w v (.lit n ess fl)) : ∃ ad cap, v = .slice ad ess.length cap ∧ ess.length ≤ cap ∧ cap ≤ maxLen ∧ (fl = true → cap = ess.length) := by
  cases h; exact ⟨_, _, rfl, ‹_›, ‹_›, ‹_›⟩

theorem Rep.sl_inv {v : Value} {α : Type} {d : α} {n : Nat} {enc : α → List V} {fl : Bool} {xs : List α} (h : Rep G w v (.sl α d n enc fl xs)) : Rep G w v (.lit n (xs.map enc) fl) := by
  cases h; assumption

theorem Rep.ref_inv {v : Value} {k n lo len : Nat} (h : Rep G w v (.ref k n lo len)) : k < G.n ∧ refRel (G.arv k) n lo len v := by cases h; exact ⟨‹_›, ‹_›⟩

theorem pure_indexAddr (s : Sim G a w env H) (hT : ∀ t, TIok P t (tab t)) (t : TypeId) (x i : Operand) (ho : o.op = .indexAddr t x i) (hk : okOper o = true)
    (h : Op1 realz (reals P cx rnd n0) tab D (.indexAddr t x i) o.dst env H K) : DoneA P G a w o K env H := by
  have rx := rep_opd s x (okOper_mem hk (by simp [ho, Op.operands]))
  have ri := rep_opd s i (okOper_mem hk (by simp [ho, Op.operands]))
  simp only [Op1] at h
  generalize opd env x = xv at h rx
  generalize opd env i = iv at h ri
  split at h
  · rename_i e he
    obtain ⟨hel, inf, z, hu, hi, hsz, _⟩ := (hT t).el e he
    have run : ∀ (ad : Addr) (len cap : Nat) (k : IntKind) (j : Int), a.eval x = .slice (some ad) len cap → a.eval i = .int k j → 0 ≤ j → j < len →
        ∀ w, (execOp a.eval o).run P w = .ok (.value (.pointer (some (ad.add (j.toNat * e.n))))) w := fun ad len cap k j h1 h2 h3 h4 => by
      simp [execOp, ho, h1, h2, Instr.indexAt, asIntOf, run_underlying hu, h3, h4, sizeOf, typeInfo, hi, hsz]
    split at h
    · rename_i α d n enc fl xs k j
      obtain ⟨ei, _⟩ := ri.int_inv
      cases hb : Nat.beq n e.n with
      | false => rw [hb] at h; exact h.elim
      | true =>
        rw [hb] at h
        have hn := Nat.eq_of_beq_eq_true hb
        obtain ⟨hix, h⟩ := h
        obtain ⟨h0, h1⟩ := (hix : 0 ≤ j ∧ j < (xs.length : Int))
        have rl := rx.sl_inv
        obtain ⟨ad, cap, hv, _⟩ := rl.slice_inv
        rw [hv] at rl
        have hlt : j.toNat < xs.length := by omega
        have hget : (xs.map enc)[j.toNat]? = some (enc (xs.getD j.toNat d)) := by simp [List.getElem?_map, List.getElem?_eq_getElem hlt, List.getD_eq_getElem?_getD]
        obtain ⟨p, rfl, _, r⟩ := rep_elem rl hget
        refine DoneA.mk (run p _ cap k j hv ei h0 (by simpa using h1)) ?_ h
        rw [← hn]; exact r
    · rename_i n ess fl k j
      obtain ⟨ei, _⟩ := ri.int_inv
      cases hb : Nat.beq n e.n with
      | false => rw [hb] at h; exact h.elim
      | true =>
        rw [hb] at h
        have hn := Nat.eq_of_beq_eq_true hb
        obtain ⟨hix, h⟩ := h
        obtain ⟨h0, h1⟩ := (hix : 0 ≤ j ∧ j < (ess.length : Int))
        obtain ⟨ad, cap, hv, _⟩ := rx.slice_inv
        rw [hv] at rx
        have hlt : j.toNat < ess.length := by omega
        have hget : ess[j.toNat]? = some (ess.getD j.toNat []) := by simp [List.getElem?_eq_getElem hlt, List.getD_eq_getElem?_getD]
        obtain ⟨p, rfl, _, r⟩ := rep_elem rx hget
        refine DoneA.mk (run p _ cap k j hv ei h0 h1) ?_ h
        rw [← hn]; exact r
    · rename_i k' n lo len k j
      obtain ⟨ei, _⟩ := ri.int_inv
      split at h
      case h_2 => exact h.elim
      rename_i hblk
      cases hb : Nat.beq n e.n with
      | false => rw [hb] at h; exact h.elim
      | true =>
        rw [hb] at h
        have hn := Nat.eq_of_beq_eq_true hb
        obtain ⟨hix, h⟩ := h
        obtain ⟨h0, h1⟩ := (hix : 0 ≤ j ∧ j < (len : Int))
        obtain ⟨hk', hr⟩ := rx.ref_inv
        unfold refRel at hr
        split at hr
        · omega
        · rename_i p m cap harv
          obtain ⟨hle, hcap, q, hv, hqb, hq⟩ := hr
          have hq' := hq (.inl (by omega))
          have hps := (s.h.arv_spot hblk harv).2.1
          refine DoneA.mk (run q _ _ k j hv ei h0 h1) (.pe _ _ _ _ _ hk' ?_) h
          have : lo + j.toNat < m := by omega
          simp only [realz, peOf, harv, this, if_true, hq', ← hn]
          rw [add_add _ _ _ hps]
          simp [Nat.add_mul]
        · exact hr.elim
    · exact h.elim
  · split at h
    · rename_i k o' kk j
      split at h
      · rename_i len sz ag harr
        split at h
        · rename_i m
          cases hb : Nat.blt m len with
          | false => rw [hb] at h; exact h.elim
          | true =>
            rw [hb] at h
            have hlt := Nat.le_of_ble_eq_true hb
            obtain ⟨ee, inf, d, hu, hi, hsz, h0, hd, hag, _⟩ := (hT t).arr _ _ _ harr
            obtain ⟨ei, _⟩ := ri.int_inv
            generalize hv : a.eval x = v at rx
            cases rx with
            | ptr _ _ hk' =>
              have e1 : (⟨G.blk k, o', none⟩ : Addr).add (m * sz) = ⟨G.blk k, o' + m * sz, none⟩ := by unfold Addr.add; split <;> simp_all
              have hei : a.eval i = .int kk (m : Int) := ei
              refine DoneA.mk (v := .pointer (some ⟨G.blk k, o' + m * sz, none⟩)) ?_ (.ptr _ _ hk') h
              simp [execOp, ho, hv, hei, Instr.indexAt, asIntOf, run_underlying hu, Instr.sureAddr, sizeOf, typeInfo, hi, hsz, ← e1, Nat.lt_of_succ_le hlt]
        · exact h.elim
      · exact h.elim
    · exact h.elim


theorem done_indexAddr (s : Sim G a w env H) (hT : ∀ t, TIok P t (tab t)) (t : TypeId) (x i : Operand) (ho : o.op = .indexAddr t x i) (hk : okOper o = true)
    (h : Op1 realz (reals P cx rnd n0) tab D (.indexAddr t x i) o.dst env H K) : Done P n0 G a w o K :=
  (pure_indexAddr s hT t x i ho hk h).done s

theorem done_index (s : Sim G a w env H) (hT : ∀ t, TIok P t (tab t)) (t : TypeId) (x i : Operand) (ho : o.op = .index t x i) (hk : okOper o = true)
    (h : Op1 realz (reals P cx rnd n0) tab D (.index t x i) o.dst env H K) : Done P n0 G a w o K := by
  have rx := rep_opd s x (okOper_mem hk (by simp [ho, Op.operands]))
  have ri := rep_opd s i (okOper_mem hk (by simp [ho, Op.operands]))
  simp only [Op1] at h
  generalize opd env x = xv at h rx
  generalize opd env i = iv at h ri
  split at h
  · rename_i len sz ag cs kk j harr
    split at h
    · rename_i m
      cases hb : (Nat.blt m len && Nat.ble (m * sz + sz) cs.length) with
      | false => rw [hb] at h; exact h.elim
      | true =>
        rw [hb] at h
        simp only [Bool.and_eq_true] at hb
        have hlt : m < len := Nat.lt_of_succ_le (Nat.le_of_ble_eq_true hb.1)
        have hle := Nat.le_of_ble_eq_true hb.2
        obtain ⟨ee, inf, d, hu, hi, hsz, h0, hd, hag, h1⟩ := (hT t).arr _ _ _ harr
        obtain ⟨ei, _⟩ := ri.int_inv
        generalize hv : a.eval x = v at rx
        have rx' := rx
        cases rx with
        | agg vs _ hn hh =>
          have hei : a.eval i = .int kk (m : Int) := ei
          have hp := run_part (P := P) (w := w) hi hd vs (m * sz) (by omega) (by rw [hsz, hn]; exact hle) (fun e => by rw [hsz]; exact h1 (by rw [← hag]; exact e))
          refine Done.same s (v := _) (by simp [execOp, ho, hv, hei, Instr.index, asIntOf, run_underlying hu, hlt, sizeOf, typeInfo, hi, hsz, hp]; rfl) ?_ h
          have := rep_part rx' (m * sz) sz ag (by rw [hn]; exact hle)
          rw [Array.getD_eq_getD_getElem?] at this
          rw [hag]
          exact this
    · exact h.elim
  · exact h.elim
end
end Go.Ab

/- Parts of slices, aggregates that are built, lengths. -/
namespace Go.Ab
section
variable {P : Program} {n0 : Lim} {cx : Cx} {rnd : Option Nat} {tab : Tab} {D : List Nat} {G : Gh} {a : Act} {w : World} {env : Env} {H : Heap} {o : Oper} {K : Env → V → Heap → Prop}

theorem rep_cut {ad : Option Addr} {len cap n : Nat} {ess : List (List V)} {fl fl' : Bool} (h : Rep G w (.slice ad len cap) (.lit n ess fl)) (lo hi : Nat) (h1 : lo ≤ hi) (h2 : hi ≤ ess.length)
    (hf' : fl' = true → fl = true ∧ hi = ess.length) :
    Rep G w (.slice (if cap = lo then ad else ad.map (·.add (lo * n))) (hi - lo) (cap - lo)) (.lit n ((ess.take hi).drop lo) fl') := by
  generalize hv : Value.slice ad len cap = v at h
  cases h with
  | lit _ _ _ ad' cap' f hlen hm hf hnone hp hx hfl hcc hr =>
    cases hv
    have hlen' : ((ess.take hi).drop lo).length = hi - lo := by simp; omega
    have hfl2 : ((ess.take hi).drop lo).flatten = (ess.flatten.take (hi * n)).drop (lo * n) := by
      rw [flatten_drop (fun c hc => hx c (List.mem_of_mem_take hc)), flatten_take hx]
    have key : ∀ (j : Nat) (y : V), ((ess.take hi).drop lo).flatten[j]? = some y → ess.flatten[lo * n + j]? = some y := fun j y hy => by
      rw [hfl2, List.getElem?_drop, List.getElem?_take] at hy
      split at hy
      · exact hy
      · cases hy
    have := Rep.lit (G := G) (w := w) n ((ess.take hi).drop lo) fl' (if cap = lo then ad else ad.map (·.add (lo * n))) (cap - lo) (fun j => f (lo * n + j)) (by rw [hlen']; omega) (by omega)
      (fun e => by obtain ⟨e1, e2⟩ := hf' e; rw [hlen', hf e1]; omega)
      (fun e => by
        have hn : ad = none := by
          split at e
          · exact e
          · simpa using e
        obtain ⟨h3, h4⟩ := hnone hn
        subst h3
        exact ⟨by simp, by omega⟩)
      (fun p hp' h0 => by
        split at hp'
        · exact hp p hp' (by omega)
        · simp only [Option.map_eq_some_iff] at hp'
          obtain ⟨q, hq, rfl⟩ := hp'
          have hpq := hp q hq (by omega)
          exact ⟨by rw [add_block]; exact hpq.1, add_spot _ _ hpq.2⟩)
      (fun c hc => hx c (List.mem_of_mem_take (List.mem_of_mem_drop hc)))
      (fun y hy => by
        obtain ⟨j, hj, rfl⟩ := List.getElem_of_mem hy
        exact hfl _ (List.mem_of_getElem? (key j _ (List.getElem?_eq_getElem hj))))
      (fun p j y hp' hy => by
        have hk := key j y hy
        split at hp'
        · -- nothing is left
          rename_i hcl
          have : ((ess.take hi).drop lo) = [] := by apply List.eq_nil_of_length_eq_zero; rw [hlen']; omega
          rw [this] at hy; simp at hy
        · simp only [Option.map_eq_some_iff] at hp'
          obtain ⟨q, hq, rfl⟩ := hp'
          rw [add_add _ _ _ (hp q hq (Nat.lt_of_lt_of_le (flat_pos hk) hlen)).2]
          exact hcc q _ y hq hk)
      (fun j y hy => hr _ y (key j y hy))
    rw [hlen'] at this
    exact this

theorem run_slice_lo {t e : TypeId} {i : TypeInfo} (hu : P.underlying t = some (.slice e)) (hi : P.info? e = some i) (ad : Option Addr) (len cap : Nat) (k : IntKind) (l : Int) (h0 : 0 ≤ l) (h1 : l ≤ len) (hc : len ≤ cap) :
    (Instr.sliceAt t (.slice ad len cap) (some (.int k l)) none none).run P w = .ok (.slice (if cap = l.toNat then ad else ad.map (·.add (l.toNat * i.size))) (len - l.toNat) (cap - l.toNat)) w := by
  simp [Instr.sliceAt, run_underlying hu, Instr.slice, Instr.sliceBounds, Instr.sliceBound, asIntOf, h0, h1, sizeOf, typeInfo, hi]

theorem run_slice_hi {t e : TypeId} {i : TypeInfo} (hu : P.underlying t = some (.slice e)) (hi : P.info? e = some i) (ad : Option Addr) (len cap : Nat) (k : IntKind) (h : Int) (h0 : 0 ≤ h) (h1 : h ≤ len) (hc : len ≤ cap) :
    (Instr.sliceAt t (.slice ad len cap) none (some (.int k h)) none).run P w = .ok (.slice (if cap = 0 then ad else ad.map (·.add (0 * i.size))) (h.toNat - 0) (cap - 0)) w := by
  have : h ≤ cap := by omega
  simp [Instr.sliceAt, run_underlying hu, Instr.slice, Instr.sliceBounds, Instr.sliceBound, asIntOf, h0, this, sizeOf, typeInfo, hi]

theorem run_slice_lohi {t e : TypeId} {i : TypeInfo} (hu : P.underlying t = some (.slice e)) (hi : P.info? e = some i) (ad : Option Addr) (len cap : Nat) (k k' : IntKind) (l h : Int) (h0 : 0 ≤ l) (hl : l ≤ h) (h1 : h ≤ len) (hc : len ≤ cap) :
    (Instr.sliceAt t (.slice ad len cap) (some (.int k l)) (some (.int k' h)) none).run P w = .ok (.slice (if cap = l.toNat then ad else ad.map (·.add (l.toNat * i.size))) (h.toNat - l.toNat) (cap - l.toNat)) w := by
  have h2 : h ≤ cap := by omega
  have h3 : 0 ≤ h := by omega
  have h4 : max h 0 = h := by omega
  simp [Instr.sliceAt, run_underlying hu, Instr.slice, Instr.sliceBounds, Instr.sliceBound, asIntOf, h0, h2, h3, h4, hl, sizeOf, typeInfo, hi]

theorem map_take_drop {α : Type} (enc : α → List V) (xs : List α) (lo hi : Nat) : ((xs.map enc).take hi).drop lo = ((xs.take hi).drop lo).map enc := by
  rw [List.map_drop, List.map_take]

theorem ref_cut {u v : Value} {n lo len l h : Nat} (hr : refRel u n lo len v) (h1 : l ≤ h) (h2 : h ≤ len) (hsp : ∀ q m c, u = .slice (some q) m c → q.spot = none) :
    ∃ ad cap, v = .slice ad len cap ∧ len ≤ cap ∧ refRel u n (lo + l) (h - l) (.slice (if cap = l then ad else ad.map (·.add (l * n))) (h - l) (cap - l)) := by
  unfold refRel at hr ⊢
  split at hr
  · obtain ⟨rfl, rfl, rfl⟩ := hr
    have e1 : l = 0 := by omega
    have e2 : h = 0 := by omega
    subst e1; subst e2
    exact ⟨none, 0, rfl, by omega, by simp⟩
  · rename_i p m cap
    obtain ⟨hle, hmc, q, rfl, hb, hq⟩ := hr
    have hps := hsp _ _ _ rfl
    refine ⟨some q, cap - lo, rfl, by omega, by omega, hmc, ?_⟩
    by_cases hc : cap - lo = l
    · refine ⟨q, by simp [hc]; omega, hb, fun hor => ?_⟩
      have e1 : h - l = 0 := by omega
      rcases hor with hor | hor
      · omega
      · have : l = 0 := by omega
        subst this
        rw [Nat.add_zero]
        exact hq (.inr (by omega))
    · refine ⟨q.add (l * n), by simp [hc, Nat.sub_sub], by rw [add_block]; exact hb, fun hor => ?_⟩
      have hq' : q = p.add (lo * n) := by
        apply hq
        rcases hor with hor | hor
        · left; omega
        · right; omega
      rw [hq', add_add _ _ _ hps, Nat.add_mul]
  · exact hr.elim

theorem done_slice (s : Sim G a w env H) (hT : ∀ t, TIok P t (tab t)) (t : TypeId) (x : Operand) (lo hi : Option Operand) (ho : o.op = .slice t x lo hi none) (hk : okOper o = true)
    (h : Op1 realz (reals P cx rnd n0) tab D (.slice t x lo hi none) o.dst env H K) : Done P n0 G a w o K := by
  have rx := rep_opd s x (okOper_mem hk (by simp [ho, Op.operands]))
  have rlo : ∀ y, lo = some y → Rep G w (a.eval y) (opd env y) := fun y e => rep_opd s y (okOper_mem hk (by simp [ho, Op.operands, e]))
  have rhi : ∀ y, hi = some y → Rep G w (a.eval y) (opd env y) := fun y e => rep_opd s y (okOper_mem hk (by simp [ho, Op.operands, e]))
  simp only [Op1, sliceV] at h
  generalize opd env x = xv at h rx
  split at h
  · exact h.elim
  · rename_i e he
    obtain ⟨hel, inf, z, hu, hi', hsz, _⟩ := (hT t).el e he
    split at h
    · rename_i α d n enc fl xs
      cases hb : Nat.beq n e.n with
      | false => rw [hb] at h; exact h.elim
      | true =>
        rw [hb] at h
        have hn := Nat.eq_of_beq_eq_true hb
        have rl := rx.sl_inv
        obtain ⟨ad, cap, hv, hlc, _⟩ := rl.slice_inv
        rw [hv] at rl
        simp only [List.length_map] at hv hlc
        simp only [cond_true] at h
        split at h
        · rename_i k l hlo hhi
          obtain ⟨y, rfl, hy⟩ := Option.map_eq_some_iff.1 hlo
          have hi0 : hi = none := by simpa using hhi
          obtain ⟨hrg, h⟩ := h
          have hrg1 : 0 ≤ l ∧ l ≤ (xs.length : Int) := hrg
          obtain ⟨g1, g2⟩ := hrg1
          have ey := (hy ▸ rlo y rfl).int_inv.1
          have := rep_cut rl l.toNat xs.length (fl' := fl) (by omega) (by simp) (fun e => ⟨e, by simp⟩)
          rw [map_take_drop] at this
          refine Done.same s ?_ (.sl _ d _ _ _ _ _ this) h
          simp [execOp, ho, hv, hi0, ey, run_slice_lo hu hi' ad xs.length cap k l g1 g2 hlc, hsz, hn]
        · rename_i k h' hlo hhi
          obtain ⟨y, rfl, hy⟩ := Option.map_eq_some_iff.1 hhi
          have lo0 : lo = none := by simpa using hlo
          obtain ⟨hrg, h⟩ := h
          have hrg1 : 0 ≤ h' ∧ h' ≤ (xs.length : Int) := hrg
          obtain ⟨g1, g2⟩ := hrg1
          have ey := (hy ▸ rhi y rfl).int_inv.1
          have := rep_cut rl 0 h'.toNat (fl' := false) (by omega) (by simp; omega) (fun e => by cases e)
          rw [map_take_drop] at this
          refine Done.same s ?_ (.sl _ d _ _ _ _ _ this) h
          simp [execOp, ho, hv, lo0, ey, run_slice_hi hu hi' ad xs.length cap k h' g1 g2 hlc, hsz, hn]
        · rename_i k l k' h' hlo hhi
          obtain ⟨y, rfl, hy⟩ := Option.map_eq_some_iff.1 hlo
          obtain ⟨y', rfl, hy'⟩ := Option.map_eq_some_iff.1 hhi
          obtain ⟨hrg, hrg', h⟩ := h
          have hrg1 : 0 ≤ h' ∧ h' ≤ (xs.length : Int) := hrg
          obtain ⟨g1, g2⟩ := hrg1
          have hrg2 : 0 ≤ l ∧ l ≤ h' := hrg'
          obtain ⟨g3, g4⟩ := hrg2
          have ey := (hy ▸ rlo y rfl).int_inv.1
          have ey' := (hy' ▸ rhi y' rfl).int_inv.1
          have := rep_cut rl l.toNat h'.toNat (fl' := false) (by omega) (by simp; omega) (fun e => by cases e)
          rw [map_take_drop] at this
          refine Done.same s ?_ (.sl _ d _ _ _ _ _ this) h
          simp [execOp, ho, hv, ey, ey', run_slice_lohi hu hi' ad xs.length cap k k' l h' g3 g4 g2 hlc, hsz, hn]
        · exact h.elim
    · rename_i k' n lo' len
      split at h
      case h_2 => exact h.elim
      rename_i hblk
      cases hb : Nat.beq n e.n with
      | false => rw [hb] at h; exact h.elim
      | true =>
        rw [hb] at h
        have hn := Nat.eq_of_beq_eq_true hb
        obtain ⟨hk', hr⟩ := rx.ref_inv
        have hsp : ∀ q m c, G.arv k' = .slice (some q) m c → q.spot = none := fun q m c e => (s.h.arv_spot hblk e).2.1
        simp only [cond_true] at h
        split at h
        · rename_i k l hlo hhi
          obtain ⟨y, rfl, hy⟩ := Option.map_eq_some_iff.1 hlo
          have hi0 : hi = none := by simpa using hhi
          obtain ⟨hrg, h⟩ := h
          have hrg1 : 0 ≤ l ∧ l ≤ (len : Int) := hrg
          obtain ⟨g1, g2⟩ := hrg1
          have ey := (hy ▸ rlo y rfl).int_inv.1
          obtain ⟨ad, cap, hv, hlc, hrr⟩ := ref_cut hr (l := l.toNat) (h := len) (by omega) (by omega) hsp
          refine Done.same s ?_ (.ref _ _ _ _ _ hk' hrr) h
          simp [execOp, ho, hv, hi0, ey, run_slice_lo hu hi' ad len cap k l g1 g2 hlc, hsz, hn]
        · rename_i k h' hlo hhi
          obtain ⟨y, rfl, hy⟩ := Option.map_eq_some_iff.1 hhi
          have lo0 : lo = none := by simpa using hlo
          obtain ⟨hrg, h⟩ := h
          have hrg1 : 0 ≤ h' ∧ h' ≤ (len : Int) := hrg
          obtain ⟨g1, g2⟩ := hrg1
          have ey := (hy ▸ rhi y rfl).int_inv.1
          obtain ⟨ad, cap, hv, hlc, hrr⟩ := ref_cut hr (l := 0) (h := h'.toNat) (by omega) (by omega) hsp
          refine Done.same s ?_ (.ref _ _ _ _ _ hk' hrr) h
          simp [execOp, ho, hv, lo0, ey, run_slice_hi hu hi' ad len cap k h' g1 g2 hlc, hsz, hn]
        · rename_i k l k'' h' hlo hhi
          obtain ⟨y, rfl, hy⟩ := Option.map_eq_some_iff.1 hlo
          obtain ⟨y', rfl, hy'⟩ := Option.map_eq_some_iff.1 hhi
          obtain ⟨hrg, hrg', h⟩ := h
          have hrg1 : 0 ≤ h' ∧ h' ≤ (len : Int) := hrg
          obtain ⟨g1, g2⟩ := hrg1
          have hrg2 : 0 ≤ l ∧ l ≤ h' := hrg'
          obtain ⟨g3, g4⟩ := hrg2
          have ey := (hy ▸ rlo y rfl).int_inv.1
          have ey' := (hy' ▸ rhi y' rfl).int_inv.1
          obtain ⟨ad, cap, hv, hlc, hrr⟩ := ref_cut hr (l := l.toNat) (h := h'.toNat) (by omega) (by omega) hsp
          refine Done.same s ?_ (.ref _ _ _ _ _ hk' hrr) h
          simp [execOp, ho, hv, ey, ey', run_slice_lohi hu hi' ad len cap k k'' l h' g3 g4 g2 hlc, hsz, hn]
        · exact h.elim
    · exact h.elim
end
end Go.Ab

/- Aggregates that are built; len, min, max; loads. -/
namespace Go.Ab
section
variable {P : Program} {n0 : Lim} {cx : Cx} {rnd : Option Nat} {tab : Tab} {D : List Nat} {G : Gh} {a : Act} {w : World} {env : Env} {H : Heap} {o : Oper} {K : Env → V → Heap → Prop}

theorem allOne_mem : ∀ {l : List V}, allOne l = true → ∀ x ∈ l, x.one = true
  | [], _, x, hx => by cases hx
  | y :: l, h, x, hx => by
    simp only [allOne] at h
    cases hy : y.one with
    | false => rw [hy] at h; cases h
    | true =>
      rw [hy] at h
      cases hx with
      | head => exact hy
      | tail _ hx => exact allOne_mem h x hx

theorem allFlat_mem : ∀ {l : List V}, allFlat l = true → ∀ x ∈ l, x.flat = true
  | [], _, x, hx => by cases hx
  | y :: l, h, x, hx => by
    simp only [allFlat] at h
    cases hy : y.flat with
    | false => rw [hy] at h; cases h
    | true =>
      rw [hy] at h
      cases hx with
      | head => exact hy
      | tail _ hx => exact allFlat_mem h x hx

theorem rep_one {v : Value} {x : V} (h : Rep G w v x) (hx : x.one = true) : v.oneCell' = true := by
  cases h <;> first | rfl | (simp [V.one] at hx; done) | skip
  · rename_i hl; cases hl; rfl
  · rename_i hk hr
    unfold refRel at hr
    split at hr
    · obtain ⟨_, _, _, rfl⟩ := hr; rfl
    · obtain ⟨_, _, q, rfl, _⟩ := hr; rfl
    · exact hr.elim
  · rename_i hk hr
    obtain ⟨p, rfl⟩ := peOf_ptr hr
    rfl

theorem V.one_of_flat {x : V} (h : x.flat = true) : x.one = true := by cases x <;> simp_all [V.flat, V.one]

/-- The cells of a value that is in one piece. -/
theorem rep_cells {v : Value} {x : V} (h : Rep G w v x) (hx : ∀ y ∈ x.cells, V.one y = true) : RepL G w v.cells.toList x.cells ∧ ∀ u ∈ v.cells.toList, u.oneCell' = true := by
  have other : (∀ l, x ≠ .agg l) → RepL G w v.cells.toList x.cells ∧ ∀ u ∈ v.cells.toList, u.oneCell' = true := fun hne => by
    have hc : x.cells = [x] := by cases x <;> first | rfl | exact (hne _ rfl).elim
    have h1 : x.one = true := hx x (by rw [hc]; simp)
    have hv := rep_one h h1
    have hvc : v.cells = #[v] := by cases v <;> first | rfl | (simp [Value.oneCell'] at hv)
    rw [hc, hvc]
    refine ⟨⟨rfl, fun i c y hcc hy => ?_⟩, fun u hu => by simp at hu; subst hu; exact hv⟩
    cases i with
    | zero => simp at hcc hy; subst hcc; subst hy; exact h
    | succ i => simp at hcc
  cases x with
  | agg l =>
    cases h with
    | agg cs _ hn hh =>
      have r : RepL G w cs.toList l := ⟨by simpa using hn, fun i c y hc hy => hh i c y (by simpa using hc) hy⟩
      refine ⟨r, fun u hu => ?_⟩
      obtain ⟨i, hi, rfl⟩ := List.getElem_of_mem hu
      have hi' : i < l.length := by rw [← r.1]; exact hi
      exact rep_one (r.2 i _ _ (List.getElem?_eq_getElem hi) (List.getElem?_eq_getElem hi')) (hx _ (List.getElem_mem hi'))
  | _ => exact other (fun l e => by cases e)

theorem upd_len {l cs : List V} {off : Nat} (h : off + cs.length ≤ l.length) : (upd l off cs).length = l.length := by simp [upd]; omega

/-- Cells of which some are turned. -/
theorem RepL.upd {vs us : List Value} {l cs : List V} {off : Nat} (r : RepL G w vs l) (q : RepL G w us cs) (h : off + cs.length ≤ l.length) :
    RepL G w (vs.take off ++ us ++ vs.drop (off + us.length)) (Ab.upd l off cs) := by
  have h1 := r.1
  have h2 := q.1
  refine ⟨by simp [Ab.upd]; omega, fun i c x hc hx => ?_⟩
  simp only [Ab.upd, List.append_assoc] at hc hx
  rw [List.getElem?_append] at hc hx
  simp only [List.length_take] at hc hx
  have e1 : min off vs.length = off := by omega
  have e2 : min off l.length = off := by omega
  rw [e1] at hc; rw [e2] at hx
  split at hc
  · rename_i hlt
    rw [if_pos hlt] at hx
    rw [List.getElem?_take, if_pos hlt] at hc hx
    exact r.2 i c x hc hx
  · rename_i hge
    rw [if_neg hge] at hx
    rw [List.getElem?_append] at hc hx
    split at hc
    · rename_i hlt
      rw [if_pos (by omega)] at hx
      exact q.2 _ c x hc hx
    · rename_i hge2
      rw [if_neg (by omega)] at hx
      rw [List.getElem?_drop] at hc hx
      refine r.2 _ c x hc ?_
      rw [← hx]; congr 1; omega

theorem foldl_set (us : List Value) : ∀ (k off : Nat) (cs : Array Value), off + k + us.length ≤ cs.size →
    ((us.zipIdx k).foldl (fun cs (c, j) => cs.setIfInBounds (off + j) c) cs).toList = cs.toList.take (off + k) ++ us ++ cs.toList.drop (off + k + us.length) := by
  induction us with
  | nil => intro k off cs h; simp
  | cons u us ih =>
    intro k off cs h
    simp only [List.length_cons] at h
    rw [List.zipIdx_cons, List.foldl_cons, ih (k + 1) off _ (by simp; omega)]
    have hl : off + k < cs.toList.length := by simp; omega
    simp only [Array.toList_setIfInBounds, List.length_cons]
    rw [List.set_eq_take_append_cons_drop, if_pos hl]
    have e1 : (cs.toList.take (off + k)).length = off + k := by simp; omega
    rw [List.take_append, List.drop_append, e1, List.take_of_length_le (l := cs.toList.take (off + k)) (by omega), List.drop_of_length_le (l := cs.toList.take (off + k)) (by omega)]
    have e2 : off + (k + 1) - (off + k) = 1 := by omega
    have e3 : off + (k + 1) + us.length - (off + k) = us.length + 1 := by omega
    rw [e2, e3]
    simp only [List.take_succ_cons, List.take_zero, List.drop_succ_cons, List.drop_drop, List.nil_append, List.append_assoc, List.cons_append]
    congr 4
    omega

theorem fill_rep {place : Nat → Option (Nat × Nat)} {pv : Nat → Nat × Nat} : ∀ (ps : List (Nat × Operand)) (cells : Array Value) (cs cs' : List V), RepL G w cells.toList cs → Sim G a w env H → (∀ p ∈ ps, okOpd p.2 = true) →
    (∀ p ∈ ps, ∀ off s, pv p.1 = (off, s) → s ≠ 0 → place p.1 = some (off, s)) → fillV pv cs (ps.map fun p => (p.1, opd env p.2)) = some cs' →
    ∃ cells', Instr.fill place cells (ps.map fun p => (p.1, a.eval p.2)) = some cells' ∧ RepL G w cells'.toList cs' := by
  intro ps
  induction ps with
  | nil => intro cells cs cs' r _ _ _ h; simp [fillV] at h; subst h; exact ⟨cells, rfl, r⟩
  | cons p ps ih =>
    intro cells cs cs' r s hk hp h
    simp only [List.map_cons, fillV] at h
    cases hb : (Nat.beq (opd env p.2).cells.length (pv p.1).2 && Nat.blt 0 (pv p.1).2 && allOne (opd env p.2).cells && Nat.ble ((pv p.1).1 + (opd env p.2).cells.length) cs.length) with
    | false => rw [hb] at h; cases h
    | true =>
      rw [hb] at h
      simp only [Bool.and_eq_true] at hb
      have hlen := Nat.eq_of_beq_eq_true hb.1.1.1
      have hle := Nat.le_of_ble_eq_true hb.2
      obtain ⟨rc, h1⟩ := rep_cells (rep_opd s p.2 (hk p (by simp))) (allOne_mem hb.1.2)
      have hsz : (a.eval p.2).cells.size = (pv p.1).2 := by have := rc.1; simp at this; omega
      have hne : (pv p.1).2 ≠ 0 := by have := Nat.le_of_ble_eq_true hb.1.1.2; omega
      have hpl := hp p (by simp) (pv p.1).1 (pv p.1).2 rfl hne
      have hcl := r.1
      simp at hcl
      have hfit : ¬ ((decide ((a.eval p.2).cells.size ≠ (pv p.1).2) || decide ((pv p.1).1 + (a.eval p.2).cells.size > cells.size)) = true) := by simp; omega
      have hset := foldl_set (a.eval p.2).cells.toList 0 (pv p.1).1 cells (by simp; omega)
      have hset' : ((a.eval p.2).cells.zipIdx.foldl (fun (cs : Array Value) (x : Value × Nat) => cs.setIfInBounds ((pv p.1).1 + x.2) x.1) cells).toList =
          cells.toList.take (pv p.1).1 ++ (a.eval p.2).cells.toList ++ cells.toList.drop ((pv p.1).1 + (a.eval p.2).cells.toList.length) := by
        rw [← Array.foldl_toList, Array.toList_zipIdx]
        exact hset
      obtain ⟨cells', hf, r'⟩ := ih ((a.eval p.2).cells.zipIdx.foldl (fun (cs : Array Value) (x : Value × Nat) => cs.setIfInBounds ((pv p.1).1 + x.2) x.1) cells) _ cs' (by
        rw [hset']
        exact r.upd rc hle) s (fun q hq => hk q (by simp [hq])) (fun q hq => hp q (by simp [hq])) h
      refine ⟨cells', ?_, r'⟩
      simp only [List.map_cons, Instr.fill, hpl]
      rw [if_neg hfit]
      exact hf

theorem zero_has (k : IntKind) : k.has 0 := by cases k <;> exact ⟨by decide, by decide⟩

theorem zeroV_rep {v : Value} {x : V} (h : zeroV v x) : Rep G w v x := by
  unfold zeroV at h
  split at h
  · obtain ⟨rfl, rfl, rfl⟩ := h
    exact .int _ _ (zero_has _)
  · obtain ⟨rfl, rfl⟩ := h; exact .bool _
  · subst h; exact .str _
  · obtain ⟨rfl, rfl, rfl⟩ := h; exact .nils
  · obtain ⟨rfl, rfl, rfl, rfl⟩ := h
    refine .sl _ _ _ _ _ _ _ ?_
    exact .lit _ [] _ none 0 (fun _ => undef) (by simp) (by unfold maxLen; omega) (fun _ => rfl) (fun _ => ⟨rfl, rfl⟩) (fun p h => by cases h) (fun c h => by cases h) (fun y h => by simp at h) (fun p j y h => by cases h) (fun j y h => by simp at h)
  · subst h; exact .nilp
  · subst h; exact .nilm
  · exact .nilf
  · exact .nili
  · exact h.elim

theorem zeroL_rep {G : Gh} {w : World} : ∀ {vs : List Value} {l : List V}, zeroL vs l → RepL G w vs l
  | [], [], _ => ⟨rfl, fun i c x hc => by simp at hc⟩
  | [], _ :: _, h => h.elim
  | _ :: _, [], h => h.elim
  | v :: vs, x :: xs, h => by
    have ih := zeroL_rep (G := G) (w := w) h.2
    refine ⟨by simp [ih.1], fun i c y hc hy => ?_⟩
    cases i with
    | zero => simp at hc hy; subst hc; subst hy; exact zeroV_rep h.1
    | succ i => simp at hc hy; exact ih.2 i c y hc hy

theorem zeroV_flat {v : Value} {x : V} (h : zeroV v x) : x.flat = true := by
  unfold zeroV at h
  split at h <;> first | rfl | exact h.elim

theorem zeroL_flat : ∀ {vs : List Value} {l : List V}, zeroL vs l → ∀ x ∈ l, x.flat = true
  | [], [], _, x, hx => by cases hx
  | [], _ :: _, h, _, _ => h.elim
  | _ :: _, [], h, _, _ => h.elim
  | v :: vs, y :: ys, h, x, hx => by
    cases hx with
    | head => exact zeroV_flat h.1
    | tail _ hx => exact zeroL_flat h.2 x hx

theorem RepL.toAgg {vs : Array Value} {l : List V} (r : RepL G w vs.toList l) : Rep G w (.agg vs) (.agg l) :=
  .agg vs l (by simpa using r.1) (fun i c x hc hx => r.2 i c x (by simpa using hc) hx)

theorem mapM_places (w : World) : ∀ (fs : List Field) (places : List (Nat × Nat × Bool)), fs.mapM (fun f => (P.info? f.type).bind fun i => (P.underlying f.type).map fun d => (f.offset, i.size, isAggD d)) = some places →
    (fs.mapM fun f => Prod.mk f.offset <$> sizeOf f.type).run P w = .ok (places.map fun q => (q.1, q.2.1)) w := by
  intro fs places h
  refine run_places (P := P) w fs _ ?_
  induction fs generalizing places with
  | nil => simp at h; subst h; rfl
  | cons f fs ih =>
    simp only [List.mapM_cons, Option.bind_eq_bind, Option.pure_def, Option.bind_eq_some_iff] at h
    obtain ⟨q, ⟨i, hi, hq⟩, r, hr, he⟩ := h
    simp only [Option.map_eq_some_iff] at hq
    obtain ⟨d, hd, rfl⟩ := hq
    cases he
    simp [List.mapM_cons, hi, ih r hr]

theorem done_build (s : Sim G a w env H) (hT : ∀ t, TIok P t (tab t)) (t : TypeId) (ps : Array (Nat × Operand)) (ho : o.op = .build t ps) (hk : okOper o = true)
    (h : Op1 realz (reals P cx rnd n0) tab D (.build t ps) o.dst env H K) : Done P n0 G a w o K := by
  have hks : ∀ p ∈ ps.toList, okOpd p.2 = true := fun p hp => okOper_mem hk (by simp [ho, Op.operands]; exact ⟨p.1, by simpa using hp⟩)
  simp only [Op1] at h
  split at h
  · exact h.elim
  rename_i c cs hz
  obtain ⟨inf, zv, hi, hzv, hzl⟩ := (hT t).zero (by rw [hz]; simp)
  have rz := zeroL_rep (G := G) (w := w) hzl
  rw [hz] at rz
  split at h
  · rename_i f fs harr hfs
    split at h
    case h_2 => exact h.elim
    rename_i cs' hf
    obtain ⟨fields, hu, hm, _⟩ := (hT t).st (by rw [hfs]; simp)
    have hpl := mapM_places (P := P) w _ _ hm
    obtain ⟨cells', hfill, r'⟩ := fill_rep (place := fun i => ((((tab t).fs.map fun q => (q.1, q.2.1))[i]? : Option (Nat × Nat)))) (pv := fun i => (((f :: fs).getD i (0, 0, false)).1, ((f :: fs).getD i (0, 0, false)).2.1)) ps.toList zv.cells _ cs' rz s hks
      (fun p _ off sz e hne => by
        rw [← hfs] at e
        simp only [Prod.mk.injEq, List.getD_eq_getElem?_getD] at e
        rw [List.getElem?_map]
        cases hq : (tab t).fs[p.1]? with
        | none => rw [hq] at e; simp at e; omega
        | some q => rw [hq] at e; simp at e; simp [e]) hf
    refine Done.same s (v := .agg cells') ?_ r'.toAgg h
    have hfill' : Instr.fill (fun x => Option.map (fun q => (q.1, q.2.1)) ((tab t).fs[x]?)) zv.cells (ps.toList.map fun p => (p.1, a.eval p.2)) = some cells' := by simpa only [List.getElem?_map] using hfill
    have hmm : (fields.mapM fun f => Prod.mk f.offset <$> sizeOf f.type).run P w = .ok ((tab t).fs.map fun q => (q.1, q.2.1)).toArray w := by
      rw [Array.mapM_eq_mapM_toList]
      simp [hpl]
    simp [execOp, ho, Instr.build, zeroValue, typeInfo, hi, hzv, run_underlying hu, hmm, hfill']
  · rename_i _ len sz ag harr
    split at h
    case h_2 => exact h.elim
    rename_i cs' hf
    obtain ⟨e, i, d, hu, hie, hsz, h0, hd, hag, _⟩ := (hT t).arr _ _ _ harr
    obtain ⟨cells', hfill, r'⟩ := fill_rep (place := fun i => some (i * sz, sz)) (pv := fun i => (i * sz, sz)) ps.toList zv.cells _ cs' rz s hks (fun p _ off s' e hne => by rw [← e]) hf
    refine Done.same s (v := .agg cells') ?_ r'.toAgg h
    simp [execOp, ho, Instr.build, zeroValue, typeInfo, hi, hzv, run_underlying hu, sizeOf, hie, hsz, hfill]
  · exact h.elim
end
end Go.Ab

/- Memory: new blocks, loads, stores. -/
namespace Go.Ab
section
variable {P : Program} {n0 : Lim} {cx : Cx} {rnd : Option Nat} {tab : Tab} {D : List Nat} {G G' : Gh} {a : Act} {w w' : World} {env : Env} {H : Heap} {o : Oper} {K : Env → V → Heap → Prop}

theorem RepB.mono {k : Nat} {b : Blk} (h : Le G w G' w') (hsize : w.heap.size ≤ w'.heap.size) (hk : k < G.n) (hown : ∀ q, ownOf G k b = some q → w'.heap[q]? = w.heap[q]?)
    (hM : ∀ r m es rem cur, b = .iter r m es rem cur → ∀ ents clock, w'.heap[G.blk r]? = some (.map ents clock) → w.heap[G.blk r]? = some (.map ents clock)) (r : RepB G w k b) : RepB G' w' k b := by
  have hb := h.blk k hk
  cases b with
  | dead => trivial
  | cells l =>
    obtain ⟨cs, t, hh, rr⟩ := r
    exact ⟨cs, t, by rw [hb, hown _ rfl]; exact hh, rr.mono h⟩
  | arr e el xs =>
    obtain ⟨hel, vs, hown', rr⟩ := r
    refine ⟨hel, vs, ?_, rr.mono h⟩
    rw [h.arv k hk]
    refine ⟨hown'.1, ?_⟩
    rcases hown'.2 with hn | ⟨g, cap, cur, hv, hb0, hg, rest⟩
    · exact .inl hn
    · exact .inr ⟨g, cap, cur, hv, hb0, by rw [hown g (by simp [ownOf, hv, Value.ownBlock])]; exact hg, rest⟩
  | map m es =>
    obtain ⟨hp, ents, clock, hh, hsz, hr, hc, hd, hn⟩ := r
    exact ⟨hp, ents, clock, by rw [hb, hown _ rfl]; exact hh, hsz, fun i e p he hp => ⟨(hr i e p he hp).1.mono h, (hr i e p he hp).2.mono h⟩, hc, hd, hn⟩
  | iter r0 m es rem cur =>
    obtain ⟨hp, since, seen, stepped, hh, ⟨hr, hrs⟩, hi⟩ := r
    refine ⟨hp, since, seen, stepped, by rw [hb, hown _ rfl, h.blk r0 hr]; exact hh, ⟨Nat.lt_of_lt_of_le hr h.n, by rw [h.blk r0 hr]; omega⟩, fun ents clock hm => hi ents clock ?_⟩
    rw [h.blk r0 hr] at hm
    exact hM r0 m es rem cur rfl ents clock hm

theorem ownOf_mono {k : Nat} {b : Blk} (h : Le G w G' w') (hk : k < G.n) : ownOf G' k b = ownOf G k b := by
  cases b <;> simp [ownOf, h.blk k hk, h.arv k hk]

theorem SimH.lt {k : Nat} {b : Blk} (s : SimH G w H) (h : H[k]? = some b) : k < G.n := by rw [s.n]; exact (List.getElem?_eq_some_iff.1 h).1

/-- The ghost in which the block behind the last one is one's own. -/
def Gh.own (G : Gh) (q : Nat) (v : Value) : Gh := { G with n := G.n + 1, blk := fun k => if k = G.n then q else G.blk k, arv := fun k => if k = G.n then v else G.arv k }
/-- The ghost in which one more block is kept. -/
def Gh.keep (G : Gh) (q : Nat) : Gh := { G with prot := fun b => b = q ∨ G.prot b }

/-- A world with blocks more, and else as it was. -/
structure More (w w' : World) : Prop where
  os : w'.os = w.os
  tape : w'.tape = w.tape
  output : w'.output = w.output
  size : w.heap.size ≤ w'.heap.size
  heap : ∀ b, b < w.heap.size → w'.heap[b]? = w.heap[b]?

theorem More.alloc (w : World) (x : Obj) : More w (w.alloc x) := ⟨rfl, rfl, rfl, by simp, fun b hb => heap_alloc_old w x hb⟩
theorem More.drewAlloc (w : World) (x : Obj) : More w (w.drew.alloc x) := ⟨rfl, rfl, rfl, by show _ ≤ (w.heap.push x).size; simp, fun b hb => heap_alloc_old w.drew x hb⟩
theorem More.refl (w : World) : More w w := ⟨rfl, rfl, rfl, Nat.le_refl _, fun _ _ => rfl⟩
theorem More.drew (w : World) : More w w.drew := ⟨rfl, rfl, rfl, Nat.le_refl _, fun _ _ => rfl⟩

theorem cell_of_heap {p : Addr} (h : w'.heap[p.block]? = w.heap[p.block]?) : w'.cell? p = w.cell? p := by simp [World.cell?, h]

theorem SimH.le_more (s : SimH G w H) (m : More w w') (hp : ∀ b, G.prot b → G'.prot b) (hn : G.n ≤ G'.n) (hb : ∀ k, k < G.n → G'.blk k = G.blk k) (ha : ∀ k, k < G.n → G'.arv k = G.arv k) (hy : G'.yl = G.yl) : Le G w G' w' :=
  ⟨hp, fun p hpp => cell_of_heap (m.heap _ (s.plt _ hpp)), hn, hb, ha, hy⟩

/-- Old blocks in a world with more. -/
theorem SimH.old (s : SimH G w H) (m : More w w') (h : Le G w G' w') {k : Nat} {b : Blk} (hk : H[k]? = some b) : RepB G' w' k b := by
  refine (s.rep k b hk).mono h m.size (s.lt hk) (fun q hq => m.heap q (s.own k b q hk hq).1) (fun r m' es rem cur e ents clock hm => ?_)
  subst e
  obtain ⟨_, _, _, _, hh, ⟨hr, hrs⟩, _⟩ := s.rep k _ hk
  rwa [m.heap _ hrs] at hm

theorem getElem?_snoc {α : Type _} {l : List α} {x y : α} {k : Nat} (h : (l ++ [x])[k]? = some y) : l[k]? = some y ∧ k < l.length ∨ k = l.length ∧ x = y := by
  rw [List.getElem?_append] at h
  split at h
  · exact .inl ⟨h, ‹_›⟩
  · right
    have hl : k - l.length = 0 := by
      rcases Nat.eq_zero_or_pos (k - l.length) with e | e
      · exact e
      · rw [List.getElem?_eq_none (by simp; omega)] at h; cases h
    rw [hl] at h
    simp at h
    exact ⟨by omega, h⟩

theorem own_blk {q : Nat} {v : Value} {x : Option Obj} (h : w'.heap[q]? = x) : w'.heap[(G.own q v).blk G.n]? = x := by
  show w'.heap[if G.n = G.n then q else G.blk G.n]? = x
  rw [if_pos rfl]; exact h

/-- One more block, one's own. -/
theorem SimH.new (s : SimH G w H) (m : More w w') {q : Nat} (hq : w.heap.size ≤ q) (hq' : q < w'.heap.size) (v : Value) (hv : ∀ j, v.ownBlock = some j → j = q) {b : Blk}
    (hb : ∀ _ : Le G w (G.own q v) w', RepB (G.own q v) w' G.n b) : SimH (G.own q v) w' (H ++ [b]) ∧ Le G w (G.own q v) w' := by
  have le : Le G w (G.own q v) w' := s.le_more m (fun b h => h) (Nat.le_succ _) (fun k hk => by simp [Gh.own, Nat.ne_of_lt hk]) (fun k hk => by simp [Gh.own, Nat.ne_of_lt hk]) rfl
  have freshQ : ∀ j, ownOf (G.own q v) H.length b = some j → j = q := fun j hj => by
    cases b <;> simp [ownOf, Gh.own, s.n] at hj
    · exact hj.symm
    · exact hv _ hj
    · exact hj.symm
    · exact hj.symm
  refine ⟨⟨by simp [Gh.own, s.n], fun k b' hk => ?_, fun k b' j hk hj => ?_, fun k k' b1 b2 j h1 h2 o1 o2 => ?_, fun j hj => Nat.lt_of_lt_of_le (s.plt j hj) m.size, fun k b' j hk hj hf => ?_, fun j hj => ⟨Nat.lt_of_lt_of_le (s.frs j hj).1 m.size, (s.frs j hj).2⟩⟩, le⟩
  · rcases getElem?_snoc hk with ⟨hk, _⟩ | ⟨rfl, rfl⟩
    · exact s.old m le hk
    · rw [← s.n]; exact hb le
  · rcases getElem?_snoc hk with ⟨hk, _⟩ | ⟨rfl, rfl⟩
    · rw [ownOf_mono le (s.lt hk)] at hj
      exact ⟨Nat.lt_of_lt_of_le (s.own k b' j hk hj).1 m.size, (s.own k b' j hk hj).2⟩
    · have e : j = q := by
        cases b <;> simp [ownOf, Gh.own, s.n] at hj
        · exact hj.symm
        · exact hv _ hj
        · exact hj.symm
        · exact hj.symm
      subst e
      exact ⟨hq', fun hp => by have := s.plt _ hp; omega⟩
  · have fresh : ∀ j, ownOf (G.own q v) H.length b = some j → j = q := fun j hj => by
      cases b <;> simp [ownOf, Gh.own, s.n] at hj
      · exact hj.symm
      · exact hv _ hj
      · exact hj.symm
      · exact hj.symm
    rcases getElem?_snoc h1 with ⟨h1, _⟩ | ⟨rfl, rfl⟩ <;> rcases getElem?_snoc h2 with ⟨h2, _⟩ | ⟨rfl, rfl⟩
    · rw [ownOf_mono le (s.lt h1)] at o1; rw [ownOf_mono le (s.lt h2)] at o2
      exact s.inj k k' b1 b2 j h1 h2 o1 o2
    · rw [ownOf_mono le (s.lt h1)] at o1
      have := (s.own k b1 j h1 o1).1
      have := fresh j o2
      omega
    · rw [ownOf_mono le (s.lt h2)] at o2
      have := (s.own k' b2 j h2 o2).1
      have := fresh j o1
      omega
    · rfl
  · rcases getElem?_snoc hk with ⟨hk, _⟩ | ⟨rfl, rfl⟩
    · rw [ownOf_mono le (s.lt hk)] at hj
      exact s.fro k b' j hk hj hf
    · have e := freshQ j hj
      subst e
      have := (s.frs j hf).1
      omega

/-- One more block, kept. -/
theorem SimH.newKept (s : SimH G w H) (m : More w w') {q : Nat} (hq : w.heap.size ≤ q) (hq' : q < w'.heap.size) : SimH (G.keep q) w' H ∧ Le G w (G.keep q) w' := by
  have le : Le G w (G.keep q) w' := s.le_more m (fun b h => .inr h) (Nat.le_refl _) (fun k hk => rfl) (fun k hk => rfl) rfl
  refine ⟨⟨s.n, fun k b' hk => s.old m le hk, fun k b' j hk hj => ?_, fun k k' b1 b2 j h1 h2 o1 o2 => ?_, fun j hj => ?_, fun k b' j hk hj => ?_, fun j hj => ⟨Nat.lt_of_lt_of_le (s.frs j hj).1 m.size, fun hp => ?_⟩⟩, le⟩
  · rw [ownOf_mono le (s.lt hk)] at hj
    have := s.own k b' j hk hj
    refine ⟨Nat.lt_of_lt_of_le this.1 m.size, fun hp => ?_⟩
    rcases hp with rfl | hp
    · omega
    · exact this.2 hp
  · rw [ownOf_mono le (s.lt h1)] at o1; rw [ownOf_mono le (s.lt h2)] at o2
    exact s.inj k k' b1 b2 j h1 h2 o1 o2
  · rcases hj with rfl | hj
    · exact hq'
    · exact Nat.lt_of_lt_of_le (s.plt j hj) m.size
  · rw [ownOf_mono le (s.lt hk)] at hj
    exact s.fro k b' j hk hj
  · rcases hp with rfl | hp
    · have := (s.frs _ hj).1; omega
    · exact (s.frs j hj).2 hp

/-- Blocks more, and nothing known of them. -/
theorem SimH.more (s : SimH G w H) (m : More w w') : SimH G w' H ∧ Le G w G w' := by
  have le : Le G w G w' := s.le_more m (fun b h => h) (Nat.le_refl _) (fun k hk => rfl) (fun k hk => rfl) rfl
  exact ⟨⟨s.n, fun k b' hk => s.old m le hk, fun k b' j hk hj => ⟨Nat.lt_of_lt_of_le (s.own k b' j hk hj).1 m.size, (s.own k b' j hk hj).2⟩, s.inj, fun j hj => Nat.lt_of_lt_of_le (s.plt j hj) m.size, s.fro, fun j hj => ⟨Nat.lt_of_lt_of_le (s.frs j hj).1 m.size, (s.frs j hj).2⟩⟩, le⟩

theorem Ext.of_more (m : More w w') (s : SimH G w H) (hp : ∀ b, G.prot b → G'.prot b) (hb : ∀ k, k < n0.n → G'.blk k = G.blk k) (hy : G'.yl = G.yl) (ha : ∀ k, k < n0.n → G'.arv k = G.arv k) (hf : G'.fr = G.fr := by rfl) (hnn : G.n ≤ G'.n := by first | exact Nat.le_refl _ | exact Nat.le_succ _) (hmk : G'.marks = G.marks := by rfl) : Ext n0 G w G' w' :=
  ⟨hp, fun b hb' => m.heap b (s.plt b hb'), m.size, m.os, m.tape, m.output, hb, hy, fun k hk _ => ha k hk, hf, fun b hb' => m.heap b (s.frs b hb').1, fun h => Nat.le_trans h hnn, fun D hD => .inl (hmk ▸ hD)⟩

/-- A Sim whose world has gone on. -/
theorem Sim.of_le (s : Sim G a w env H) {H' : Heap} (h : SimH G' w' H') (le : Le G w G' w') (hm : G'.marks = G.marks) (hk : ∀ D ∈ G.marks, w'.heap[D]? = w.heap[D]?) : Sim G' a w' env H' :=
  ⟨h, s.env.mono le, by rw [hm]; exact s.marks, fun D hD => by rw [hm] at hD; rw [hk D hD]; exact ⟨(s.md D hD).1, le.prot _ (s.md D hD).2⟩, by rw [hm]; exact s.nd⟩

theorem done_alloc (s : Sim G a w env H) (hT : ∀ t, TIok P t (tab t)) (t : TypeId) (ho : o.op = .alloc t) (hn : n0.n ≤ H.length)
    (h : Op1 realz (reals P cx rnd n0) tab D (.alloc t) o.dst env H K) : Done P n0 G a w o K := by
  simp only [Op1] at h
  split at h
  · exact h.elim
  · rename_i z hz
    obtain ⟨inf, zv, hi, hzv, hzl⟩ := (hT t).zero hz
    have m := More.alloc w (.cells zv.cells t)
    have hnew := heap_alloc_new w (.cells zv.cells t)
    have rz := zeroL_rep (G := G) (w := w) hzl
    obtain ⟨sh, le⟩ := s.h.new m (q := w.heap.size) (Nat.le_refl _) (by simp) undef (fun j hj => by cases hj) (b := .cells (tab t).zero)
      (fun le => ⟨zv.cells, t, own_blk hnew, rz.mono le⟩)
    refine ⟨_, .pointer (some ⟨w.heap.size, 0, none⟩), _, ?_, .inl rfl, G.own w.heap.size undef, env, _, _, Ext.of_more m s.h (fun b h => h) (fun k hk => by have := s.h.n; simp [Gh.own]; omega) rfl (fun k hk => by have := s.h.n; simp [Gh.own]; omega),
      s.of_le sh le rfl (fun D hD => m.heap D (s.h.plt D (s.md D hD).2)), ?_, h⟩
    · simp [execOp, ho, Instr.alloc, zeroValue, typeInfo, hi, hzv, newVar, newRow, run_newObj]
    · have := Rep.ptr (G := G.own w.heap.size undef) (w := w.alloc (.cells zv.cells t)) G.n 0 (by simp [Gh.own])
      simpa [Gh.own, s.h.n] using this

theorem done_box (s : Sim G a w env H) (t : TypeId) (x : Operand) (ho : o.op = .box t x) (hn : n0.n ≤ H.length) (hk : okOper o = true)
    (h : Op1 realz (reals P cx rnd n0) tab D (.box t x) o.dst env H K) : Done P n0 G a w o K := by
  simp only [Op1] at h
  cases hb : allOne (opd env x).cells with
  | false => rw [hb] at h; exact h.elim
  | true =>
    rw [hb] at h
    obtain ⟨rc, h1⟩ := rep_cells (rep_opd s x (okOper_mem hk (by simp [ho, Op.operands]))) (allOne_mem hb)
    have m := More.alloc w (.cells (a.eval x).cells t)
    have hnew := heap_alloc_new w (.cells (a.eval x).cells t)
    obtain ⟨sh, le⟩ := s.h.new m (q := w.heap.size) (Nat.le_refl _) (by simp) undef (fun j hj => by cases hj) (b := .cells (opd env x).cells)
      (fun le => ⟨(a.eval x).cells, t, own_blk hnew, rc.mono le⟩)
    refine ⟨_, .pointer (some ⟨w.heap.size, 0, none⟩), _, ?_, .inl rfl, G.own w.heap.size undef, env, _, _, Ext.of_more m s.h (fun b h => h) (fun k hk => by have := s.h.n; simp [Gh.own]; omega) rfl (fun k hk => by have := s.h.n; simp [Gh.own]; omega),
      s.of_le sh le rfl (fun D hD => m.heap D (s.h.plt D (s.md D hD).2)), ?_, h⟩
    · simp [execOp, ho, Instr.box, newVar, newRow, run_newObj]
    · have := Rep.ptr (G := G.own w.heap.size undef) (w := w.alloc (.cells (a.eval x).cells t)) G.n 0 (by simp [Gh.own])
      simpa [Gh.own, s.h.n] using this
end
end Go.Ab
