/- An abstract interpreter for the functional part of the modelled language: definitions. By the prover of this session; nothing of it is trusted: Ab*.lean prove it. -/
import Derived.Orders
set_option linter.unusedVariables false
namespace Go.Ab

/-- Types of what is kept: numbers, bools, texts, rows that are read, structs as nested pairs. -/
inductive Ty where
  | int (k : IntKind)
  | bool
  | str
  | sl (t : Ty)
  | pair (a b : Ty)
  | refp (t : Ty)
  | fn (f : Nat) (t : Ty)
  | nul (m : Bool)
  deriving DecidableEq

@[reducible] def Ty.den : Ty → Type
  | .int _ => Int
  | .bool => Bool
  | .str => List UInt8
  | .sl t => List t.den
  | .pair a b => a.den × b.den
  | .refp t => t.den
  | .fn _ t => t.den
  | .nul _ => Unit

def Ty.sz : Ty → Nat
  | .pair a b => a.sz + b.sz
  | _ => 1

def Ty.dflt : (t : Ty) → t.den
  | .int _ => (0 : Int)
  | .bool => false
  | .str => ([] : List UInt8)
  | .sl _ => []
  | .pair a b => (a.dflt, b.dflt)
  | .refp t => t.dflt
  | .fn _ t => t.dflt
  | .nul _ => ()

/-- One cell. -/
inductive Cell where
  | v (t : Ty) (x : t.den)
  | nil
  | ptr (id off : Nat)
  | own (id : Nat)
  | ref (t : Ty) (x : t.den)
  | eptr (id : Nat) (i off sz : Nat)
  | clo (f : Nat) (t : Ty) (id off : Nat)
  | osl (id lo sz : Nat)
  | asl (id off n : Nat)
  | mp (id : Nat)

inductive Fl where
  | c (x : Cell)
  | agg (cs : List Cell)

inductive TV where
  | f (x : Fl)
  | tup (l : List Fl)

inductive Lv where
  | tv (x : TV)
  | undef
  | box (cs : List Cell)
  | row (e : TypeId) (t : Ty) (xs : List t.den)
  | iter (l : List UInt8) (pos : Nat)
  | set (t : Ty) (xs : List t.den)
  | bld (T : Nat) (q : Cell)
  | gone

abbrev St := List (Nat × Lv)

def look : St → Nat → Option Lv
  | [], _ => none
  | (m, v) :: r, n => cond (Nat.beq m n) (some v) (look r n)

/-- What the interpreter is told of a type. -/
inductive TK where
  | one
  | struct (fs : List (Nat × TypeId))
  | slice (e : TypeId)
  | array (n : Nat) (e : TypeId)
  | map (k e : TypeId)
  | bld

structure TI where
  k : TK
  sz : Nat
  bytes : Nat
  ty : Ty
  zero : List Cell

def TK.agg : TK → Bool
  | .struct _ => true
  | .array _ _ => true
  | .bld => true
  | _ => false

def Dens : List Ty → Type
  | [] => Unit
  | t :: ts => t.den × Dens ts

/-- What a function is beside its answer: nothing; it lays a text behind what a builder holds; it tells what a builder holds. -/
inductive Sp where
  | no
  | put (e T : TypeId)
  | str (e T : TypeId)

def Sp.isNo : Sp → Bool
  | .no => true
  | _ => false

/-- A function that is called: its parameters' and results' types, and what it answers. -/
structure Entry where
  args : List Ty
  rets : List Ty
  run : Nat → Dens args → Option (Dens rets)
  sp : Sp

def cellsOf : (t : Ty) → t.den → List Cell
  | .pair a b, x => cellsOf a x.1 ++ cellsOf b x.2
  | .int k, x => [.v (.int k) x]
  | .bool, x => [.v .bool x]
  | .str, x => [.v .str x]
  | .sl t, x => [.v (.sl t) x]
  | .refp t, x => [.ref t x]
  | .fn f t, x => [.v (.fn f t) x]
  | .nul m, x => [.v (.nul m) x]

def flOf (t : Ty) (x : t.den) : Fl :=
  match t, x with
  | .pair a b, x => .agg (cellsOf (.pair a b) x)
  | .int k, x => .c (.v (.int k) x)
  | .bool, x => .c (.v .bool x)
  | .str, x => .c (.v .str x)
  | .sl t, x => .c (.v (.sl t) x)
  | .refp t, x => .c (.ref t x)
  | .fn f t, x => .c (.v (.fn f t) x)
  | .nul m, x => .c (.v (.nul m) x)

def ofCells : (t : Ty) → List Cell → Option (t.den × List Cell)
  | .pair a b, cs => (ofCells a cs).bind fun p => (ofCells b p.2).bind fun q => some ((p.1, q.1), q.2)
  | .sl t, .nil :: r => some ([], r)
  | t, .v t' x :: r => if h : t' = t then some (h ▸ x, r) else none
  | _, _ => none

def Fl.cells : Fl → List Cell
  | .c x => [x]
  | .agg cs => cs

def Fl.isAgg : Fl → Bool
  | .c _ => false
  | .agg _ => true

def Ty.hasSl : Ty → Bool
  | .sl _ => true
  | .pair a b => a.hasSl || b.hasSl
  | .refp _ => true
  | .fn _ _ => true
  | _ => false

def Ty.isPair : Ty → Bool
  | .pair _ _ => true
  | _ => false

/-- What is read as it stands: an own row, a piece of it, a closure (where nothing that is handed back can lead to what it caught). -/
def view (fl : Bool) (st : St) : Cell → Cell
  | .own id => match look st (2 * id + 1) with
    | some (.row _ t xs) => .v (.sl t) xs
    | _ => .own id
  | .osl id lo s => match look st (2 * id + 1) with
    | some (.row _ t xs) => cond (Nat.beq s t.sz) (.v (.sl t) (xs.drop lo)) (.osl id lo s)
    | _ => .osl id lo s
  | .ref t x => .v (.refp t) x
  | .clo f t id off => cond fl (match look st (2 * id + 1) with
    | some (.box cs) => match ofCells t (cs.drop off) with
      | some p => .v (.fn f t) p.1
      | none => .clo f t id off
    | _ => .clo f t id off) (.clo f t id off)
  | c => c

/-- A value of a type out of what a slot holds. -/
def ofFl (fl : Bool) (st : St) (t : Ty) (x : Fl) : Option t.den :=
  cond (x.isAgg == t.isPair) ((ofCells t (x.cells.map (view fl st))).bind fun p => match p.2 with | [] => some p.1 | _ :: _ => none) none

/-- The same, as it is written. -/
def plainFl (t : Ty) (x : Fl) : Option t.den :=
  cond (x.isAgg == t.isPair) ((ofCells t x.cells).bind fun p => match p.2 with | [] => some p.1 | _ :: _ => none) none

def ofFls (fl : Bool) (st : St) : (ts : List Ty) → List Fl → Option (Dens ts)
  | [], [] => some ()
  | t :: ts, x :: xs => (ofFl fl st t x).bind fun a => (ofFls fl st ts xs).bind fun r => some (a, r)
  | _, _ => none

def flsOf : (ts : List Ty) → Dens ts → List Fl
  | [], _ => []
  | t :: ts, x => flOf t x.1 :: flsOf ts x.2

def retTV (ts : List Ty) (x : Dens ts) : TV :=
  match flsOf ts x with
  | [y] => .f y
  | l => .tup l

def constTV : Value → Option TV
  | .int k n => some (.f (.c (.v (.int k) n)))
  | .bool b => some (.f (.c (.v .bool b)))
  | .string s => some (.f (.c (.v .str s.data.toList)))
  | .slice none 0 0 => some (.f (.c .nil))
  | _ => none

def evO (st : St) : Operand → Option TV
  | .tmp t => match look st (2 * t) with
    | some (.tv x) => some x
    | _ => none
  | .const v => constTV v
  | _ => none

def evF (st : St) (o : Operand) : Option Fl := match evO st o with | some (.f x) => some x | _ => none
def evC (st : St) (o : Operand) : Option Cell := match evO st o with | some (.f (.c x)) => some x | _ => none
def evB (st : St) (o : Operand) : Option Bool := match evO st o with | some (.f (.c (.v .bool b))) => some b | _ => none
def evI (st : St) (o : Operand) : Option Int := match evO st o with | some (.f (.c (.v (.int _) n))) => some n | _ => none
def evFs (st : St) : List Operand → Option (List Fl)
  | [] => some []
  | o :: r => (evF st o).bind fun x => (evFs st r).bind fun l => some (x :: l)

def chk {R : Type} (c : Bool) (y : Option R) : Option R := cond c y none

/-- Is a number an object's in this state? -/
def Cell.names (n : Nat) : Cell → Bool
  | .ptr id _ => id == n
  | .own id => id == n
  | .eptr id _ _ _ => id == n
  | .clo _ _ id _ => id == n
  | .osl id _ _ => id == n
  | .asl id _ _ => id == n
  | .mp id => id == n
  | _ => false
def Fl.names (n : Nat) (x : Fl) : Bool := x.cells.any (·.names n)
def Lv.names (n : Nat) : Lv → Bool
  | .tv (.f x) => x.names n
  | .tv (.tup l) => l.any (·.names n)
  | .box cs => cs.any (·.names n)
  | .bld _ q => q.names n
  | _ => false
def fresh (st : St) (n : Nat) : Bool := st.all fun p => !(Nat.beq p.1 (2 * n + 1)) && !(p.2.names n)

/-- A struct's field: its type, value, place. -/
def proj : Nat → Nat → (t : Ty) → t.den → Option (Nat × (u : Ty) × u.den)
  | 0, 1, t, x => some (0, ⟨t, x⟩)
  | 0, _ + 2, .pair a b, x => some (0, ⟨a, x.1⟩)
  | j + 1, n + 2, .pair a b, x => (proj j (n + 1) b x.2).bind fun r => some (a.sz + r.1, r.2)
  | _, _, _, _ => none

def loadTy (ti : TI) (t : Ty) (x : t.den) : Option Fl :=
  cond (ti.k.agg == t.isPair && Nat.beq t.sz ti.sz) (some (flOf t x)) none

/-- A piece of a row of cells. -/
def pick (ti : TI) (cs : List Cell) (off : Nat) : Option Fl :=
  cond ti.k.agg (cond (Nat.ble (off + ti.sz) cs.length) (some (.agg ((cs.drop off).take ti.sz))) none) (cs[off]?.bind fun c => some (.c c))

/-- Numbers of a kind side by side. -/
def cellRow (k : IntKind) : List Cell → Option (List Int)
  | [] => some []
  | .v (.int k') x :: r => cond (decide (k' = k)) ((cellRow k r).bind fun l => some ((x : Int) :: l)) none
  | _ => none

def rowCell (st : St) : Cell → Option ((t : Ty) × List t.den)
  | .v (.sl t) xs => some ⟨t, xs⟩
  | .own id => match look st (2 * id + 1) with
    | some (.row _ t xs) => some ⟨t, xs⟩
    | _ => none
  | .osl id lo s => match look st (2 * id + 1) with
    | some (.row _ t xs) => cond (Nat.beq s t.sz) (some ⟨t, xs.drop lo⟩) none
    | _ => none
  | .asl id off n => match look st (2 * id + 1) with
    | some (.box cs) => chk (Nat.ble (off + n) cs.length && Nat.ble n 9223372036854775807) ((cellRow .u8 ((cs.drop off).take n)).bind fun l => some ⟨.int .u8, l⟩)
    | _ => none
  | _ => none

def bitsN (op : BinOp) (k : IntKind) (a b : Int) : Int :=
  match op with
  | .and => k.wrap (BitVec.ofInt k.bits a &&& BitVec.ofInt k.bits b).toNat
  | .or => k.wrap (BitVec.ofInt k.bits a ||| BitVec.ofInt k.bits b).toNat
  | .xor => k.wrap (BitVec.ofInt k.bits a ^^^ BitVec.ofInt k.bits b).toNat
  | _ => k.wrap (BitVec.ofInt k.bits a &&& ~~~ (BitVec.ofInt k.bits b)).toNat

/-- What is appended: a row of a type. -/
def srcRow (st : St) (t : Ty) (c : Cell) : Option ((t : Ty) × List t.den) :=
  match c with
  | .nil => some ⟨t, []⟩
  | c => rowCell st c

/-- What is copied: a text's bytes, or a row. -/
def srcB (st : St) (t : Ty) (c : Cell) : Option ((t : Ty) × List t.den) :=
  match c with
  | .v .str l => some ⟨.int .u8, (List.map (fun b : UInt8 => ((b.toNat : Nat) : Int)) l)⟩
  | c => srcRow st t c

/-- Some of a list laid into another. -/
def laid {α : Type} (lo n : Nat) (xs ys : List α) : List α := xs.take lo ++ ys.take n ++ xs.drop (lo + n)

/-- A row of bytes as an array's cells. -/
def rowCells (n : Nat) (l : List Int) : List Cell := (List.range n).map fun i => Cell.v (.int .u8) (l.getD i 0)

def decodeAt (l : List UInt8) (pos : Nat) : Nat × Nat := Utf8.decode ⟨l.toArray⟩ pos

def intOp (op : BinOp) (k : IntKind) (a b : Int) : Option Cell :=
  match op with
  | .add => some (.v (.int k) (k.wrap (a + b)))
  | .sub => some (.v (.int k) (k.wrap (a - b)))
  | .mul => some (.v (.int k) (k.wrap (a * b)))
  | .and => some (.v (.int k) (bitsN .and k a b))
  | .or => some (.v (.int k) (bitsN .or k a b))
  | .xor => some (.v (.int k) (bitsN .xor k a b))
  | .andNot => some (.v (.int k) (bitsN .andNot k a b))
  | .eql => some (.v .bool (a == b))
  | .neq => some (.v .bool (a != b))
  | .lss => some (.v .bool (decide (a < b)))
  | .leq => some (.v .bool (decide (a ≤ b)))
  | .gtr => some (.v .bool (decide (a > b)))
  | .geq => some (.v .bool (decide (a ≥ b)))
  | _ => none

def strOp {R : Type} (op : BinOp) (a b : List UInt8) (K : Cell → Option R) : Option R :=
  match op with
  | .add => chk (decide (a.length + b.length ≤ 9223372036854775807)) (K (.v .str (a ++ b)))
  | .eql => K (.v .bool (a == b))
  | .neq => K (.v .bool (!(a == b)))
  | _ => none

def TK.isOne : TK → Bool
  | .one => true
  | _ => false

/-- '==' of structs whose fields are one cell each. -/
def eqCells (T : Nat → Option TI) : List (Nat × TypeId) → Nat → List Cell → List Cell → Option Bool
  | [], _, [], [] => some true
  | f :: fs, i, .v t x :: cs, .v t' y :: ds => (T f.2).bind fun ti => cond (Nat.beq f.1 i && ti.k.isOne)
    (match ti.ty, t, t', x, y with
    | .int _, .int k, .int k', a, b => cond (decide (k = k')) ((eqCells T fs (i + 1) cs ds).bind fun c => some ((a == b) && c)) none
    | .bool, .bool, .bool, a, b => (eqCells T fs (i + 1) cs ds).bind fun c => some ((a == b) && c)
    | .str, .str, .str, a, b => (eqCells T fs (i + 1) cs ds).bind fun c => some ((a == b) && c)
    | _, _, _, _, _ => none) none
  | _, _, _, _ => none

/-- '==' of arrays of numbers. -/
def eqArr (k : IntKind) : List Cell → List Cell → Option Bool
  | [], [] => some true
  | .v (.int a) x :: cs, .v (.int b) y :: ds => cond (decide (a = k) && decide (b = k)) ((eqArr k cs ds).bind fun c => some (((x : Int) == y) && c)) none
  | _, _ => none

def eqAgg (T : Nat → Option TI) (t : TypeId) (xs ys : List Cell) : Option Bool :=
  match T t with
  | some ⟨.struct fs, _, _, _, _⟩ => eqCells T fs 0 xs ys
  | some ⟨.array n e, _, _, _, _⟩ => match T e with
    | some ⟨.one, _, _, .int k, _⟩ => cond (Nat.beq xs.length n && Nat.beq ys.length n) (eqArr k xs ys) none
    | _ => none
  | _ => none

def binK {R : Type} (T : Nat → Option TI) (op : BinOp) (t : TypeId) (x y : Fl) (K : Cell → Option R) : Option R :=
  match x, y with
  | .c (.v (.int k) a), .c (.v (.int k') b) =>
    match op with
    | .shl => chk (decide (0 ≤ b)) (K (.v (.int k) (k.wrap (a * 2 ^ (min b.toNat k.bits)))))
    | .shr => chk (decide (0 ≤ b)) (K (.v (.int k) (a.fdiv (2 ^ (min b.toNat k.bits)))))
    | .quo => chk (decide (k = k')) (chk (decide (b ≠ 0)) (K (.v (.int k) (k.wrap (a.tdiv b)))))
    | .rem => chk (decide (k = k')) (chk (decide (b ≠ 0)) (K (.v (.int k) (a.tmod b))))
    | op => chk (decide (k = k')) ((intOp op k a b).bind K)
  | .c (.v .str a), .c (.v .str b) => strOp op a b K
  | .c (.v .bool a), .c (.v .bool b) =>
    match T t with
    | some ⟨.one, _, _, .bool, _⟩ =>
      match op with
      | .eql => K (.v .bool (a == b))
      | .neq => K (.v .bool (!(a == b)))
      | _ => none
    | _ => none
  | .agg xs, .agg ys =>
    match op with
    | .eql => (eqAgg T t xs ys).bind fun b => K (.v .bool b)
    | .neq => (eqAgg T t xs ys).bind fun b => K (.v .bool (!b))
    | _ => none
  | _, _ => none

def toByte (n : Int) : UInt8 := UInt8.ofNat n.toNat

def convK {R : Type} (st : St) (T : Nat → Option TI) (s d : TypeId) (x : Cell) (K : Cell → Option R) : Option R :=
  match T s, T d with
  | some si, some di =>
    match si.k, si.ty, di.k, di.ty, x with
    | .one, .int _, .one, .int k, .v (.int _) n => K (.v (.int k) (k.wrap n))
    | .one, .str, .one, .str, .v .str l => K (.v .str l)
    | .slice e, _, .one, .str, x =>
      match T e, rowCell st x with
      | some ⟨.one, _, _, .int .u8, _⟩, some ⟨.int .u8, xs⟩ => K (.v .str (xs.map toByte))
      | _, _ => none
    | _, _, _, _, _ => none
  | _, _ => none

/-- What own rows inside a value become when the value is laid into another row: they are given up. -/
def gives (x : Fl) : St := x.cells.filterMap fun | .own id => some (2 * id + 1, .gone) | .osl id _ _ => some (2 * id + 1, .gone) | _ => none

def fills (cs : List Cell) : List (Nat × Nat × Fl) → Option (List Cell)
  | [] => some cs
  | (off, sz, x) :: r => cond (Nat.beq x.cells.length sz && Nat.ble (off + sz) cs.length) (fills (cs.take off ++ x.cells ++ cs.drop (off + sz)) r) none

def szs (T : Nat → Option TI) : List (Nat × TypeId) → Option (List (Nat × Nat))
  | [] => some []
  | f :: r => (T f.2).bind fun ti => (szs T r).bind fun l => some ((f.1, ti.sz) :: l)

def places (pl : Nat → Option (Nat × Nat)) : List (Nat × Operand) → List Fl → Option (List (Nat × Nat × Fl))
  | [], [] => some []
  | p :: r, x :: xs => (pl p.1).bind fun f => (places pl r xs).bind fun l => some ((f.1, f.2, x) :: l)
  | _, _ => none

def inOrder : Nat → List (Nat × Operand) → Bool
  | _, [] => true
  | n, p :: r => Nat.beq p.1 n && inOrder (n + 1) r

def ofFlList (st : St) (t : Ty) : List Fl → Option (List t.den)
  | [] => some []
  | x :: r => (ofFl false st t x).bind fun a => (ofFlList st t r).bind fun l => some (a :: l)

def optI (st : St) : Option Operand → Int → Option Int
  | none, d => some d
  | some o, _ => evI st o

def lenOfC (st : St) : Cell → Option Nat
  | .nil => some 0
  | .v .str l => some l.length
  | x => (rowCell st x).bind fun r => some r.2.length

/-- A map's keys, each of which has 'true'. -/
def hasI (xs : List Int) (n : Int) : Bool := xs.any fun x => n == x
def hasS (xs : List (List UInt8)) (l : List UInt8) : Bool := xs.any fun x => l == x
def putI (xs : List Int) (n : Int) : List Int := cond (hasI xs n) xs (xs ++ [n])
def putS (xs : List (List UInt8)) (l : List UInt8) : List (List UInt8) := cond (hasS xs l) xs (xs ++ [l])

abbrev Env := Nat → Option Entry
def findL {α : Type} : List (Nat × α) → Nat → Option α
  | [], _ => none
  | (m, v) :: r, n => cond (Nat.beq m n) (some v) (findL r n)

/-- One operation: its value, and what becomes of the objects. 'new': the number of an object that it makes. -/
def opK {R : Type} (T : Nat → Option TI) (G : Env) (k : Nat) (new : Option Nat) (st : St) (op : Op) (K : TV → St → Option R) : Option R :=
  match op with
  | .move x => (evO st x).bind fun v => K v []
  | .assign x => (evO st x).bind fun v => K v []
  | .pick c a b => (evB st c).bind fun t => cond t ((evO st a).bind fun v => K v []) ((evO st b).bind fun v => K v [])
  | .nilCheck x => (evC st x).bind fun c => match c with
    | .ptr id off => K (.f (.c (.ptr id off))) []
    | .ref t y => K (.f (.c (.ref t y))) []
    | _ => none
  | .box _ x => (evF st x).bind fun v => new.bind fun n => chk (fresh st n) (K (.f (.c (.ptr n 0))) [(2 * n + 1, .box v.cells)])
  | .alloc t => (T t).bind fun ti => new.bind fun n => chk (fresh st n) (match ti.k with
    | .bld => match ti.zero with
      | [.v (.nul false) _, .nil] => K (.f (.c (.ptr n 0))) [(2 * n + 1, .bld t .nil)]
      | _ => none
    | _ => K (.f (.c (.ptr n 0))) [(2 * n + 1, .box ti.zero)])
  | .load t p => (T t).bind fun ti => (evC st p).bind fun c => match c with
    | .ptr id off => match look st (2 * id + 1) with
      | some (.box cs) => (pick ti cs off).bind fun x => K (.f x) []
      | _ => none
    | .ref u x => (loadTy ti u x).bind fun y => K (.f y) []
    | .eptr id i off s => match look st (2 * id + 1) with
      | some (.row _ u xs) => chk (decide (i < xs.length)) (chk (Nat.beq s u.sz) ((pick ti (cellsOf u (xs.getD i u.dflt)) off).bind fun x => K (.f x) []))
      | _ => none
    | _ => none
  | .store t p x => (T t).bind fun ti => (evF st x).bind fun v => (evC st p).bind fun c => match c with
    | .ptr id off => match look st (2 * id + 1) with
      | some (.box cs) => chk (Nat.beq v.cells.length ti.sz && Nat.ble (off + ti.sz) cs.length) (K (.tup []) [(2 * id + 1, .box (cs.take off ++ v.cells ++ cs.drop (off + ti.sz)))])
      | _ => none
    | .eptr id i off s => match look st (2 * id + 1) with
      | some (.row e u xs) => chk (decide (i < xs.length)) (chk (Nat.beq s u.sz && Nat.beq off 0 && Nat.beq v.cells.length ti.sz && Nat.beq u.sz ti.sz) ((plainFl u v).bind fun y => K (.tup []) [(2 * id + 1, .row e u (xs.set i y))]))
      | _ => none
    | _ => none
  | .binOp op t x y _ => (evF st x).bind fun a => (evF st y).bind fun b => binK T op t a b fun c => K (.f (.c c)) []
  | .unOp .not _ x => (evB st x).bind fun b => K (.f (.c (.v .bool (!b)))) []
  | .convert s d x => (evC st x).bind fun c => convK st T s d c fun r => K (.f (.c r)) []
  | .fieldAddr s x f => (T s).bind fun si => match si.k with
    | .struct fs => (fs[f]?).bind fun fd => (T fd.2).bind fun ti => chk (!(Nat.beq ti.sz 0)) ((evC st x).bind fun c => match c with
      | .ptr id off => K (.f (.c (.ptr id (off + fd.1)))) []
      | .ref t y => (proj f fs.length t y).bind fun r => chk (Nat.beq r.1 fd.1) (K (.f (.c (.ref r.2.1 r.2.2))) [])
      | .eptr id i off s => K (.f (.c (.eptr id i (off + fd.1) s))) []
      | _ => none)
    | _ => none
  | .field s x f => (T s).bind fun si => match si.k with
    | .struct fs => (fs[f]?).bind fun fd => (T fd.2).bind fun ti => (evF st x).bind fun v => match v with
      | .agg cs => (pick ti cs fd.1).bind fun r => K (.f r) []
      | _ => none
    | _ => none
  | .indexAddr t x ix => (T t).bind fun ti => (evI st ix).bind fun i => (evC st x).bind fun c => match ti.k with
    | .slice e => (T e).bind fun te => match c with
      | .v (.sl u) xs => chk (Nat.beq te.sz u.sz) (chk (decide (0 ≤ i)) (chk (decide (i < xs.length)) (K (.f (.c (.ref u (xs.getD i.toNat u.dflt)))) [])))
      | .own id => match look st (2 * id + 1) with
        | some (.row _ u xs) => chk (Nat.beq te.sz u.sz) (chk (decide (0 ≤ i)) (chk (decide (i < xs.length)) (K (.f (.c (.eptr id i.toNat 0 u.sz))) [])))
        | _ => none
      | _ => none
    | .array n e => (T e).bind fun te => match c with
      | .ptr id off => chk (decide (0 ≤ i)) (chk (decide (i < n)) (K (.f (.c (.ptr id (off + i.toNat * te.sz)))) []))
      | _ => none
    | _ => none
  | .index t x ix => (T t).bind fun ti => (evI st ix).bind fun i => (evF st x).bind fun v => match ti.k, ti.ty, v with
    | .one, .str, .c (.v .str l) => chk (decide (0 ≤ i)) (chk (decide (i < l.length)) (K (.f (.c (.v (.int .u8) (((l.getD i.toNat 0).toNat : Nat) : Int)))) []))
    | .array n e, _, .agg cs => (T e).bind fun te => chk (decide (0 ≤ i)) (chk (decide (i < n)) ((pick te cs (i.toNat * te.sz)).bind fun r => K (.f r) []))
    | _, _, _ => none
  | .slice t x lo hi none => (T t).bind fun ti => (evC st x).bind fun c => match ti.k, ti.ty, c with
    | .one, .str, .v .str l => (optI st lo 0).bind fun a => (optI st hi l.length).bind fun b =>
      chk (decide (0 ≤ a)) (chk (decide (a ≤ b)) (chk (decide (b ≤ l.length)) (K (.f (.c (.v .str ((l.take b.toNat).drop a.toNat)))) [])))
    | .slice e, _, .v (.sl u) xs => (T e).bind fun te => (optI st lo 0).bind fun a => (optI st hi xs.length).bind fun b =>
      chk (Nat.beq te.sz u.sz) (chk (decide (0 ≤ a)) (chk (decide (a ≤ b)) (chk (decide (b ≤ xs.length)) (K (.f (.c (.v (.sl u) ((xs.take b.toNat).drop a.toNat)))) []))))
    | .slice e, _, .own id => match look st (2 * id + 1) with
      | some (.row _ u xs) => (T e).bind fun te => (optI st lo 0).bind fun a => match hi with
        | none => chk (Nat.beq te.sz u.sz) (chk (decide (0 ≤ a)) (chk (decide (a ≤ xs.length)) (K (.f (.c (.osl id a.toNat u.sz))) [])))
        | some _ => (optI st hi xs.length).bind fun b =>
          chk (Nat.beq te.sz u.sz) (chk (decide (0 ≤ a)) (chk (decide (a ≤ b)) (chk (decide (b ≤ xs.length)) (K (.f (.c (.v (.sl u) ((xs.take b.toNat).drop a.toNat)))) [(2 * id + 1, .gone)]))))
      | _ => none
    | .array n e, _, .ptr id off => (T e).bind fun te => match lo, hi with
      | none, none => chk (Nat.beq te.sz 1 && Nat.ble n 9223372036854775807) (K (.f (.c (.asl id off n))) [])
      | _, _ => none
    | _, _, _ => none
  | .makeSlice t l c => (T t).bind fun ti => match ti.k with
    | .slice e => (T e).bind fun te => (evI st l).bind fun n => (evI st c).bind fun m =>
      new.bind fun q => chk (fresh st q) (chk (decide (0 ≤ n)) (chk (decide (n ≤ m)) (chk (decide (m * te.bytes ≤ 281474976710656)) (chk (decide (m ≤ 9223372036854775807)) (K (.f (.c (.own q))) [(2 * q + 1, .row e te.ty (List.replicate n.toNat te.ty.dflt))])))))
    | _ => none
  | .buildSlice t len parts => (T t).bind fun ti => match ti.k with
    | .slice e => (T e).bind fun te => chk (inOrder 0 parts.toList && Nat.beq parts.toList.length len && Nat.ble (len * te.sz) 16777216) ((evFs st (parts.toList.map (·.2))).bind fun xs =>
      (ofFlList st te.ty xs).bind fun l => new.bind fun n => chk (fresh st n) (K (.f (.c (.own n))) ((2 * n + 1, .row e te.ty l) :: xs.flatMap gives)))
    | _ => none
  | .build t parts => (T t).bind fun ti => (evFs st (parts.toList.map (·.2))).bind fun xs => match ti.k with
    | .struct fs => (szs T fs).bind fun ps => (places (fun i => ps[i]?) parts.toList xs).bind fun l => (fills ti.zero l).bind fun cs => K (.f (.agg cs)) []
    | .array _ e => (T e).bind fun te => (places (fun i => some (i * te.sz, te.sz)) parts.toList xs).bind fun l => (fills ti.zero l).bind fun cs => K (.f (.agg cs)) []
    | _ => none
  | .makeMap t none => (T t).bind fun ti => match ti.k with
    | .map kt et => (T kt).bind fun tk => (T et).bind fun te => match tk.k, te.k, te.ty with
      | .one, .one, .bool => new.bind fun n => chk (fresh st n) (K (.f (.c (.mp n))) [(2 * n + 1, .set tk.ty [])])
      | _, _, _ => none
    | _ => none
  | .lookup t x ix false => (T t).bind fun ti => match ti.k with
    | .map kt et => (T kt).bind fun tk => (T et).bind fun te => match tk.k, te.k, te.ty with
      | .one, .one, .bool => (evC st x).bind fun c => (evC st ix).bind fun kc => match c with
        | .mp id => match look st (2 * id + 1) with
          | some (.set u xs) => match tk.ty, u, xs, kc with
            | .int q, .int a, xs, .v (.int b) n => chk (decide (a = b) && decide (q = a)) (K (.f (.c (.v .bool (hasI xs n)))) [])
            | .str, .str, xs, .v .str l => K (.f (.c (.v .bool (hasS xs l)))) []
            | _, _, _, _ => none
          | _ => none
        | _ => none
      | _, _, _ => none
    | _ => none
  | .mapUpdate t m kx vx => (T t).bind fun ti => match ti.k with
    | .map kt et => (T kt).bind fun tk => (T et).bind fun te => match tk.k, te.k, te.ty with
      | .one, .one, .bool => (evC st m).bind fun c => (evC st kx).bind fun kc => (evB st vx).bind fun vb => match c with
        | .mp id => match look st (2 * id + 1) with
          | some (.set u xs) => chk vb (match tk.ty, u, xs, kc with
            | .int q, .int a, xs, .v (.int b) n => chk (decide (a = b) && decide (q = a)) (K (.tup []) [(2 * id + 1, .set (.int a) (putI xs n))])
            | .str, .str, xs, .v .str l => K (.tup []) [(2 * id + 1, .set .str (putS xs l))]
            | _, _, _, _ => none)
          | _ => none
        | _ => none
      | _, _, _ => none
    | _ => none
  | .range t x => (T t).bind fun ti => (evC st x).bind fun c => match ti.k, ti.ty, c with
    | .one, .str, .v .str l => new.bind fun n => chk (fresh st n) (K (.f (.c (.ptr n 0))) [(2 * n + 1, .iter l 0)])
    | _, _, _ => none
  | .next x true => (evC st x).bind fun c => match c with
    | .ptr id 0 => match look st (2 * id + 1) with
      | some (.iter l pos) => cond (decide (pos < l.length))
        (K (.tup [.c (.v .bool true), .c (.v (.int .i64) ((pos : Nat) : Int)), .c (.v (.int .i32) (((decodeAt l pos).1 : Nat) : Int))]) [(2 * id + 1, .iter l (pos + (decodeAt l pos).2))])
        (K (.tup [.c (.v .bool false)]) [])
      | _ => none
    | _ => none
  | .makeFunc (.func f) fst cap => match fst.toList, cap.toList with
    | [], [x] => (evC st x).bind fun c => (G f).bind fun E => match c, E.args.getLast? with
      | .ptr id off, some (.refp t) => K (.f (.c (.clo f t id off))) []
      | _, _ => none
    | _, _ => none
  | .extract x j => (evO st x).bind fun v => match v with
    | .tup l => (l[j]?).bind fun y => K (.f y) []
    | _ => none
  | .call c => match c.callee with
    | .value (.func f) => (G f).bind fun E => chk E.sp.isNo <| (evFs st c.args.toList).bind fun xs => (ofFls (!(E.rets.any Ty.hasSl)) st E.args xs).bind fun a => (E.run k a).bind fun r => K (retTV E.rets r) (cond (E.rets.any Ty.hasSl) (xs.flatMap gives) [])
    | .value (.tmp t) => (evC st (.tmp t)).bind fun cl => match cl with
      | .v (.fn f u) y => (G f).bind fun E => chk E.sp.isNo <| (evFs st c.args.toList).bind fun xs => (ofFls (!(E.rets.any Ty.hasSl)) st E.args (xs ++ [.c (.ref u y)])).bind fun a => (E.run k a).bind fun r => K (retTV E.rets r) (cond (E.rets.any Ty.hasSl) (xs.flatMap gives) [])
      | _ => none
    | .builtin .copy => match c.args.toList, c.argTypes.toList with
      | [x, y], t :: _ => (T t).bind fun ti => match ti.k with
        | .slice e => (T e).bind fun te => (evC st x).bind fun a => (evC st y).bind fun b => match srcB st te.ty b with
          | some ⟨u, ys⟩ => (match a with
            | .own id => match look st (2 * id + 1) with
              | some (.row e' u' xs) => if h : u = u' then chk (Nat.beq te.sz u'.sz) (K (.f (.c (.v (.int .i64) (((min ys.length xs.length : Nat)) : Int)))) [(2 * id + 1, .row e' u' (laid 0 (min ys.length xs.length) xs (h ▸ ys)))]) else none
              | _ => none
            | .osl id lo s => match look st (2 * id + 1) with
              | some (.row e' u' xs) => if h : u = u' then chk (Nat.beq te.sz u'.sz && Nat.beq s u'.sz) (chk (decide (lo ≤ xs.length)) (K (.f (.c (.v (.int .i64) (((min ys.length (xs.length - lo) : Nat)) : Int)))) [(2 * id + 1, .row e' u' (laid lo (min ys.length (xs.length - lo)) xs (h ▸ ys)))])) else none
              | _ => none
            | .asl id off n => match look st (2 * id + 1) with
              | some (.box cs) => match u, ys with
                | .int .u8, ys => chk (Nat.beq te.sz 1 && Nat.beq off 0 && Nat.beq cs.length n) ((cellRow .u8 cs).bind fun xs => K (.f (.c (.v (.int .i64) (((min ys.length n : Nat)) : Int))))
                  [(2 * id + 1, .box (rowCells n (laid 0 (min ys.length n) xs ys)))])
                | _, _ => none
              | _ => none
            | _ => none)
          | none => none
        | _ => none
      | _, _ => none
    | .builtin .len => match c.args.toList, c.argTypes.toList with
      | [x], [t] => (T t).bind fun ti => (evC st x).bind fun y => match ti.k, ti.ty, y with
        | .one, .str, .v .str l => K (.f (.c (.v (.int .i64) ((l.length : Nat) : Int)))) []
        | .slice _, _, .nil => K (.f (.c (.v (.int .i64) 0))) []
        | .slice _, _, y => (rowCell st y).bind fun r => K (.f (.c (.v (.int .i64) ((r.2.length : Nat) : Int)))) []
        | _, _, _ => none
      | _, _ => none
    | .builtin .append => match c.args.toList, c.argTypes.toList with
      | [x, y], [t, t'] => chk (Nat.beq t t') ((T t).bind fun ti => match ti.k with
        | .slice e => (T e).bind fun te => (evC st x).bind fun a => (evC st y).bind fun b =>
          new.bind fun n => chk (fresh st n) (match srcRow st te.ty b with
          | some ⟨u, ys⟩ => if h : u = te.ty then
              (match a with
              | .nil => chk (decide (ys.length * te.bytes ≤ 140737488355328)) (chk (decide (ys.length ≤ 9223372036854775807)) (K (.f (.c (.own n))) [(2 * n + 1, .row e te.ty (h ▸ ys))]))
              | .own id => match look st (2 * id + 1) with
                | some (.row e' u' xs) => if h' : u' = te.ty then
                    chk (Nat.beq e' e) (chk (decide ((xs.length + ys.length) * te.bytes ≤ 140737488355328)) (chk (decide (xs.length + ys.length ≤ 9223372036854775807)) (K (.f (.c (.own n))) [(2 * n + 1, .row e te.ty (h' ▸ xs ++ h ▸ ys)), (2 * id + 1, .gone)])))
                  else none
                | _ => none
              | _ => none)
            else none
          | none => none)
        | _ => none)
      | _, _ => none
    | .builtin .min => match c.args.toList with
      | [x, y] => (evC st x).bind fun a => (evC st y).bind fun b => match a, b with
        | .v (.int k) n, .v (.int k') m => chk (decide (k = k')) (K (.f (.c (.v (.int k) (if m < n then m else n)))) [])
        | _, _ => none
      | _ => none
    | .builtin .max => match c.args.toList with
      | [x, y] => (evC st x).bind fun a => (evC st y).bind fun b => match a, b with
        | .v (.int k) n, .v (.int k') m => chk (decide (k = k')) (K (.f (.c (.v (.int k) (if n < m then m else n)))) [])
        | _, _ => none
      | _ => none
    | _ => none
  | _ => none

/-! ### Builders -/
def bldTail (st : St) (e : Nat) : Cell → Option (List Nat × List Int)
  | .nil => some ([], [])
  | .own rid => match look st (2 * rid + 1) with
    | some (.row e' (.int .u8) xs) => cond (Nat.beq e' e) (some ([rid], xs)) none
    | _ => none
  | _ => none
def putEff (id m e T : Nat) (rs : List Nat) (zs : List Int) : St := (2 * id + 1, .bld T (.own m)) :: (2 * m + 1, .row e (.int .u8) zs) :: rs.map fun r => (2 * r + 1, .gone)
def bytesB (xs : List Int) : Bool := xs.all fun n => decide (0 ≤ n) && decide (n < 256)

def spK (G : Env) (st : St) (op : Op) : Option (Bool × TV × St) :=
  match op with
  | .call c => match c.callee with
    | .value (.tmp s) => (evC st (.tmp s)).bind fun cl => match cl with
      | .clo f _ id 0 => (G f).bind fun E => match E.sp, c.args.toList with
        | .put e T, [x] => (evC st x).bind fun xc => match xc, look st (2 * id + 1) with
          | .v .str l, some (.bld T' q) => (bldTail st e q).bind fun r =>
            some (Nat.beq T' T && fresh st (1000000 + st.length) && decide (r.2.length + l.length ≤ 140737488355328), .tup [], putEff id (1000000 + st.length) e T r.1 (r.2 ++ List.map (fun b : UInt8 => ((b.toNat : Nat) : Int)) l))
          | _, _ => none
        | _, _ => none
      | _ => none
    | .value (.func f) => (G f).bind fun E => match E.sp, c.args.toList with
      | .str e T, [x] => (evC st x).bind fun xc => match xc with
        | .ptr id 0 => match look st (2 * id + 1) with
          | some (.bld T' q) => (bldTail st e q).bind fun r => some (Nat.beq T' T && bytesB r.2, .f (.c (.v .str (r.2.map toByte))), r.1.map fun r => (2 * r + 1, .gone))
          | _ => none
        | _ => none
      | _, _ => none
    | _ => none
  | _ => none

/-- A region's operation: guarded or not; 'K' is told the new state. -/
def stepK {R : Type} (T : Nat → Option TI) (G : Env) (k nt : Nat) (o : Oper) (st : St) (K : St → Option R) : Option R :=
  match spK G st o.op with
  | some (b, v, eff) => chk b (match o.dst with
    | some d => chk (Nat.blt d nt) (K ((2 * d, .tv v) :: (eff ++ st)))
    | none => K (eff ++ st))
  | none => opK T G k o.dst st o.op fun v eff => match o.dst with
    | some d => chk (Nat.blt d nt) (K ((2 * d, .tv v) :: (eff ++ st)))
    | none => K (eff ++ st)

def skipK {R : Type} (nt : Nat) (o : Oper) (st : St) (K : St → Option R) : Option R :=
  match o.dst with
  | some d => chk (Nat.blt d nt) (K ((2 * d, .undef) :: st))
  | none => K st

def guardK {R : Type} (ops : Array Oper) (o : Oper) (st : St) (Y N : St → Option R) : Option R :=
  match o.guard with
  | none => Y st
  | some (j, want) => match (ops[j]?).bind (·.dst) with
    | some s => match look st (2 * s) with
      | some .undef => N st
      | some (.tv (.f (.c (.v .bool b)))) => cond b
        (cond want (Y ((2 * s, .tv (.f (.c (.v .bool true)))) :: st)) (N ((2 * s, .tv (.f (.c (.v .bool true)))) :: st)))
        (cond want (N ((2 * s, .tv (.f (.c (.v .bool false)))) :: st)) (Y ((2 * s, .tv (.f (.c (.v .bool false)))) :: st)))
      | _ => none
    | none => none

def opsK {R : Type} (T : Nat → Option TI) (G : Env) (k nt : Nat) (ops : Array Oper) : List Oper → St → (St → Option R) → Option R
  | [], st, K => K st
  | o :: r, st, K => guardK ops o st (fun st' => stepK T G k nt o st' fun st'' => opsK T G k nt ops r st'' K) (fun st' => skipK nt o st' fun st'' => opsK T G k nt ops r st'' K)


/-! ### A region whose order is open -/
structure Rec where
  rd : List Nat
  wr : List Nat
  nm : List Nat
  made : Option Nat

def Cell.id? : Cell → Option Nat
  | .ptr id _ => some id
  | .own id => some id
  | .eptr id _ _ _ => some id
  | .clo _ _ id _ => some id
  | .osl id _ _ => some id
  | .asl id _ _ => some id
  | .mp id => some id
  | _ => none
def cellIds (cs : List Cell) : List Nat := cs.filterMap Cell.id?
def tvIds : TV → List Nat
  | .f x => cellIds x.cells
  | .tup l => l.flatMap fun x => cellIds x.cells
def lvIds : Lv → List Nat
  | .tv x => tvIds x
  | .box cs => cellIds cs
  | .bld _ q => cellIds [q]
  | _ => []

def opSlots (op : Op) : List Nat := op.operands.toList.filterMap fun | .tmp t => some t | _ => none
def slotIds (st : St) (s : Nat) : List Nat := match look st (2 * s) with
  | some (.tv x) => (tvIds x).map fun i => 2 * i + 1
  | _ => []
def gslot (ops : Array Oper) (o : Oper) : List Nat := match o.guard with
  | none => []
  | some (j, _) => match (ops[j]?).bind (·.dst) with
    | some s => [2 * s]
    | none => []
def reads (ops : Array Oper) (o : Oper) (st : St) : List Nat :=
  gslot ops o ++ (opSlots o.op).flatMap fun s => 2 * s :: slotIds st s

def recOf (ops : Array Oper) (o : Oper) (st : St) (w : St) : Rec where
  rd := reads ops o st
  wr := w.map (·.1)
  nm := w.flatMap fun p => lvIds p.2
  made := match o.dst with
    | some d => cond (w.any fun p => Nat.beq p.1 (2 * d + 1)) (some d) none
    | none => none

def opsD {R : Type} (T : Nat → Option TI) (G : Env) (k nt : Nat) (ops : Array Oper) : List Oper → St → List (Rec × St) → (St → List (Rec × St) → Option R) → Option R
  | [], st, rs, K => K st rs
  | o :: r, st, rs, K => guardK ops o st
      (fun st' => opK T G k o.dst st' o.op fun v eff => match o.dst with
        | some d => chk (Nat.blt d nt) (opsD T G k nt ops r ((2 * d, .tv v) :: (eff ++ st')) (rs ++ [(recOf ops o st' ((2 * d, .tv v) :: eff), (2 * d, .tv v) :: eff)]) K)
        | none => opsD T G k nt ops r (eff ++ st') (rs ++ [(recOf ops o st' eff, eff)]) K)
      (fun st' => match o.dst with
        | some d => chk (Nat.blt d nt) (opsD T G k nt ops r ((2 * d, .undef) :: st') (rs ++ [(recOf ops { o with op := .ready 0 } st' [(2 * d, .undef)], [(2 * d, .undef)])]) K)
        | none => opsD T G k nt ops r st' (rs ++ [(recOf ops { o with op := .ready 0 } st' [], [])]) K)

def ancOf (as : List (List Nat)) (o : Oper) : List Nat := o.after.toList.flatMap fun e => cond (Region.binds .any e) (e.on :: as.getD e.on []) []
def ancs : List Oper → List (List Nat) → List (List Nat)
  | [], as => as
  | o :: r, as => ancs r (as ++ [ancOf as o])

def meets (a b : List Nat) : Bool := a.any fun x => b.any fun y => Nat.beq x y
def conflict (a b : Rec) : Bool := meets a.wr b.rd || meets a.rd b.wr || meets a.wr b.wr
def has (l : List Nat) (n : Nat) : Bool := l.any (Nat.beq n)

/-- 'a' (the i-th) stands ahead of 'b' (the j-th) in the text. -/
def pairOk (as : List (List Nat)) (a : Rec) (i : Nat) (b : Rec) (j : Nat) : Bool :=
  (!(conflict a b) || has (as.getD j []) i) &&
  (match a.made with | some n => !(has b.nm n) || has (as.getD j []) i | none => true) &&
  (match b.made with | some n => !(has a.nm n) && !(has a.wr (2 * n + 1)) | none => true)
def rowOk (as : List (List Nat)) (a : Rec) (i : Nat) : List Rec → Nat → Bool
  | [], _ => true
  | b :: r, j => pairOk as a i b j && rowOk as a i r (j + 1)
def recsOk (as : List (List Nat)) : List Rec → Nat → Bool
  | [], _ => true
  | a :: r, i => rowOk as a i r (i + 1) && recsOk as r (i + 1)
def madeOk (st : St) : List Rec → Bool
  | [] => true
  | a :: r => (match a.made with | some n => fresh st n | none => true) && madeOk st r
def edgesOk : List Oper → Nat → Bool
  | [], _ => true
  | o :: r, i => (o.after.toList.all fun e => !(Region.binds .any e) || Nat.blt e.on i) && edgesOk r (i + 1)

def drawK {R : Type} (T : Nat → Option TI) (G : Env) (k nt : Nat) (ops : Array Oper) (st : St) (K : St → Option R) : Option R :=
  chk (edgesOk ops.toList 0) (opsD T G k nt ops ops.toList st [] fun st' rs => chk (recsOk (ancs ops.toList []) (rs.map (·.1)) 0 && madeOk st (rs.map (·.1))) (K st'))

/-! ### Code -/
def newName (m : List (Nat × Nat)) (n : Nat) : Option Nat := match m with
  | [] => none
  | (o, x) :: r => cond (Nat.beq o n) (some x) (newName r n)
def renC (m : List (Nat × Nat)) : Cell → Option Cell
  | .ptr id off => (newName m id).bind fun n => some (.ptr n off)
  | .own id => (newName m id).bind fun n => some (.own n)
  | .eptr id i off s => (newName m id).bind fun n => some (.eptr n i off s)
  | .clo f t id off => (newName m id).bind fun n => some (.clo f t n off)
  | .osl id lo s => (newName m id).bind fun n => some (.osl n lo s)
  | .asl id off k => (newName m id).bind fun n => some (.asl n off k)
  | .mp id => (newName m id).bind fun n => some (.mp n)
  | c => some c
def renCs (m : List (Nat × Nat)) : List Cell → Option (List Cell)
  | [] => some []
  | c :: r => (renC m c).bind fun x => (renCs m r).bind fun l => some (x :: l)
def renFl (m : List (Nat × Nat)) : Fl → Option Fl
  | .c x => (renC m x).bind fun y => some (.c y)
  | .agg cs => (renCs m cs).bind fun l => some (.agg l)
def renLv (m : List (Nat × Nat)) : Lv → Option Lv
  | .tv (.f x) => (renFl m x).bind fun y => some (.tv (.f y))
  | .box cs => (renCs m cs).bind fun l => some (.box l)
  | .row e t xs => some (.row e t xs)
  | .iter l pos => some (.iter l pos)
  | .set t xs => some (.set t xs)
  | .bld T q => (renC m q).bind fun x => some (.bld T x)
  | _ => none
/-- The names of what the cells lead to, from 'b' on. -/
def gather (b : Nat) : List Cell → List (Nat × Nat) → List (Nat × Nat)
  | [], m => m
  | c :: r, m => gather (b + 1) r (match c.id? with
    | some id => match newName m id with
      | some _ => m
      | none => m ++ [(id, b)]
    | none => m)
def lvCells : Lv → List Cell
  | .tv (.f x) => x.cells
  | .box cs => cs
  | .bld _ q => [q]
  | _ => []
def gatherS (st : St) : List Nat → List (Nat × Nat) → List (Nat × Nat)
  | [], m => m
  | s :: r, m => gatherS st r (match look st (2 * s) with
    | some v => gather (1000 + 64 * s) (lvCells v) m
    | none => m)
def gatherO (st : St) : List (Nat × Nat) → List (Nat × Nat) → List (Nat × Nat)
  | [], m => m
  | p :: r, m => gatherO st r (match look st (2 * p.1 + 1) with
    | some v => gather (100000 + 64 * p.2) (lvCells v) m
    | none => m)
def keepS (m : List (Nat × Nat)) (st : St) : List Nat → Option St
  | [] => some []
  | s :: r => (look st (2 * s)).bind fun v => (renLv m v).bind fun v' => (keepS m st r).bind fun l => some ((2 * s, v') :: l)
def keepO (m : List (Nat × Nat)) (st : St) : List (Nat × Nat) → Option St
  | [] => some []
  | p :: r => match look st (2 * p.1 + 1) with
    | some .gone => keepO m st r
    | some v => (renLv m v).bind fun v' => (keepO m st r).bind fun l => some ((2 * p.2 + 1, v') :: l)
    | none => keepO m st r
def nodupB : List Nat → Bool
  | [] => true
  | a :: r => !(has r a) && nodupB r
/-- What is kept of a state at a loop's head: some slots, the objects named anew. -/
def restrict (L : List Nat) (st : St) : Option St :=
  let m1 := gatherS st L []
  let m := gatherO st m1 m1
  chk (nodupB (m.map (·.1)) && nodupB (m.map (·.2))) ((keepS m st L).bind fun a => (keepO m st m).bind fun b => some (a ++ b))

/-- How a loop is taken: its round alone, some slots kept; or round by round. 'mend': what is told otherwise at its head: (place, cell, how). -/
inductive Mend where
  | own (e : TypeId) (n : Nat)
  | ro (t : Ty)
inductive Lp where
  | keep (L : List Nat) (ms : List (Nat × Nat × Mend))
  | unroll (n : Nat)
  | freeze (ids : List Nat)

def setCell (lv : Lv) (i : Nat) (c : Cell) : Lv := match lv with
  | .tv (.f (.c _)) => .tv (.f (.c c))
  | .tv (.f (.agg cs)) => .tv (.f (.agg (cs.set i c)))
  | .box cs => .box (cs.set i c)
  | .bld T _ => .bld T c
  | x => x

def mend1 (T : Nat → Option TI) (l i : Nat) (m : Mend) (st : St) : Option St :=
  match look st l with
  | some lv => match (lvCells lv)[i]?, m with
    | some .nil, .own e n => chk (fresh st n) ((T e).bind fun te => some ((2 * n + 1, .row e te.ty []) :: (l, setCell lv i (.own n)) :: st))
    | some .nil, .ro t => some ((l, setCell lv i (.v (.sl t) [])) :: st)
    | some (.own id), .ro _ => match look st (2 * id + 1) with
      | some (.row _ t xs) => some ((2 * id + 1, .gone) :: (l, setCell lv i (.v (.sl t) xs)) :: st)
      | _ => none
    | _, _ => some st
  | none => some st

def mend (T : Nat → Option TI) : List (Nat × Nat × Mend) → St → Option St
  | [], st => some st
  | m :: r, st => (mend1 T m.1 m.2.1 m.2.2 st).bind (mend T r)

/-- A row is no longer owned: it is read alone, wherever it is told of. -/
def mapFl (m : Cell → Cell) : Fl → Fl
  | .c x => .c (m x)
  | .agg cs => .agg (cs.map m)
def mapLv (m : Cell → Cell) : Lv → Lv
  | .tv (.f x) => .tv (.f (mapFl m x))
  | .tv (.tup l) => .tv (.tup (l.map (mapFl m)))
  | .box cs => .box (cs.map m)
  | .bld T q => .bld T (m q)
  | x => x
def thaw (id : Nat) (t : Ty) (xs : List t.den) : Cell → Cell
  | .own j => cond (Nat.beq j id) (.v (.sl t) xs) (.own j)
  | c => c
def freeze1 (id : Nat) (st : St) : Option St := match look st (2 * id + 1) with
  | some (.row _ t xs) => some (((2 * id + 1, .gone) :: st).map fun p => (p.1, mapLv (thaw id t xs) p.2))
  | _ => none
def freezes : List Nat → St → Option St
  | [], st => some st
  | i :: r, st => (freeze1 i st).bind (freezes r)

def head (T : Nat → Option TI) (L : List Nat) (ms : List (Nat × Nat × Mend)) (st : St) : Option St :=
  match ms with
  | [] => restrict L st
  | _ :: _ => (restrict L st).bind fun s1 => (mend T ms s1).bind (restrict L)

structure Kt (R : Type) where
  norm : St → Option R
  exit : Nat → St → Option R
  ret : St → Option R

def firstRegion : Code → Nat
  | .region id _ _ => id
  | .seq a _ => firstRegion a
  | .block _ b => firstRegion b
  | .loop b => firstRegion b
  | _ => 0

def loopN {R : Type} : Nat → (St → (St → Option R) → Option R) → St → Option R
  | 0, _, _ => none
  | n + 1, F, st => F st (loopN n F)

def codeK {R : Type} (T : Nat → Option TI) (G : Env) (live : Nat → Lp) (k nt : Nat) : Code → St → Kt R → Option R
  | .skip, st, K => K.norm st
  | .region id ops draw, st, K => match live id with
    | .freeze ids => cond draw (drawK T G k nt ops st fun st' => (freezes ids st').bind K.norm) (opsK T G k nt ops ops.toList st fun st' => (freezes ids st').bind K.norm)
    | _ => cond draw (drawK T G k nt ops st K.norm) (opsK T G k nt ops ops.toList st K.norm)
  | .seq a b, st, K => codeK T G live k nt a st { K with norm := fun st' => codeK T G live k nt b st' K }
  | .cond (.tmp t) a b, st, K => match look st (2 * t) with
    | some (.tv (.f (.c (.v .bool x)))) => cond x (codeK T G live k nt a ((2 * t, .tv (.f (.c (.v .bool true)))) :: st) K) (codeK T G live k nt b ((2 * t, .tv (.f (.c (.v .bool false)))) :: st) K)
    | _ => none
  | .block id b, st, K => codeK T G live k nt b st { K with exit := fun i st' => cond (Nat.beq i id) (K.norm st') (K.exit i st') }
  | .exit id, st, K => K.exit id st
  | .ret, st, K => K.ret st
  | .loop b, st, K => match live (firstRegion b) with
    | .keep L ms => (head T L ms st).bind fun st0 => loopN k (fun st' kn => codeK T G live k nt b st' { K with norm := fun st'' => (head T L ms st'').bind kn }) st0
    | .unroll n => loopN n (fun st' kn => codeK T G live k nt b st' { K with norm := kn }) st
    | .freeze _ => none
  | _, _, _ => none

def initSt : Nat → List Fl → St
  | _, [] => []
  | i, x :: r => (2 * i, .tv (.f x)) :: initSt (i + 1) r

def resFls (T : Nat → Option TI) (st : St) : List ResultVar → Option (List Fl)
  | [] => some []
  | .tmp t :: r => (evF st (.tmp t)).bind fun x => (resFls T st r).bind fun l => some (x :: l)
  | .cell p t :: r => (T t).bind fun ti => (evC st (.tmp p)).bind fun c => match c with
    | .ptr id off => match look st (2 * id + 1) with
      | some (.box cs) => (pick ti cs off).bind fun x => (resFls T st r).bind fun l => some (x :: l)
      | _ => none
    | _ => none

def topK (T : Nat → Option TI) (fn : Func) (rs : List Ty) : Kt (Dens rs) where
  norm := fun st => (resFls T st fn.results.toList).bind (ofFls false st rs)
  exit := fun _ _ => none
  ret := fun st => (resFls T st fn.results.toList).bind (ofFls false st rs)

/-- A function: what it answers to values of its parameters' types. -/
def fnK (T : Nat → Option TI) (G : Env) (live : Nat → Lp) (k : Nat) (fn : Func) (ts rs : List Ty) (x : Dens ts) : Option (Dens rs) :=
  match fn.body with
  | some c => codeK T G live k fn.ntmps c (initSt 0 (flsOf ts x)) (topK T fn rs)
  | none => none

/-! ### Loops by name -/
def lps (l : List (Nat × Lp)) (n : Nat) : Lp := match findL l n with
  | some x => x
  | none => .unroll 0
def kns {R : Type} (l : List (Nat × (St → Option R))) (n : Nat) (st : St) : Option R := match findL l n with
  | some f => f st
  | none => none

/-- The round of the loop of a name, where it stands. -/
def loopF {R : Type} (T : Nat → Option TI) (G : Env) (live : Nat → Lp) (k nt : Nat) (kn : Nat → St → Option R) (i : Nat) : Code → Kt R → Option (St → (St → Option R) → Option R)
  | .seq a b, K => match loopF T G live k nt kn i a { K with norm := fun st' => codeK T G live k nt b st' K } with
    | some F => some F
    | none => loopF T G live k nt kn i b K
  | .cond _ a b, K => match loopF T G live k nt kn i a K with
    | some F => some F
    | none => loopF T G live k nt kn i b K
  | .block id b, K => loopF T G live k nt kn i b { K with exit := fun j st' => cond (Nat.beq j id) (K.norm st') (K.exit j st') }
  | .loop b, K => match live (firstRegion b) with
    | .keep L ms => cond (Nat.beq (firstRegion b) i) (some fun st' kk => codeK T G live k nt b st' { K with norm := fun st'' => (head T L ms st'').bind kk })
      (loopF T G live k nt kn i b { K with norm := fun st'' => (head T L ms st'').bind (kn (firstRegion b)) })
    | .unroll _ => none
    | .freeze _ => none
  | _, _ => none

def stepAt {R : Type} (T : Nat → Option TI) (G : Env) (live : Nat → Lp) (k nt : Nat) (kn : Nat → St → Option R) (i : Nat) (c : Code) (K : Kt R) (st : St) (kk : St → Option R) : Option R :=
  match loopF T G live k nt kn i c K with
  | some F => F st kk
  | none => none
def loopAt {R : Type} (T : Nat → Option TI) (G : Env) (live : Nat → Lp) (k nt : Nat) (kn : Nat → St → Option R) (i : Nat) (c : Code) (K : Kt R) (n : Nat) (st : St) : Option R :=
  match loopF T G live k nt kn i c K with
  | some F => loopN n F st
  | none => none

/-- A loop of a plain function. -/
def loopP {α R : Type} (B : (α → Option R) → α → Option R) : Nat → α → Option R
  | 0 => fun _ => none
  | n + 1 => B (loopP B n)

end Go.Ab
