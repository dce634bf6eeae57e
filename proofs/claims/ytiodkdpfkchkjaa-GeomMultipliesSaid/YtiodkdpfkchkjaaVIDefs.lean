/- The abstract values, states and the evaluator by which Go code of this program is run as a plain function on lists. Nothing is claimed here. -/
import Derived.WalkKit
import Derived.Orders
set_option linter.unusedVariables false
set_option linter.unusedSimpArgs false
set_option linter.unusedSectionVars false
namespace Go.VI

/-- An abstract value of a slot. -/
inductive PV where
  | undef
  | lit (v : Value)
  | nl
  | sl (es : List (List PV))
  | own (g e : Nat) (es : List (List PV))
  | agg (cs : List PV)
  | tup (vs : List PV)
  | ptr (g : Nat) (cs : List PV) (off : Nat)
  | vptr (cs : List PV) (off : Nat)
  | optr (g e : Nat) (es : List (List PV)) (i off : Nat)
  | fn (f : Nat) (caps : List PV)
  deriving Inhabited

mutual
/-- Does the tag g occur? -/
def PV.has (g : Nat) : PV → Bool
  | .own g' _ _ => g == g'
  | .optr g' _ _ _ _ => g == g'
  | .ptr g' cs _ => g == g' || PV.hasL g cs
  | .agg cs => PV.hasL g cs
  | .tup cs => PV.hasL g cs
  | .fn _ cs => PV.hasL g cs
  | _ => false
def PV.hasL (g : Nat) : List PV → Bool
  | [] => false
  | c :: cs => PV.has g c || PV.hasL g cs
end
mutual
/-- No tag at all: what may be handed on for good. -/
def PV.free : PV → Bool
  | .undef => true
  | .lit _ => true
  | .nl => true
  | .sl _ => true
  | .vptr _ _ => true
  | .agg cs => PV.freeL cs
  | .fn _ cs => PV.freeL cs
  | .tup cs => PV.freeL cs
  | .own _ _ _ => false
  | .optr _ _ _ _ _ => false
  | .ptr _ _ _ => false
def PV.freeL : List PV → Bool
  | [] => true
  | c :: cs => PV.free c && PV.freeL cs
end
mutual
/-- A result that leads to new memory alone. -/
def PV.fresh : PV → Bool
  | .undef => true
  | .lit _ => true
  | .nl => true
  | .own _ _ es => es.all fun e => e.all fun c => match c with | .lit _ => true | _ => false
  | .agg cs => PV.freshL cs
  | .tup cs => PV.freshL cs
  | _ => false
def PV.freshL : List PV → Bool
  | [] => true
  | c :: cs => PV.fresh c && PV.freshL cs
end
mutual
/-- The tag g is forgotten. -/
def PV.kill (g : Nat) : PV → PV
  | .own g' e es => if g = g' then .undef else .own g' e es
  | .optr g' e es i o => if g = g' then .undef else .optr g' e es i o
  | .ptr g' cs o => if g = g' then .undef else .ptr g' (PV.killL g cs) o
  | .agg cs => .agg (PV.killL g cs)
  | .tup cs => .tup (PV.killL g cs)
  | .fn f cs => .fn f (PV.killL g cs)
  | .undef => .undef
  | .lit v => .lit v
  | .nl => .nl
  | .sl es => .sl es
  | .vptr cs o => .vptr cs o
def PV.killL (g : Nat) : List PV → List PV
  | [] => []
  | c :: cs => PV.kill g c :: PV.killL g cs
end
/-- cells put in from place off on -/
def setAt : List PV → Nat → List PV → List PV
  | cs, _, [] => cs
  | cs, off, v :: vs => setAt (cs.set off v) (off + 1) vs
mutual
/-- A store into the box g. -/
def PV.upd (g off : Nat) (vs : List PV) : PV → PV
  | .ptr g' cs o => if g = g' then .ptr g' (setAt (PV.updL g off vs cs) off vs) o else .ptr g' (PV.updL g off vs cs) o
  | .agg cs => .agg (PV.updL g off vs cs)
  | .tup cs => .tup (PV.updL g off vs cs)
  | .fn f cs => .fn f (PV.updL g off vs cs)
  | .undef => .undef
  | .lit v => .lit v
  | .nl => .nl
  | .sl es => .sl es
  | .vptr cs o => .vptr cs o
  | .own g' e es => .own g' e es
  | .optr g' e es i o => .optr g' e es i o
def PV.updL (g off : Nat) (vs : List PV) : List PV → List PV
  | [] => []
  | c :: cs => PV.upd g off vs c :: PV.updL g off vs cs
end
/-- a store into element i -/
def setRow (es : List (List PV)) (i off : Nat) (vs : List PV) : List (List PV) := es.modify i (setAt · off vs)
mutual
/-- A store into the row g. -/
def PV.updR (g i off : Nat) (vs : List PV) : PV → PV
  | .own g' e es => if g = g' then .own g' e (setRow es i off vs) else .own g' e es
  | .optr g' e es j o => if g = g' then .optr g' e (setRow es i off vs) j o else .optr g' e es j o
  | .ptr g' cs o => .ptr g' (PV.updRL g i off vs cs) o
  | .agg cs => .agg (PV.updRL g i off vs cs)
  | .tup cs => .tup (PV.updRL g i off vs cs)
  | .fn f cs => .fn f (PV.updRL g i off vs cs)
  | .undef => .undef
  | .lit v => .lit v
  | .nl => .nl
  | .sl es => .sl es
  | .vptr cs o => .vptr cs o
def PV.updRL (g i off : Nat) (vs : List PV) : List PV → List PV
  | [] => []
  | c :: cs => PV.updR g i off vs c :: PV.updRL g i off vs cs
end
mutual
/-- How a callee, or whoever gets it for good, sees it. -/
def PV.view : PV → PV
  | .undef => .undef
  | .lit v => .lit v
  | .nl => .sl []
  | .sl es => .sl es
  | .own _ _ es => .sl es
  | .agg cs => .agg (PV.viewL cs)
  | .tup cs => .tup (PV.viewL cs)
  | .ptr _ cs off => .vptr (PV.viewL cs) off
  | .vptr cs off => .vptr cs off
  | .optr _ _ es i off => .vptr (es.getD i []) off
  | .fn f caps => .fn f (PV.viewL caps)
def PV.viewL : List PV → List PV
  | [] => []
  | c :: cs => PV.view c :: PV.viewL cs
end

/-- A state: the slots' values; the first entry of a slot counts. -/
abbrev St := List (Nat × PV)
def St.get : St → Nat → PV
  | [], _ => .undef
  | (i, v) :: s, k => if k = i then v else St.get s k
def St.set (s : St) (d : Nat) (v : PV) : St := (d, v) :: s
def St.map (f : PV → PV) : St → St
  | [] => []
  | (i, v) :: s => (i, f v) :: St.map f s
def St.has (g : Nat) : St → Bool
  | [] => false
  | (_, v) :: s => v.has g || St.has g s

/-- A constant cell. -/
def ofC : Value → PV
  | .slice none 0 0 => .nl
  | .agg _ => .undef
  | .tuple _ => .undef
  | v => .lit v
def ofV : Value → PV
  | .agg cs => .agg (cs.toList.map ofC)
  | .tuple vs => if vs.size = 0 then .lit undef else .undef
  | .func (.func f) first caps => if first.size = 0 ∧ caps.size = 0 then .fn f [] else .undef
  | v => ofC v
def pev (s : St) : Operand → PV
  | .tmp t => s.get t
  | .const v => ofV v
  | .global _ => .undef
  | .func f => .fn f []
/-- The cells of a value. -/
def PV.cells : PV → List PV
  | .agg cs => cs
  | v => [v]
/-- One cell, of a known make. -/
def PV.cell : PV → Bool
  | .lit v => v.oneCell'
  | .undef => false
  | .agg _ => false
  | .tup _ => false
  | _ => true
/-- A cell that may lie in a row: free of tags, of a known make. -/
def PV.still : PV → Bool
  | .lit v => v.oneCell'
  | .sl _ => true
  | _ => false

section
variable (P : Program)
def tAgg (t : TypeId) : Option Bool := match P.underlying t with | some (.struct _) => some true | some (.array ..) => some true | some _ => some false | none => none
def tElem (t : TypeId) : Option TypeId := match P.underlying t with | some (.slice e) => some e | _ => none
def tArr (t : TypeId) : Option (Nat × TypeId) := match P.underlying t with | some (.array n e) => some (n, e) | _ => none
def tInt (t : TypeId) : Option IntKind := match P.underlying t with | some (.int k) => some k | _ => none
/-- a field: where it begins and its type -/
def tFld (t : TypeId) (i : Nat) : Option (Nat × TypeId) := match P.underlying t with | some (.struct fs) => (fs[i]?).map fun f => (f.offset, f.type) | _ => none
def tZero (t : TypeId) : Option Value := (P.info? t).bind (·.zero)
def tSize (t : TypeId) : Nat := P.cellsOf t
/-- The element type of a row: its cells, its bytes are few. -/
def tRow (e : TypeId) : Bool := match P.info? e with | some i => decide (0 < i.size) && decide (i.bytes ≤ 65536) && (match i.zero with | some z => decide (z.cells.size = i.size) | none => false) | none => false
end

/-- The most elements of a row that is made. -/
def LIM : Nat := 1073741824

def pbin (op : BinOp) (x y : PV) : Option PV :=
  match x, y with
  | .lit (.int k a), .lit (.int k' b) =>
    match op with
    | .add => if k = k' then some (.lit (.int k (k.wrap (a + b)))) else none
    | .sub => if k = k' then some (.lit (.int k (k.wrap (a - b)))) else none
    | .mul => if k = k' then some (.lit (.int k (k.wrap (a * b)))) else none
    | .quo => if k = k' ∧ b ≠ 0 then some (.lit (.int k (k.wrap (a.tdiv b)))) else none
    | .rem => if k = k' ∧ b ≠ 0 then some (.lit (.int k (a.tmod b))) else none
    | .eql => if k = k' then some (.lit (.bool (a == b))) else none
    | .neq => if k = k' then some (.lit (.bool (a != b))) else none
    | .lss => if k = k' then some (.lit (.bool (decide (a < b)))) else none
    | .leq => if k = k' then some (.lit (.bool (decide (a ≤ b)))) else none
    | .gtr => if k = k' then some (.lit (.bool (decide (a > b)))) else none
    | .geq => if k = k' then some (.lit (.bool (decide (a ≥ b)))) else none
    | .shl => if 0 ≤ b then some (.lit (.int k (k.wrap (a * 2 ^ (min b.toNat k.bits))))) else none
    | .shr => if 0 ≤ b then some (.lit (.int k (a.fdiv (2 ^ (min b.toNat k.bits))))) else none
    | .and => if k = k' then some (.lit (.int k (k.wrap (BitVec.ofInt k.bits a &&& BitVec.ofInt k.bits b).toNat))) else none
    | .or => if k = k' then some (.lit (.int k (k.wrap (BitVec.ofInt k.bits a ||| BitVec.ofInt k.bits b).toNat))) else none
    | .xor => if k = k' then some (.lit (.int k (k.wrap (BitVec.ofInt k.bits a ^^^ BitVec.ofInt k.bits b).toNat))) else none
    | .andNot => if k = k' then some (.lit (.int k (k.wrap (BitVec.ofInt k.bits a &&& ~~~(BitVec.ofInt k.bits b)).toNat))) else none
  | _, _ => none

/-- What an operation does to a state: it yields a value; it makes something new under the slot's own tag; it turns what is there. -/
inductive Res where
  | val (v : PV)
  | new (v : PV)
  | mut (f : PV → PV) (v : PV)

def tBool (P : Program) (t : TypeId) : Bool := match P.underlying t with
  | some .bool => true
  | _ => false
/-- The operators on bools and strings, too. -/
def pbin2 (P : Program) (op : BinOp) (t : TypeId) (x y : PV) : Option PV :=
  match x, y with
  | .lit (.bool a), .lit (.bool b) => if tBool P t = true then (match op with
    | .eql => some (.lit (.bool (a == b)))
    | .neq => some (.lit (.bool !(a == b)))
    | _ => none) else none
  | .lit (.string a), .lit (.string b) => (match op with
    | .eql => some (.lit (.bool (a.toList == b.toList)))
    | .neq => some (.lit (.bool !(a.toList == b.toList)))
    | .lss => some (.lit (.bool (Op.bytesLess a.toList b.toList)))
    | .leq => some (.lit (.bool (Op.bytesLess a.toList b.toList || (a.toList == b.toList))))
    | .gtr => some (.lit (.bool !(Op.bytesLess a.toList b.toList || (a.toList == b.toList))))
    | .geq => some (.lit (.bool !(Op.bytesLess a.toList b.toList)))
    | _ => none)
  | _, _ => pbin op x y
/-- The integers among arguments, all of one kind. -/
def pints : List PV → Option (IntKind × List Int)
  | [.lit (.int k n)] => some (k, [n])
  | .lit (.int k n) :: rest => match pints rest with
    | some (k', l) => if k = k' then some (k, n :: l) else none
    | none => none
  | _ => none
def imax (x y : Int) : Int := if y > x then y else x
def imin (x y : Int) : Int := if y < x then y else x
def pfold (f : Int → Int → Int) : Option (IntKind × List Int) → Option Res
  | some (k, x :: rest) => some (.val (.lit (.int k (rest.foldl f x))))
  | _ => none

def pun (op : UnOp) (x : PV) : Option PV :=
  match op, x with
  | .neg, .lit (.int k n) => some (.lit (.int k (k.wrap (0 - n))))
  | .not, .lit (.bool b) => some (.lit (.bool !b))
  | _, _ => none

/-- '==' of cells that are integers. -/
def peqL : List PV → List PV → Option Bool
  | [], [] => some true
  | .lit (.int .i64 a) :: xs, .lit (.int .i64 b) :: ys => (peqL xs ys).map ((a == b) && ·)
  | _, _ => none

/-- a run of cells -/
def range? (cs : List PV) (off n : Nat) : Option (List PV) := if off + n ≤ cs.length then some ((cs.drop off).take n) else none

def pload (agg : Bool) (size : Nat) (p : PV) : Option PV :=
  match p with
  | .ptr _ cs off | .vptr cs off => if agg then (range? cs off size).map .agg else cs[off]?
  | .optr _ _ es i off => match es[i]? with
    | some cs => if agg then (range? cs off size).map .agg else cs[off]?
    | none => none
  | _ => none

def PV.isAgg : PV → Bool
  | .agg _ => true
  | _ => false
def pstore (agg : Bool) (size : Nat) (p x : PV) : Option Res :=
  let vs := x.cells
  if vs.length = size ∧ x.isAgg = agg then
    match p with
    | .ptr g cs off => if off + size ≤ cs.length ∧ vs.all PV.cell = true ∧ PV.hasL g vs = false then some (.mut (PV.upd g off vs) (.lit undef)) else none
    | .optr g _ es i off => match es[i]? with
      | some cs => if off + size ≤ cs.length ∧ vs.all PV.still = true then some (.mut (PV.updR g i off vs) (.lit undef)) else none
      | none => none
    | _ => none
  else none

/-- a step from a pointer -/
def padd (n : Nat) : PV → Option PV
  | .ptr g cs off => some (.ptr g cs (off + n))
  | .vptr cs off => some (.vptr cs (off + n))
  | .optr g e es i off => some (.optr g e es i (off + n))
  | _ => none

/-- an index -/
def pidx : PV → Option Nat
  | .lit (.int _ i) => if 0 ≤ i then some i.toNat else none
  | _ => none

def pindexAddr (size : Nat) (x : PV) (i : Nat) : Option PV :=
  match x with
  | .sl es => match es[i]? with
    | some e => if e.length = size then some (.vptr e 0) else none
    | none => none
  | .own g e es => match es[i]? with
    | some c => if c.length = size then some (.optr g e es i 0) else none
    | none => none
  | _ => none

def poptL (s : St) : Option Operand → Option Nat
  | none => some 0
  | some x => pidx (pev s x)
def poptH (s : St) : Option Operand → Option (Option Nat)
  | none => some none
  | some x => (pidx (pev s x)).map some

/-- the elements of a slice -/
def PV.elems : PV → Option (List (List PV))
  | .sl es => some es
  | .own _ _ es => some es
  | .nl => some []
  | _ => none

def pslice (size : Nat) (x : PV) (lo : Nat) (hi : Option Nat) : Option Res :=
  match x with
  | .sl es => let h := hi.getD es.length
    if lo ≤ h ∧ h ≤ es.length ∧ (lo == 0 || es.all (fun c => c.length == size)) = true then some (.val (.sl ((es.take h).drop lo))) else none
  | .own g e es => let h := hi.getD es.length
    if lo = 0 ∧ h ≤ es.length then some (.mut (PV.kill g) (.own g e (es.take h))) else none
  | _ => none

def pappend (e size : Nat) (d : Nat) (s x : PV) : Option Res :=
  match x.elems with
  | some xs =>
    if xs.all (fun c => c.length == size) then
    match s with
    | .own g e' es => if e = e' ∧ es.length + xs.length ≤ LIM then some (.mut (PV.kill g) (.own g e (es ++ xs))) else none
    | .nl => if xs.length ≤ LIM then some (.new (.own d e xs)) else none
    | _ => none
    else none
  | none => none

def plen : PV → Option Int
  | .sl es => some es.length
  | .own _ _ es => some es.length
  | .nl => some 0
  | _ => none
def plenS : PV → Option Int
  | .lit (.string s) => some s.size
  | _ => none

/-- the parts of a struct or an array laid into its zero -/
def pfill (place : Nat → Option (Nat × Nat)) (cells : List PV) : List (Nat × PV) → Option (List PV)
  | [] => some cells
  | (i, v) :: rest =>
    match place i with
    | some (off, size) => if v.cells.length = size ∧ off + size ≤ cells.length ∧ v.cells.all PV.cell = true then pfill place (setAt cells off v.cells) rest else none
    | none => none

/-- A call of a builtin. -/
def pcallB (P : Program) (s : St) (d : Nat) (c : Call) : Option Res :=
  match c.callee with
  | .builtin .len => (match c.args.toList, c.argTypes.toList with
    | [x], [t] => (match P.underlying t with
      | some (.slice _) => (plen (pev s x)).map fun n => .val (.lit (.int .i64 n))
      | some .string => (plenS (pev s x)).map fun n => .val (.lit (.int .i64 n))
      | _ => none)
    | _, _ => none)
  | .builtin .append => (match c.args.toList, c.argTypes.toList with
    | [a, x], [t, t'] => if t = t' then (match tElem P t with
      | some e => if tRow P e then pappend e (tSize P e) d (pev s a) (pev s x) else none
      | none => none) else none
    | _, _ => none)
  | .builtin .max => pfold imax (pints (c.args.toList.map (pev s)))
  | .builtin .min => pfold imin (pints (c.args.toList.map (pev s)))
  | _ => none
/-- All but calls of functions. -/
def peop (P : Program) (eqn : TypeId → Nat) (s : St) (d : Nat) (ty : TypeId) : Op → Option Res
  | .move x => some (.val (pev s x))
  | .assign x => match pev s x, tElem P ty with
    | .nl, some e => if tRow P e then some (.new (.own d e [])) else none
    | v, _ => some (.val v)
  | .pick c a b => match pev s c with
    | .lit (.bool true) => some (.val (pev s a))
    | .lit (.bool false) => some (.val (pev s b))
    | _ => none
  | .alloc e => match tZero P e with
    | some z => some (.new (.ptr d (ofV z).cells 0))
    | none => none
  | .box _ x => if (pev s x).cells.all PV.cell = true then some (.new (.ptr d (PV.killL d (pev s x).cells) 0)) else none
  | .build t parts => match tZero P t with
    | some z => match P.underlying t with
      | some (.struct fs) => if fs.toList.all (fun f => (P.info? f.type).isSome) then (pfill (fun i => (fs[i]?).map fun f => (f.offset, tSize P f.type)) (ofV z).cells (parts.toList.map fun (i, x) => (i, pev s x))).map fun cs => .val (.agg cs) else none
      | some (.array _ e) => if (P.info? e).isSome then (pfill (fun i => some (i * tSize P e, tSize P e)) (ofV z).cells (parts.toList.map fun (i, x) => (i, pev s x))).map fun cs => .val (.agg cs) else none
      | _ => none
    | none => none
  | .buildSlice t len parts => match tElem P t with
    | some e => if parts.toList.map (·.1) = List.range len ∧ 0 < tSize P e ∧ len * tSize P e ≤ 16777216 ∧ tRow P e = true ∧ (parts.toList.all fun (_, x) => (pev s x).cells.length == tSize P e && (pev s x).cells.all PV.still) = true then
        some (.val (.sl (parts.toList.map fun (_, x) => (pev s x).cells))) else none
    | none => none
  | .load t a => match tAgg P t with
    | some agg => (pload agg (tSize P t) (pev s a)).map .val
    | none => none
  | .store t a x => match tAgg P t with
    | some agg => pstore agg (tSize P t) (pev s a) (pev s x)
    | none => none
  | .binOp op t x y _ => match pev s x, pev s y with
    | .agg xs, .agg ys =>
      if xs.length = eqn t ∧ 0 < xs.length then match peqL xs ys with
        | some b => (match op with
          | .eql => some (.val (.lit (.bool b)))
          | .neq => some (.val (.lit (.bool !b)))
          | _ => none)
        | none => none
      else none
    | px, py => (pbin2 P op t px py).map .val
  | .unOp op _ x => (pun op (pev s x)).map .val
  | .convert src dst x => match P.underlying src, tInt P dst, pev s x with
    | some _, some k, .lit (.int _ n) => some (.val (.lit (.int k (k.wrap n))))
    | _, _, _ => none
  | .makeFunc (.func f) first caps => if first.size = 0 then some (.val (.fn f (caps.toList.map (pev s)))) else none
  | .makeSlice t l h => match tElem P t, pidx (pev s l), pidx (pev s h) with
    | some e, some n, some m => (match tZero P e with
      | some z => if tRow P e = true ∧ n ≤ m ∧ m ≤ LIM ∧ (z.cells.toList.all Value.oneCell') = true then some (.new (.own d e (List.replicate n (z.cells.toList.map ofC)))) else none
      | none => none)
    | _, _, _ => none
  | .slice t x lo hi none => match tElem P t with
    | some e => if (P.info? e).isSome = true then (match poptL s lo, poptH s hi with
      | some l, some h => pslice (tSize P e) (pev s x) l h
      | _, _ => none) else none
    | none => none
  | .fieldAddr st x f => match tFld P st f with
    | some (off, ft) => if tSize P ft = 0 then none else (padd off (pev s x)).map .val
    | none => none
  | .field st x f => match tFld P st f, pev s x with
    | some (off, ft), .agg cs => (match tAgg P ft with
      | some true => (range? cs off (tSize P ft)).map fun l => .val (.agg l)
      | some false => (cs[off]?).map .val
      | none => none)
    | _, _ => none
  | .indexAddr t x ix => match tElem P t, pidx (pev s ix) with
    | some e, some i => if (P.info? e).isSome = true then (pindexAddr (tSize P e) (pev s x) i).map .val else none
    | none, some i => (match tArr P t with
      | some (n, e) => if i < n ∧ (P.info? e).isSome = true then (padd (i * tSize P e) (pev s x)).map .val else none
      | none => none)
    | _, _ => none
  | .index t x ix => match tArr P t, pidx (pev s ix), pev s x with
    | some (n, e), some i, .agg cs => if i < n then (match tAgg P e with
      | some true => (range? cs (i * tSize P e) (tSize P e)).map fun l => .val (.agg l)
      | some false => (cs[i * tSize P e]?).map .val
      | none => none) else none
    | _, _, _ => none
  | .extract x i => match pev s x with
    | .tup vs => (vs[i]?).map .val
    | _ => none
  | .call c => pcallB P s d c
  | _ => none
def Res.put (s : St) (d : Option Nat) : Res → St
  | .val v => match d with | some d => s.set d v | none => s
  | .new v => match d with | some d => (s.map (PV.kill d)).set d v | none => s
  | .mut f v => match d with | some d => (s.map f).set d v | none => s.map f
/-- Is the operation carried out? -/
def pguard (ops : Array Oper) (s : St) (o : Oper) : Option Bool :=
  match o.guard with
  | none => some true
  | some (j, want) => match (ops[j]?).bind (·.dst) with
    | some d => match s.get d with
      | .lit (.bool b) => some (b == want)
      | .lit _ => some false
      | _ => none
    | none => some false

end Go.VI
