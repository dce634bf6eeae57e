/- The abstract values, heaps, states and the evaluator by which Go code of this program is run as a plain function on lists. Nothing is claimed here. -/
import Derived.Test.YtppmnjiibmomoaaVHWords
set_option linter.unusedVariables false
set_option linter.unusedSimpArgs false
set_option linter.unusedSectionVars false
namespace Go.VI

/-- What bears a block: the object g itself, or the row in its cell (i, j). -/
inductive Key where
  | top (g : Nat)
  | sub (g i j : Nat)
  deriving Inhabited, DecidableEq
def Key.tag : Key → Nat
  | .top g => g
  | .sub g _ _ => g
def Key.isTop : Key → Bool
  | .top _ => true
  | .sub _ _ _ => false

/-- An abstract value of a slot. -/
inductive PV where
  | undef
  | lit (v : Value)
  | nl
  | sl (es : List (List PV))
  | fmap (m : List (Int × Int))
  | agg (cs : List PV)
  | tup (vs : List PV)
  | vptr (cs : List PV) (off : Nat)
  | fn (f : Nat) (caps : List PV)
  | row (k : Key) (e : Nat)
  | part (k : Key) (e lo n : Nat)
  | ptr (g off : Nat)
  | rptr (k : Key) (e i off : Nat)
  | mp (g : Nat)
  deriving Inhabited

/-- An object of one's own: a box of cells; a row of elements, with the places of their cells that own a row (and its elements' type); a map; a range over a map under way (the entries still to come, the one that came last). -/
inductive HO where
  | box (cs : List PV)
  | row (e : Nat) (J : List (Nat × Nat)) (es : List (List PV))
  | map (m : List (Int × Int))
  | it (left : List (Int × Int)) (cur : Option (Int × Int))
  deriving Inhabited

mutual
/-- Does a key of that kind occur? -/
def PV.has (p : Key → Bool) : PV → Bool
  | .row k _ => p k
  | .part k _ _ _ => p k
  | .rptr k _ _ _ => p k
  | .ptr g _ => p (.top g)
  | .mp g => p (.top g)
  | .agg cs => PV.hasL p cs
  | .tup cs => PV.hasL p cs
  | .fn _ cs => PV.hasL p cs
  | _ => false
def PV.hasL (p : Key → Bool) : List PV → Bool
  | [] => false
  | c :: cs => PV.has p c || PV.hasL p cs
end
mutual
/-- No key at all: what may be handed on for good. -/
def PV.free : PV → Bool
  | .undef => true
  | .lit _ => true
  | .nl => true
  | .sl _ => true
  | .fmap _ => true
  | .vptr _ _ => true
  | .agg cs => PV.freeL cs
  | .fn _ cs => PV.freeL cs
  | .tup cs => PV.freeL cs
  | _ => false
def PV.freeL : List PV → Bool
  | [] => true
  | c :: cs => PV.free c && PV.freeL cs
end
mutual
/-- The keys of that kind are forgotten. -/
def PV.kill (p : Key → Bool) : PV → PV
  | .row k e => if p k = true then .undef else .row k e
  | .part k e lo n => if p k = true then .undef else .part k e lo n
  | .rptr k e i o => if p k = true then .undef else .rptr k e i o
  | .ptr g o => if p (.top g) = true then .undef else .ptr g o
  | .mp g => if p (.top g) = true then .undef else .mp g
  | .agg cs => .agg (PV.killL p cs)
  | .tup cs => .tup (PV.killL p cs)
  | .fn f cs => .fn f (PV.killL p cs)
  | .undef => .undef
  | .lit v => .lit v
  | .nl => .nl
  | .sl es => .sl es
  | .fmap m => .fmap m
  | .vptr cs o => .vptr cs o
def PV.killL (p : Key → Bool) : List PV → List PV
  | [] => []
  | c :: cs => PV.kill p c :: PV.killL p cs
end
def PV.asRow : PV → PV
  | .sl es => .sl es
  | _ => .undef
def PV.asMap : PV → PV
  | .fmap m => .fmap m
  | _ => .undef
mutual
/-- The object g is no more: what led to the whole of it is now v. -/
def PV.frz (g : Nat) (u : PV) : PV → PV
  | .row k e => match k with
    | .top g' => if Nat.beq g' g = true then u.asRow else .row k e
    | .sub g' _ _ => if Nat.beq g' g = true then .undef else .row k e
  | .part k e lo n => if Nat.beq k.tag g = true then .undef else .part k e lo n
  | .rptr k e i o => if Nat.beq k.tag g = true then .undef else .rptr k e i o
  | .ptr g' o => if Nat.beq g' g = true then .undef else .ptr g' o
  | .mp g' => if Nat.beq g' g = true then u.asMap else .mp g'
  | .agg cs => .agg (PV.frzL g u cs)
  | .tup cs => .tup (PV.frzL g u cs)
  | .fn f cs => .fn f (PV.frzL g u cs)
  | .undef => .undef
  | .lit v => .lit v
  | .nl => .nl
  | .sl es => .sl es
  | .fmap m => .fmap m
  | .vptr cs o => .vptr cs o
def PV.frzL (g : Nat) (u : PV) : List PV → List PV
  | [] => []
  | c :: cs => PV.frz g u c :: PV.frzL g u cs
end
def ofTag (g : Nat) (k : Key) : Bool := Nat.beq k.tag g
def subOf (g : Nat) : Key → Bool
  | .top _ => false
  | .sub g' _ _ => Nat.beq g' g

/-- cells put in from place off on -/
def setAt : List PV → Nat → List PV → List PV
  | cs, _, [] => cs
  | cs, off, v :: vs => setAt (cs.set off v) (off + 1) vs
/-- a store into element i -/
def setRow (es : List (List PV)) (i off : Nat) (vs : List PV) : List (List PV) := es.modify i (setAt · off vs)

/-- The objects; the first entry counts. -/
abbrev HP := List (Nat × HO)
def HP.get : HP → Nat → Option HO
  | [], _ => none
  | (i, o) :: h, g => if Nat.beq g i = true then some o else HP.get h g
def HO.kill (p : Key → Bool) : HO → HO
  | .box cs => .box (PV.killL p cs)
  | .row e J es => .row e J es
  | .map m => .map m
  | .it l u => .it l u
def HP.kill (p : Key → Bool) : HP → HP
  | [] => []
  | (g, o) :: h => if p (.top g) = true then HP.kill p h else (g, o.kill p) :: HP.kill p h
def HO.frz (g : Nat) (u : PV) : HO → HO
  | .box cs => .box (PV.frzL g u cs)
  | .row e J es => .row e J es
  | .map m => .map m
  | .it l u => .it l u
def HP.frz (g : Nat) (u : PV) : HP → HP
  | [] => []
  | (g', o) :: h => if Nat.beq g' g = true then HP.frz g u h else (g', o.frz g u) :: HP.frz g u h

/-- the slots -/
abbrev SL := List (Nat × PV)
def SL.get : SL → Nat → PV
  | [], _ => .undef
  | (i, v) :: s, k => if k = i then v else SL.get s k
def SL.map (f : PV → PV) : SL → SL
  | [] => []
  | (i, v) :: s => (i, f v) :: SL.map f s
/-- A state: the slots' values, the objects; the first entry counts. -/
structure St where
  s : SL
  h : HP
  deriving Inhabited
def St.get (σ : St) (k : Nat) : PV := σ.s.get k
def St.hget (σ : St) (g : Nat) : Option HO := σ.h.get g
def St.set (σ : St) (d : Nat) (v : PV) : St := ⟨(d, v) :: σ.s, σ.h⟩
def St.kill (p : Key → Bool) (σ : St) : St := ⟨σ.s.map (PV.kill p), σ.h.kill p⟩
def St.put (σ : St) (g : Nat) (o : HO) : St := ⟨σ.s, (g, o) :: σ.h⟩
def St.frz (g : Nat) (u : PV) (σ : St) : St := ⟨σ.s.map (PV.frz g u), σ.h.frz g u⟩

/-- the owned rows in the cells of an element -/
def owned (g i : Nat) : List (Nat × Nat) → List PV → List PV
  | [], cs => cs
  | (j, e) :: J, cs => (owned g i J cs).set j (.row (.sub g i j) e)
/-- the type of the rows that the cells j own -/
def Jat : List (Nat × Nat) → Nat → Option Nat
  | [], _ => none
  | (j, e) :: J, k => if Nat.beq k j = true then some e else Jat J k
/-- The elements of the row k. -/
def HP.rowAt (h : HP) : Key → Option (List (List PV))
  | .top g => match h.get g with
    | some (.row _ _ es) => some es
    | _ => none
  | .sub g i j => match h.get g with
    | some (.row _ J es) => if (Jat J j).isSome = true then (match es[i]? with
      | some cs => (match cs[j]? with
        | some (.sl es') => some es'
        | _ => none)
      | none => none) else none
    | _ => none
/-- The object that bears the row k, with these elements there. -/
def HP.rowSet (h : HP) (es' : List (List PV)) : Key → Option HO
  | .top g => match h.get g with
    | some (.row e J _) => some (.row e J es')
    | _ => none
  | .sub g i j => match h.get g with
    | some (.row e J es) => some (.row e J (setRow es i j [.sl es']))
    | _ => none
/-- The places that own rows, of the row k. -/
def HP.rowJ (h : HP) : Key → List (Nat × Nat)
  | .top g => match h.get g with
    | some (.row _ J _) => J
    | _ => []
  | .sub _ _ _ => []
/-- The cells of element i of the row k. -/
def HP.elem (h : HP) (k : Key) (i : Nat) : Option (List PV) := match h.rowAt k with
  | some es => (es[i]?).map (owned k.tag i (h.rowJ k))
  | none => none
/-- the elements of a slice -/
def PV.elems (h : HP) : PV → Option (List (List PV))
  | .sl es => some es
  | .nl => some []
  | .row k _ => h.rowAt k
  | .part k _ lo n => match h.rowAt k with
    | some es => if lo + n ≤ es.length then some ((es.drop lo).take n) else none
    | none => none
  | _ => none

mutual
/-- How a callee, or whoever gets it for good, sees it. -/
def PV.view (h : HP) : Nat → PV → PV
  | 0, _ => .undef
  | n + 1, v => match v with
    | .nl => .sl []
    | .row k e => match PV.elems h (.row k e) with | some es => .sl es | none => .undef
    | .part k e lo m => match PV.elems h (.part k e lo m) with | some es => .sl es | none => .undef
    | .agg cs => .agg (PV.viewL h n cs)
    | .tup cs => .tup (PV.viewL h n cs)
    | .fn f cs => .fn f (PV.viewL h n cs)
    | .ptr g off => match h.get g with
      | some (.box cs) => .vptr (PV.viewL h n cs) off
      | _ => .undef
    | .rptr k _ i off => match h.rowAt k with
      | some es => (match es[i]? with
        | some cs => .vptr cs off
        | none => .undef)
      | none => .undef
    | .mp g => match h.get g with
      | some (.map m) => .fmap m
      | _ => .undef
    | v => v
def PV.viewL (h : HP) : Nat → List PV → List PV
  | 0, cs => cs.map fun _ => .undef
  | n + 1, cs => match cs with
    | [] => []
    | c :: cs => PV.view h n c :: PV.viewL h n cs
end
/-- deep enough -/
def DEEP : Nat := 64
def St.view (σ : St) (v : PV) : PV := PV.view σ.h DEEP v

/-- A constant cell. -/
def ofC : Value → PV
  | .slice none 0 0 => .nl
  | .agg _ => .undef
  | .tuple _ => .undef
  | v => .lit v
/-- A constant cell of a row's element. -/
def ofE : Value → PV
  | .slice none 0 0 => .sl []
  | .agg _ => .undef
  | .tuple _ => .undef
  | v => .lit v
def ofV : Value → PV
  | .agg cs => .agg (cs.toList.map ofC)
  | .tuple vs => if vs.size = 0 then .lit undef else .undef
  | .func (.func f) first caps => if first.size = 0 ∧ caps.size = 0 then .fn f [] else .undef
  | v => ofC v
def pev (s : St) : Operand → PV
  | .tmp t => s.get t
  | .const v => ofV v
  | .global _ => .undef
  | .func f => .fn f []
/-- The cells of a value. -/
def PV.cells : PV → List PV
  | .agg cs => cs
  | v => [v]
/-- One cell, of a known make. -/
def PV.cell : PV → Bool
  | .lit v => v.oneCell'
  | .undef => false
  | .agg _ => false
  | .tup _ => false
  | _ => true
/-- A cell that may lie in a row: free of keys, of a known make. -/
def PV.still : PV → Bool
  | .lit v => v.oneCell'
  | .sl _ => true
  | .fmap _ => true
  | _ => false

section
variable (P : Program)
def tAgg (t : TypeId) : Option Bool := match P.underlying t with | some (.struct _) => some true | some (.array ..) => some true | some _ => some false | none => none
def tElem (t : TypeId) : Option TypeId := match P.underlying t with | some (.slice e) => some e | _ => none
def tArr (t : TypeId) : Option (Nat × TypeId) := match P.underlying t with | some (.array n e) => some (n, e) | _ => none
def tInt (t : TypeId) : Option IntKind := match P.underlying t with | some (.int k) => some k | _ => none
/-- a field: where it begins and its type -/
def tFld (t : TypeId) (i : Nat) : Option (Nat × TypeId) := match P.underlying t with | some (.struct fs) => (fs[i]?).map fun f => (f.offset, f.type) | _ => none
def tZero (t : TypeId) : Option Value := (P.info? t).bind (·.zero)
def tSize (t : TypeId) : Nat := P.cellsOf t
/-- The element type of a row: its cells, its bytes are few. -/
def tRow (e : TypeId) : Bool := match P.info? e with | some i => decide (0 < i.size) && decide (i.bytes ≤ 65536) && (match i.zero with | some z => decide (z.cells.size = i.size) | none => false) | none => false
end

/-- What an operation does to a state: keys are forgotten, objects are laid anew, a value is yielded. -/
structure Res where
  kill : List (Key → Bool)
  sets : List (Nat × HO)
  v : PV
def Res.val (v : PV) : Res := ⟨[], [], v⟩
def Res.base (σ : St) (r : Res) : St := r.sets.foldl (fun σ x => σ.put x.1 x.2) (r.kill.foldl (fun σ p => σ.kill p) σ)
def Res.put (σ : St) (d : Option Nat) (r : Res) : St := match d with
  | some d => (r.base σ).set d r.v
  | none => r.base σ
/-- something new under the slot's own tag -/
def Res.new (d : Nat) (o : HO) (v : PV) : Res := ⟨[ofTag d], [(d, o)], v⟩

def pbin (op : BinOp) (x y : PV) : Option PV :=
  match x, y with
  | .lit (.int k a), .lit (.int k' b) =>
    match op with
    | .add => if k = k' then some (.lit (.int k (k.wrap (a + b)))) else none
    | .sub => if k = k' then some (.lit (.int k (k.wrap (a - b)))) else none
    | .mul => if k = k' then some (.lit (.int k (k.wrap (a * b)))) else none
    | .quo => if k = k' ∧ b ≠ 0 then some (.lit (.int k (k.wrap (a.tdiv b)))) else none
    | .rem => if k = k' ∧ b ≠ 0 then some (.lit (.int k (a.tmod b))) else none
    | .eql => if k = k' then some (.lit (.bool (a == b))) else none
    | .neq => if k = k' then some (.lit (.bool (a != b))) else none
    | .lss => if k = k' then some (.lit (.bool (decide (a < b)))) else none
    | .leq => if k = k' then some (.lit (.bool (decide (a ≤ b)))) else none
    | .gtr => if k = k' then some (.lit (.bool (decide (a > b)))) else none
    | .geq => if k = k' then some (.lit (.bool (decide (a ≥ b)))) else none
    | .shl => if 0 ≤ b then some (.lit (.int k (k.wrap (a * 2 ^ (min b.toNat k.bits))))) else none
    | .shr => if 0 ≤ b then some (.lit (.int k (a.fdiv (2 ^ (min b.toNat k.bits))))) else none
    | .and => if k = k' then some (.lit (.int k (k.wrap (BitVec.ofInt k.bits a &&& BitVec.ofInt k.bits b).toNat))) else none
    | .or => if k = k' then some (.lit (.int k (k.wrap (BitVec.ofInt k.bits a ||| BitVec.ofInt k.bits b).toNat))) else none
    | .xor => if k = k' then some (.lit (.int k (k.wrap (BitVec.ofInt k.bits a ^^^ BitVec.ofInt k.bits b).toNat))) else none
    | .andNot => if k = k' then some (.lit (.int k (k.wrap (BitVec.ofInt k.bits a &&& ~~~(BitVec.ofInt k.bits b)).toNat))) else none
  | _, _ => none

def tBool (P : Program) (t : TypeId) : Bool := match P.underlying t with
  | some .bool => true
  | _ => false
/-- The operators on bools and strings, too. -/
def pbin2 (P : Program) (op : BinOp) (t : TypeId) (x y : PV) : Option PV :=
  match x, y with
  | .lit (.bool a), .lit (.bool b) => if tBool P t = true then (match op with
    | .eql => some (.lit (.bool (a == b)))
    | .neq => some (.lit (.bool !(a == b)))
    | _ => none) else none
  | .lit (.string a), .lit (.string b) => (match op with
    | .eql => some (.lit (.bool (a.toList == b.toList)))
    | .neq => some (.lit (.bool !(a.toList == b.toList)))
    | .lss => some (.lit (.bool (Op.bytesLess a.toList b.toList)))
    | .leq => some (.lit (.bool (Op.bytesLess a.toList b.toList || (a.toList == b.toList))))
    | .gtr => some (.lit (.bool !(Op.bytesLess a.toList b.toList || (a.toList == b.toList))))
    | .geq => some (.lit (.bool !(Op.bytesLess a.toList b.toList)))
    | _ => none)
  | _, _ => pbin op x y
/-- The integers among arguments, all of one kind. -/
def pints : List PV → Option (IntKind × List Int)
  | [.lit (.int k n)] => some (k, [n])
  | .lit (.int k n) :: rest => match pints rest with
    | some (k', l) => if k = k' then some (k, n :: l) else none
    | none => none
  | _ => none
def imax (x y : Int) : Int := if y > x then y else x
def imin (x y : Int) : Int := if y < x then y else x
def pfold (f : Int → Int → Int) : Option (IntKind × List Int) → Option Res
  | some (k, x :: rest) => some (.val (.lit (.int k (rest.foldl f x))))
  | _ => none

def pun (op : UnOp) (x : PV) : Option PV :=
  match op, x with
  | .neg, .lit (.int k n) => some (.lit (.int k (k.wrap (0 - n))))
  | .not, .lit (.bool b) => some (.lit (.bool !b))
  | _, _ => none

/-- '==' of cells that are integers. -/
def peqL : List PV → List PV → Option Bool
  | [], [] => some true
  | .lit (.int .i64 a) :: xs, .lit (.int .i64 b) :: ys => (peqL xs ys).map ((a == b) && ·)
  | _, _ => none

/-- a run of cells -/
def range? (cs : List PV) (off n : Nat) : Option (List PV) := if off + n ≤ cs.length then some ((cs.drop off).take n) else none


def pload (agg : Bool) (size : Nat) (h : HP) (p : PV) : Option PV :=
  let get := fun (cs : List PV) (off : Nat) => if agg then (range? cs off size).map PV.agg else cs[off]?
  match p with
  | .vptr cs off => get cs off
  | .ptr g off => match h.get g with
    | some (.box cs) => get cs off
    | _ => none
  | .rptr k _ i off => match h.elem k i with
    | some cs => get cs off
    | none => none
  | _ => none

def PV.isAgg : PV → Bool
  | .agg _ => true
  | _ => false
/-- tags from here on are those of arguments: their rows stay where they are -/
def PIN : Nat := 1000000
def pstore (agg : Bool) (size : Nat) (h : HP) (p x : PV) : Option Res :=
  let vs := x.cells
  if vs.length = size ∧ x.isAgg = agg then
    match p with
    | .ptr g off => match h.get g with
      | some (.box cs) => if off + size ≤ cs.length ∧ vs.all PV.cell = true then some ⟨[], [(g, .box (setAt cs off vs))], .lit undef⟩ else none
      | _ => none
    | .rptr k _ i off => match h.rowAt k with
      | some es => (match es[i]? with
        | some cs => if off + size ≤ cs.length ∧ vs.all PV.still = true ∧ (h.rowJ k).all (fun x => decide (x.1 < off ∨ off + size ≤ x.1)) = true then
            (match h.rowSet (setRow es i off vs) k with
            | some o => some ⟨[], [(k.tag, o)], .lit undef⟩
            | none => none) else none
        | none => none)
      | none => none
    | _ => none
  else none

/-- a step from a pointer -/
def padd (n : Nat) : PV → Option PV
  | .ptr g off => some (.ptr g (off + n))
  | .vptr cs off => some (.vptr cs (off + n))
  | .rptr k e i off => some (.rptr k e i (off + n))
  | _ => none

/-- an index -/
def pidx : PV → Option Nat
  | .lit (.int _ i) => if 0 ≤ i then some i.toNat else none
  | _ => none

def pindexAddr (size : Nat) (h : HP) (x : PV) (i : Nat) : Option PV :=
  match x with
  | .sl es => match es[i]? with
    | some e => if e.length = size then some (.vptr e 0) else none
    | none => none
  | .row k e => match h.rowAt k with
    | some es => (match es[i]? with
      | some c => if c.length = size then some (.rptr k e i 0) else none
      | none => none)
    | none => none
  | .part k e lo n => match h.rowAt k with
    | some es => (match es[lo + i]? with
      | some c => if c.length = size ∧ i < n then some (.rptr k e (lo + i) 0) else none
      | none => none)
    | none => none
  | _ => none

def poptL (s : St) : Option Operand → Option Nat
  | none => some 0
  | some x => pidx (pev s x)
def poptH (s : St) : Option Operand → Option (Option Nat)
  | none => some none
  | some x => (pidx (pev s x)).map some

def pslice (esz : Nat → Nat) (size : Nat) (h : HP) (x : PV) (lo : Nat) (hi : Option Nat) : Option PV :=
  match x with
  | .sl es => let h := hi.getD es.length
    if lo ≤ h ∧ h ≤ es.length ∧ (lo == 0 || es.all (fun c => c.length == size)) = true then some (.sl ((es.take h).drop lo)) else none
  | .row k e => match h.rowAt k with
    | some es => let h := hi.getD es.length
      if lo ≤ h ∧ h ≤ es.length ∧ es.all (fun c => c.length == size) = true then some (.part k e lo (h - lo)) else none
    | none => none
  | .part k e l n => let h := hi.getD n
    if lo ≤ h ∧ h ≤ n ∧ esz e = size then some (.part k e (l + lo) (h - lo)) else none
  | _ => none

/-- its elements own no rows -/
def PV.flat (h : HP) : PV → Bool
  | .row k _ => (h.rowJ k).isEmpty
  | .part k _ _ _ => (h.rowJ k).isEmpty
  | _ => true
def pappend (e size : Nat) (d : Nat) (h : HP) (s x : PV) : Option Res :=
  match x.elems h with
  | some xs =>
    if xs.all (fun c => c.length == size) = true ∧ x.flat h = true then
    match s with
    | .row (.top g) e' => match h.get g with
      | some (.row _ [] es) => if e = e' ∧ es.length + xs.length ≤ LIM ∧ g < PIN then some ⟨[ofTag g], [(g, .row e [] (es ++ xs))], .row (.top g) e⟩ else none
      | _ => none
    | .nl => if xs.length ≤ LIM then some (.new d (.row e [] xs) (.row (.top d) e)) else none
    | _ => none
    else none
  | none => none

def plen (h : HP) : PV → Option Int
  | .sl es => some es.length
  | .nl => some 0
  | .row k e => (PV.elems h (.row k e)).map fun es => (es.length : Int)
  | .part _ _ _ n => some n
  | _ => none
def plenS : PV → Option Int
  | .lit (.string s) => some s.size
  | _ => none
/-- the parts of a struct or an array laid into its zero -/
def pfill (place : Nat → Option (Nat × Nat)) (cells : List PV) : List (Nat × PV) → Option (List PV)
  | [] => some cells
  | (i, v) :: rest =>
    match place i with
    | some (off, size) => if v.cells.length = size ∧ off + size ≤ cells.length ∧ v.cells.all PV.cell = true then pfill place (setAt cells off v.cells) rest else none
    | none => none

/-- A call of a builtin. -/
def pcallB (P : Program) (s : St) (d : Nat) (c : Call) : Option Res :=
  match c.callee with
  | .builtin .len => (match c.args.toList, c.argTypes.toList with
    | [x], [t] => (match P.underlying t with
      | some (.slice _) => (plen s.h (pev s x)).map fun n => .val (.lit (.int .i64 n))
      | some .string => (plenS (pev s x)).map fun n => .val (.lit (.int .i64 n))
      | _ => none)
    | _, _ => none)
  | .builtin .append => (match c.args.toList, c.argTypes.toList with
    | [a, x], [t, t'] => if t = t' then (match tElem P t with
      | some e => if tRow P e then pappend e (tSize P e) d s.h (pev s a) (pev s x) else none
      | none => none) else none
    | _, _ => none)
  | .builtin .max => pfold imax (pints (c.args.toList.map (pev s)))
  | .builtin .min => pfold imin (pints (c.args.toList.map (pev s)))
  | _ => none
/-- a map from int to int -/
def tMap (P : Program) (t : TypeId) : Bool := match P.underlying t with
  | some (.map k e) => (match tInt P k, tZero P e with
    | some .i64, some (.int .i64 0) => true
    | _, _ => false)
  | _ => false
/-- the entries of a map -/
def PV.entries (h : HP) : PV → Option (List (Int × Int))
  | .fmap m => some m
  | .mp g => match h.get g with
    | some (.map m) => some m
    | _ => none
  | _ => none
def PV.int64 : PV → Option Int
  | .lit (.int .i64 n) => some n
  | _ => none
/-- All but calls of functions. -/
def peop (P : Program) (eqn : TypeId → Nat) (s : St) (d : Nat) (ty : TypeId) : Op → Option Res
  | .move x => some (.val (pev s x))
  | .assign x => match pev s x, tElem P ty with
    | .nl, some e => if tRow P e then some (.new d (.row e [] []) (.row (.top d) e)) else none
    | v, _ => some (.val v)
  | .pick c a b => match pev s c with
    | .lit (.bool true) => some (.val (pev s a))
    | .lit (.bool false) => some (.val (pev s b))
    | _ => none
  | .alloc e => match tZero P e with
    | some z => some (.new d (.box (ofV z).cells) (.ptr d 0))
    | none => none
  | .box _ x => if (pev s x).cells.all PV.cell = true then some (.new d (.box (PV.killL (ofTag d) (pev s x).cells)) (.ptr d 0)) else none
  | .build t parts => match tZero P t with
    | some z => match P.underlying t with
      | some (.struct fs) => if fs.toList.all (fun f => (P.info? f.type).isSome) then (pfill (fun i => (fs[i]?).map fun f => (f.offset, tSize P f.type)) (ofV z).cells (parts.toList.map fun (i, x) => (i, pev s x))).map fun cs => .val (.agg cs) else none
      | some (.array _ e) => if (P.info? e).isSome then (pfill (fun i => some (i * tSize P e, tSize P e)) (ofV z).cells (parts.toList.map fun (i, x) => (i, pev s x))).map fun cs => .val (.agg cs) else none
      | _ => none
    | none => none
  | .buildSlice t len parts => match tElem P t with
    | some e => if parts.toList.map (·.1) = List.range len ∧ 0 < tSize P e ∧ len * tSize P e ≤ 16777216 ∧ tRow P e = true ∧ (parts.toList.all fun (_, x) => (pev s x).cells.length == tSize P e && (pev s x).cells.all PV.still) = true then
        some (.val (.sl (parts.toList.map fun (_, x) => (pev s x).cells))) else none
    | none => none
  | .load t a => match tAgg P t with
    | some agg => (pload agg (tSize P t) s.h (pev s a)).map .val
    | none => none
  | .store t a x => match tAgg P t with
    | some agg => pstore agg (tSize P t) s.h (pev s a) (pev s x)
    | none => none
  | .binOp op t x y _ => match pev s x, pev s y with
    | .agg xs, .agg ys =>
      if xs.length = eqn t ∧ 0 < xs.length then match peqL xs ys with
        | some b => (match op with
          | .eql => some (.val (.lit (.bool b)))
          | .neq => some (.val (.lit (.bool !b)))
          | _ => none)
        | none => none
      else none
    | px, py => (pbin2 P op t px py).map .val
  | .unOp op _ x => (pun op (pev s x)).map .val
  | .convert src dst x => match P.underlying src, tInt P dst, pev s x with
    | some _, some k, .lit (.int _ n) => some (.val (.lit (.int k (k.wrap n))))
    | _, _, _ => none
  | .makeFunc (.func f) first caps => if first.size = 0 then some (.val (.fn f (caps.toList.map (pev s)))) else none
  | .makeSlice t l h => match tElem P t, pidx (pev s l), pidx (pev s h) with
    | some e, some n, some m => (match tZero P e with
      | some z => if tRow P e = true ∧ n ≤ m ∧ m ≤ LIM ∧ (z.cells.toList.all Value.oneCell') = true then some (.new d (.row e [] (List.replicate n (z.cells.toList.map ofE))) (.row (.top d) e)) else none
      | none => none)
    | _, _, _ => none
  | .slice t x lo hi none => match tElem P t with
    | some e => if (P.info? e).isSome = true then (match poptL s lo, poptH s hi with
      | some l, some h => (pslice (tSize P) (tSize P e) s.h (pev s x) l h).map .val
      | _, _ => none) else none
    | none => none
  | .fieldAddr st x f => match tFld P st f with
    | some (off, ft) => if tSize P ft = 0 then none else (padd off (pev s x)).map .val
    | none => none
  | .field st x f => match tFld P st f, pev s x with
    | some (off, ft), .agg cs => (match tAgg P ft with
      | some true => (range? cs off (tSize P ft)).map fun l => .val (.agg l)
      | some false => (cs[off]?).map .val
      | none => none)
    | _, _ => none
  | .indexAddr t x ix => match tElem P t, pidx (pev s ix) with
    | some e, some i => if (P.info? e).isSome = true then (pindexAddr (tSize P e) s.h (pev s x) i).map .val else none
    | none, some i => (match tArr P t with
      | some (n, e) => if i < n ∧ (P.info? e).isSome = true then (padd (i * tSize P e) (pev s x)).map .val else none
      | none => none)
    | _, _ => none
  | .index t x ix => match tArr P t, pidx (pev s ix), pev s x with
    | some (n, e), some i, .agg cs => if i < n then (match tAgg P e with
      | some true => (range? cs (i * tSize P e) (tSize P e)).map fun l => .val (.agg l)
      | some false => (cs[i * tSize P e]?).map .val
      | none => none) else none
    | _, _, _ => none
  | .extract x i => match pev s x with
    | .tup vs => (vs[i]?).map .val
    | _ => none
  | .makeMap t none => if tMap P t = true then some (.new d (.map []) (.mp d)) else none
  | .lookup t x k ok => if tMap P t = true then (match (pev s x).entries s.h, (pev s k).int64 with
    | some m, some k => if ok = true then some (.val (.tup [.lit (.int .i64 ((mfind m k).getD 0)), .lit (.bool (mfind m k).isSome)])) else some (.val (.lit (.int .i64 ((mfind m k).getD 0))))
    | _, _ => none) else none
  | .mapUpdate t x k v => if tMap P t = true then (match pev s x, (pev s k).int64, (pev s v).int64 with
    | .mp g, some k, some v => (match s.h.get g with
      | some (.map m) => some ⟨[], [(g, .map (mput m k v))], .lit undef⟩
      | _ => none)
    | _, _, _ => none) else none
  | .insert t x k v => if tMap P t = true then (match pev s x, (pev s k).int64, (pev s v).int64 with
    | .mp g, some k, some v => (match s.h.get g with
      | some (.map m) => some ⟨[], [(g, .map (mput m k v))], .lit undef⟩
      | _ => none)
    | _, _, _ => none) else none
  | .call c => pcallB P s d c
  | .nilCheck x => (match pev s x with
    | .ptr g o => some (.val (.ptr g o))
    | .vptr cs o => some (.val (.vptr cs o))
    | .rptr k e i o => some (.val (.rptr k e i o))
    | _ => none)
  | _ => none
/-- Is the operation carried out? -/
def pguard (ops : Array Oper) (s : St) (o : Oper) : Option Bool :=
  match o.guard with
  | none => some true
  | some (j, want) => match (ops[j]?).bind (·.dst) with
    | some d => match s.get d with
      | .lit (.bool b) => some (b == want)
      | .lit _ => some false
      | _ => none
    | none => some false

end Go.VI
