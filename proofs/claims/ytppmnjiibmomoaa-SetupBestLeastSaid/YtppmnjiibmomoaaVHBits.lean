/- The operations on the bits of integers. -/
import Derived.Test.YtppmnjiibmomoaaVHPlain
set_option linter.unusedVariables false
set_option linter.unusedSimpArgs false
set_option linter.unusedSectionVars false
namespace Go.VI
def kand (k : IntKind) (a b : Int) : Int := k.wrap (BitVec.ofInt k.bits a &&& BitVec.ofInt k.bits b).toNat
def kor (k : IntKind) (a b : Int) : Int := k.wrap (BitVec.ofInt k.bits a ||| BitVec.ofInt k.bits b).toNat
def kxor (k : IntKind) (a b : Int) : Int := k.wrap (BitVec.ofInt k.bits a ^^^ BitVec.ofInt k.bits b).toNat
def kandNot (k : IntKind) (a b : Int) : Int := k.wrap (BitVec.ofInt k.bits a &&& ~~~(BitVec.ofInt k.bits b)).toNat
/-- elements put in from place lo on -/
def cpy {α : Type} (es : List α) (lo : Nat) (ys : List α) : List α := es.take lo ++ ys ++ es.drop (lo + ys.length)
/-- a byte of a string -/
def sidx (s : ByteArray) (i : Int) : Option Int := if 0 ≤ i then (s[i.toNat]?).map (fun b => (b.toNat : Int)) else none
end Go.VI
