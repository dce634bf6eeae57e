/- The Go functions as plain functions; written by a program out of the translation. -/
import Derived.Test.YtonmponhpfpokaaGreatRNeMT
set_option linter.unusedVariables false
set_option linter.unusedSimpArgs false
set_option linter.unusedSectionVars false
namespace Go.SM
open Go Go.VI
noncomputable def nest_overlaps_l1 (b : (List Rect)) (x350 : Rect) : Int → Option (Int ⊕ (Unit ⊕ Unit)):=fun s360 =>
  if (decide (s360 < (b.length : Int))) then ((idx b s360).bind fun x374=>(geom_Overlap x350 x374).bind fun r376=>if r376 then (some (.inr (.inl ()))) else (some (.inl (iadd s360 1)))) else (some (.inr (.inr (()))))
noncomputable def nest_overlaps_l2 (a : (List Rect)) (b : (List Rect)) : Int → Option (Int ⊕ (Unit ⊕ Unit)):=fun s255 =>
  if (decide (s255 < (a.length : Int))) then ((idx a s255).bind fun x350=>(loopT (nest_overlaps_l1 b x350) 0).bind fun x377=>match x377 with | .inl j378=>some (.inr (.inl ())) | .inr j379=>some (.inl (iadd s255 1))) else (some (.inr (.inr (()))))
noncomputable def nest_overlaps (a : (List Rect)) (b : (List Rect)) : Option (Bool):=
  (loopT (nest_overlaps_l2 a b) 0).bind fun x380=>match x380 with | .inl j381=>some true | .inr j382=>some false
end Go.SM
