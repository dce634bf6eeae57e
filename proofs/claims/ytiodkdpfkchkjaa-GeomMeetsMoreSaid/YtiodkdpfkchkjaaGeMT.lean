/- The Go functions as plain functions; written by a program out of the translation. -/
import Derived.Test.YtiodkdpfkchkjaaGeMS
set_option linter.unusedVariables false
set_option linter.unusedSimpArgs false
set_option linter.unusedSectionVars false
namespace Go.SM
open Go Go.VI
noncomputable def sheetmetallaw01_inside_l1 (h0 : (List Point)) (p : Point) : Int → Option (Int ⊕ (Unit ⊕ Unit)) := fun s87 =>
  if (decide (s87 < (h0.length : Int))) then ((idx h0 s87).bind fun x124 => if ((h0.length : Int) != 0) then ((idx h0 (Int.tmod (iadd s87 1) (h0.length : Int))).bind fun x125 => (geom_Orient x124 x125 p).bind fun r126 => (if (r126.2 != 0) then (some true) else (some (decide (r126.1 < 0)))).bind fun j127 => if j127 then (some (.inr (.inl ()))) else (some (.inl (iadd s87 1)))) else none) else (some (.inr (.inr (()))))
noncomputable def sheetmetallaw01_inside (h0 : (List Point)) (p : Point) : Option (Bool) :=
  (loopT (sheetmetallaw01_inside_l1 h0 p) 0).bind fun x128 => match x128 with | .inl j129 => some false | .inr j130 => (if (decide ((h0.length : Int) > 2)) then (some true) else (if (decide ((h0.length : Int) > 0)) then ((idx h0 0).bind fun x136 => if ((x136.X.A == p.X.A) && ((x136.X.B == p.X.B) && ((x136.Y.A == p.Y.A) && ((x136.Y.B == p.Y.B) && true)))) then (some true) else ((idx h0 (isub (h0.length : Int) 1)).bind fun x137 => some ((x137.X.A == p.X.A) && ((x137.X.B == p.X.B) && ((x137.Y.A == p.Y.A) && ((x137.Y.B == p.Y.B) && true)))))) else (some false))).bind fun j135 => some j135
noncomputable def sheetmetallaw01_GeomSweepHolds_l1 (r6 : (List (List Point)) × Int) (r9381 : Point × Int × Int × Int × Int × Int) : (Bool × Int) → Option ((Bool × Int) ⊕ Bool) := fun s9466 =>
  if (decide (s9466.2 < (r6.1.length : Int))) then ((if s9466.1 then (some true) else ((idx r6.1 s9466.2).bind fun x9504 => if (decide ((x9504.length : Int) < 3)) then (some true) else ((idx r6.1 s9466.2).bind fun x9505 => (sheetmetallaw01_inside x9505 (Point.mk (Root.mk r9381.1.X.A r9381.1.X.B) (Root.mk r9381.1.Y.A r9381.1.Y.B))).bind fun r9506 => some r9506))).bind fun j9503 => some (.inl (j9503, (iadd s9466.2 1)))) else (some (.inr s9466.1))
noncomputable def sheetmetallaw01_GeomSweepHolds_l2 (l : (List Spot)) (r6 : (List (List Point)) × Int) (s6347 : Int) : Int → Option (Int ⊕ (Unit ⊕ Unit)) := fun s8984 =>
  if (decide (s8984 < (l.length : Int))) then ((idx l s8984).bind fun x9380 => (geom_Turn x9380 s6347).bind fun r9381 => (loopT (sheetmetallaw01_GeomSweepHolds_l1 r6 r9381) (false, 0)).bind fun x9507 => (if (r9381.2.1 != 0) then (some true) else (some (!x9507))).bind fun j9508 => if j9508 then (some (.inr (.inl ()))) else (some (.inl (iadd s8984 1)))) else (some (.inr (.inr (()))))
noncomputable def sheetmetallaw01_GeomSweepHolds_l3 (l : (List Spot)) (to2 : Int) (r6 : (List (List Point)) × Int) : Int → Option (Int ⊕ (Unit ⊕ Unit)) := fun s6347 =>
  if (decide (s6347 ≤ to2)) then ((loopT (sheetmetallaw01_GeomSweepHolds_l2 l r6 s6347) 0).bind fun x9509 => match x9509 with | .inl j9510 => some (.inr (.inl ())) | .inr j9511 => some (.inl (iadd s6347 1))) else (some (.inr (.inr (()))))
noncomputable def sheetmetallaw01_GeomSweepHolds (l : (List Spot)) (from1 : Int) (to2 : Int) : Option (Bool) :=
  if (decide ((l.length : Int) > 12)) then ((sheetmetallaw01_known).bind fun r4 => some r4) else ((geom_Sweep l from1 to2).bind fun r6 => if (r6.2 != 0) then ((if ((r6.1.length : Int) == 0) then ((sheetmetallaw01_known).bind fun r12 => some r12) else (some false)).bind fun j11 => some j11) else ((loopT (sheetmetallaw01_GeomSweepHolds_l3 l to2 r6) from1).bind fun x9512 => match x9512 with | .inl j9513 => some false | .inr j9514 => (sheetmetallaw01_known).bind fun r9516 => some r9516))
end Go.SM
