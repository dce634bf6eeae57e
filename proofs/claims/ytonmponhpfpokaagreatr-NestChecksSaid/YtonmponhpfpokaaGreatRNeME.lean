/- The Go functions as plain functions; written by a program out of the translation. -/
import Derived.Test.YtonmponhpfpokaaGreatRNeMO
set_option linter.unusedVariables false
set_option linter.unusedSimpArgs false
set_option linter.unusedSectionVars false
namespace Go.SM
open Go Go.VI
noncomputable def nest_lists_l1 (sheets : (List Sheet)) : Int → Option (Int ⊕ (Int ⊕ Unit)):=fun s41 =>
  if (decide (s41 < (sheets.length : Int))) then ((idx sheets s41).bind fun x55=>(nest_ValidateSheet x55).bind fun r57=>if (r57 != 0) then (some (.inr (.inl r57))) else (some (.inl (iadd s41 1)))) else (some (.inr (.inr (()))))
noncomputable def nest_lists_l2 (pieces : (List Piece)) : Int → Option (Int ⊕ (Int ⊕ Unit)):=fun s99 =>
  if (decide (s99 < (pieces.length : Int))) then ((idx pieces s99).bind fun x113=>(nest_ValidatePiece x113).bind fun r115=>if (r115 != 0) then (some (.inr (.inl r115))) else (some (.inl (iadd s99 1)))) else (some (.inr (.inr (()))))
noncomputable def nest_lists (sheets : (List Sheet)) (pieces : (List Piece)) : Option (Int):=
  (if (decide ((sheets.length : Int) > 4)) then (some true) else (some (decide ((pieces.length : Int) > 8)))).bind fun j2=>if j2 then (some 4) else ((loopT (nest_lists_l1 sheets) 0).bind fun x58=>match x58 with | .inl j59=>some j59 | .inr j60=>(loopT (nest_lists_l2 pieces) 0).bind fun x116=>match x116 with | .inl j117=>some j117 | .inr j118=>some 0)
noncomputable def sheetmetalref06_given_l1 (sheets : (List Sheet)) : Int → Option (Int ⊕ (Int ⊕ Unit)):=fun s41 =>
  if (decide (s41 < (sheets.length : Int))) then ((idx sheets s41).bind fun x56=>(sheetmetalref06_ValidateSheet x56).bind fun r57=>if (r57 != 0) then (some (.inr (.inl r57))) else (some (.inl (iadd s41 1)))) else (some (.inr (.inr (()))))
noncomputable def sheetmetalref06_given_l2 (pieces : (List Piece)) : Int → Option (Int ⊕ (Int ⊕ Unit)):=fun s99 =>
  if (decide (s99 < (pieces.length : Int))) then ((idx pieces s99).bind fun x114=>(sheetmetalref06_ValidatePiece x114).bind fun r115=>if (r115 != 0) then (some (.inr (.inl r115))) else (some (.inl (iadd s99 1)))) else (some (.inr (.inr (()))))
noncomputable def sheetmetalref06_given (sheets : (List Sheet)) (pieces : (List Piece)) : Option (Int):=
  (if (decide ((sheets.length : Int) > 4)) then (some true) else (some (decide ((pieces.length : Int) > 8)))).bind fun j2=>if j2 then (some 4) else ((loopT (sheetmetalref06_given_l1 sheets) 0).bind fun x58=>match x58 with | .inl j59=>some j59 | .inr j60=>(loopT (sheetmetalref06_given_l2 pieces) 0).bind fun x116=>match x116 with | .inl j117=>some j117 | .inr j118=>some 0)
noncomputable def nest_liesWell_l1 (x0 : Piece) (r2 : Rect × Bool) : Int → Option (Int ⊕ (Unit ⊕ Unit)):=fun s47 =>
  if (decide (s47 < (x0.Rects.length : Int))) then ((idx x0.Rects s47).bind fun x61=>(geom_Inside x61 r2.1).bind fun r63=>if (!r63) then (some (.inr (.inl ()))) else (some (.inl (iadd s47 1)))) else (some (.inr (.inr (()))))
noncomputable def nest_liesWell (x0 : Piece) (s1 : Sheet) (set2 : Settings) (turn : Int) : Option (Bool):=
  (nest_inner s1 set2.Margin).bind fun r2=>(if r2.2 then ((nest_Allowed x0 s1 turn).bind fun r8=>some (!r8)) else (some true)).bind fun j7=>if j7 then (some false) else ((loopT (nest_liesWell_l1 x0 r2) 0).bind fun x64=>match x64 with | .inl j65=>some false | .inr j66=>((nest_overlaps x0.Rects s1.Clamps).bind fun r70=>if r70 then (some false) else ((nest_overlaps x0.Rects s1.Used).bind fun r71=>some (!r71))).bind fun j69=>some j69)
noncomputable def nest_Check_l1 (x2129 : Placement) (l2166 : (List Placement)) : Int → Option (Int ⊕ (Unit ⊕ Unit)):=fun s2172 =>
  if (decide (s2172 < (l2166.length : Int))) then ((idx l2166 s2172).bind fun x2180=>if (x2180.Piece == x2129.Piece) then (some (.inr (.inl ()))) else (some (.inl (iadd s2172 1)))) else (some (.inr (.inr (()))))
noncomputable def nest_Check_l2 (set2 : Settings) (s1551 : Int × (List Piece)) (x2129 : Placement) (r2145 : Piece × Int × ByteArray × ByteArray × Int × Int) (l2258 : (List Placement)) : Int → Option (Int ⊕ (Unit ⊕ Unit)):=fun s2278 =>
  if (decide (s2278 < (l2258.length : Int))) then ((idx l2258 s2278).bind fun x2307=>(if (x2307.Sheet == x2129.Sheet) then ((idx s1551.2 s2278).bind fun x2313=>(nest_Clear r2145.1.Rects x2313.Rects set2).bind fun r2314=>some (!r2314)) else (some false)).bind fun j2312=>if j2312 then (some (.inr (.inl ()))) else (some (.inl (iadd s2278 1)))) else (some (.inr (.inr (()))))
noncomputable def nest_Check_l3 (sheets : (List Sheet)) (pieces : (List Piece)) (set2 : Settings) (l : (List Placement)) : Int × (List Piece) → Option (Int × (List Piece) ⊕ ((Int × Int) ⊕ Unit)):=fun s1551 =>
  if (decide (s1551.1 < (l.length : Int))) then ((idx l s1551.1).bind fun x2129=>((nest_from x2129.Piece 0 (isub (pieces.length : Int) 1)).bind fun r2138=>if r2138 then ((nest_from x2129.Sheet 0 (isub (sheets.length : Int) 1)).bind fun r2139=>some (!r2139)) else (some true)).bind fun j2137=>if j2137 then (some (.inr (.inl (s1551.1,1)))) else ((idx pieces x2129.Piece).bind fun x2144=>(nest_Put x2144 x2129).bind fun r2145=>if (r2145.2.1 != 0) then (some (.inr (.inl (s1551.1,1)))) else ((slc l 0 s1551.1).bind fun l2166=>(loopT (nest_Check_l1 x2129 l2166) 0).bind fun x2181=>match x2181 with | .inl j2182=>some (.inr (.inl (s1551.1,12))) | .inr j2183=>(idx sheets x2129.Sheet).bind fun x2194=>(nest_liesWell (Piece.mk r2145.1.Name r2145.1.Material r2145.1.Gauge r2145.1.Grain r2145.1.Rects r2145.1.Cuts r2145.1.Forms) x2194 set2 x2129.Turn).bind fun r2195=>if (!r2195) then (some (.inr (.inl (s1551.1,13)))) else ((slc l 0 s1551.1).bind fun l2258=>(loopT (nest_Check_l2 set2 s1551 x2129 r2145 l2258) 0).bind fun x2315=>match x2315 with | .inl j2316=>some (.inr (.inl (s1551.1,7))) | .inr j2317=>(app s1551.2 [(Piece.mk r2145.1.Name r2145.1.Material r2145.1.Gauge r2145.1.Grain r2145.1.Rects r2145.1.Cuts r2145.1.Forms)]).bind fun l2319=>some (.inl ((iadd s1551.1 1),l2319)))))) else (some (.inr (.inr (()))))
noncomputable def nest_Check (sheets : (List Sheet)) (pieces : (List Piece)) (set2 : Settings) (l : (List Placement)) : Option (Int × Int):=
  (nest_lists sheets pieces).bind fun r4=>if (r4 != 0) then (some (0,r4)) else ((nest_ValidSettings set2).bind fun r8=>if (!r8) then (some (0,1)) else ((loopT (nest_Check_l3 sheets pieces set2 l) (0,[])).bind fun x2320=>match x2320 with | .inl j2321=>some (j2321.1,j2321.2) | .inr j2322=>some (0,0)))
end Go.SM
