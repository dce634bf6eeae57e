/- The Go functions as plain functions; written by a program out of the translation. -/
import Derived.Test.YtgfjbgoehhnaeaaGreatCzTypes
set_option linter.unusedVariables false
set_option linter.unusedSimpArgs false
set_option linter.unusedSectionVars false
namespace Go.SM
open Go Go.VI
def strings_Contains (s sub : ByteArray) : Option Bool:=if s.size < 4294967281 then some (Go.Lib.contains s.data.toList sub.data.toList) else none
noncomputable def part_ValidName_l1 (s0 : ByteArray) : Int→Option (Int ⊕ (Unit ⊕ Unit)):=fun s41 =>
  if (decide (s41 < (s0.size : Int))) then ((sidx s0 s41).bind fun x52=>(if (decide (x52 < 97)) then (if (decide (x52 < 48)) then (some true) else (some (decide (x52 > 57)))) else (if (decide (x52 > 122)) then (if (decide (x52 < 48)) then (some true) else (some (decide (x52 > 57)))) else (some false))).bind fun j53=>if j53 then (some (.inr (.inl ()))) else (some (.inl (iadd s41 1)))) else (some (.inr (.inr (()))))
noncomputable def part_ValidName (s0 : ByteArray) : Option (Bool):=
  (if (decide ((s0.size : Int) < 1)) then (some true) else (if (decide ((s0.size : Int) > 8)) then (some true) else ((sidx s0 0).bind fun x9=>if (decide (x9 < 97)) then (some true) else ((sidx s0 0).bind fun x10=>some (decide (x10 > 122)))))).bind fun j8=>if j8 then (some false) else ((loopT (part_ValidName_l1 s0) 0).bind fun x54=>match x54 with | .inl j55=>some false | .inr j56=>(scat (ByteArray.mk #[32]) s0).bind fun s60=>(scat s60 (ByteArray.mk #[32])).bind fun s61=>(strings_Contains (ByteArray.mk #[32,112,97,114,116,32,109,97,116,101,114,105,97,108,32,98,97,115,101,32,102,108,97,110,103,101,32,104,111,108,101,32,99,117,116,32,102,111,114,109,32,101,97,115,116,32,115,111,117,116,104,32,119,101,115,116,32,110,111,114,116,104,32,117,112,32,100,111,119,110,32,99,108,111,115,101,117,112,32,99,108,111,115,101,100,111,119,110,32,103,114,97,105,110,32,120,32,121,32,116,97,98,108,101,32,97,110,103,108,101,32,109,97,99,104,105,110,101,32,112,117,110,99,104,32,100,105,101,32,102,114,97,109,101,32,103,97,117,103,101,32,112,111,108,121,32,115,116,97,116,105,111,110,115,32]) s61).bind fun r62=>some (!r62))
noncomputable def nest_from (n : Int) (lo : Int) (hi : Int) : Option (Bool):=
  (if (decide (lo≤n)) then (some (decide (n≤hi))) else (some false)).bind fun j1=>some j1
noncomputable def nest_plain (gauge : Int) (grain : Int) : Option (Bool):=
  ((nest_from gauge 1 60).bind fun r4=>if r4 then ((nest_from grain 0 2).bind fun r5=>some r5) else (some false)).bind fun j3=>some j3
noncomputable def geom_within (n : Int) (most : Int) : Option (Bool):=
  (if (decide ((ineg most)≤n)) then (some (decide (n≤most))) else (some false)).bind fun j1=>some j1
noncomputable def geom_ValidRect_1 (x0 : Int) (w : Int) : Option (Bool):=
  ((geom_within x0 1048576).bind fun r3=>if r3 then (if (decide (w > 0)) then (if (decide (w≤2097152)) then (some (decide ((iadd x0 w)≤1048576))) else (some false)) else (some false)) else (some false)).bind fun j2=>some j2
noncomputable def geom_ValidRect (r0 : Rect) : Option (Bool):=
  ((geom_ValidRect_1 r0.X r0.W).bind fun r4=>if r4 then ((geom_ValidRect_1 r0.Y r0.H).bind fun r5=>some r5) else (some false)).bind fun j3=>some j3
noncomputable def nest_valid_l1 (l : (List Rect)) : Int→Option (Int ⊕ (Unit ⊕ Unit)):=fun s39 =>
  if (decide (s39 < (l.length : Int))) then ((idx l s39).bind fun x53=>(geom_ValidRect x53).bind fun r55=>if (!r55) then (some (.inr (.inl ()))) else (some (.inl (iadd s39 1)))) else (some (.inr (.inr (()))))
noncomputable def nest_valid (l : (List Rect)) : Option (Bool):=
  (loopT (nest_valid_l1 l) 0).bind fun x56=>match x56 with | .inl j57=>some false | .inr j58=>some true
noncomputable def nest_inner (s0 : Sheet) (margin : Int) : Option (Rect×Bool):=
  (geom_ValidRect (Rect.mk margin margin (isub s0.Width (imul 2 margin)) (isub s0.Height (imul 2 margin)))).bind fun r3=>some ((Rect.mk margin margin (isub s0.Width (imul 2 margin)) (isub s0.Height (imul 2 margin))),r3)
noncomputable def geom_Inside (a : Rect) (b : Rect) : Option (Bool):=
  ((geom_ValidRect a).bind fun r4=>if r4 then ((geom_ValidRect b).bind fun r5=>if r5 then (if (decide (b.X≤a.X)) then (if (decide ((iadd a.X a.W)≤(iadd b.X b.W))) then (if (decide (b.Y≤a.Y)) then (some (decide ((iadd a.Y a.H)≤(iadd b.Y b.H)))) else (some false)) else (some false)) else (some false)) else (some false)) else (some false)).bind fun j3=>some j3
noncomputable def nest_ValidateSheet_l1 (r38 : Rect×Bool) (x388 : (List Rect)) : Int→Option (Int ⊕ (Unit ⊕ Unit)):=fun s398 =>
  if (decide (s398 < (x388.length : Int))) then ((idx x388 s398).bind fun x412=>(geom_Inside x412 r38.1).bind fun r414=>if (!r414) then (some (.inr (.inl ()))) else (some (.inl (iadd s398 1)))) else (some (.inr (.inr (()))))
noncomputable def nest_ValidateSheet_l2 (s0 : Sheet) (r38 : Rect×Bool) : Int→Option (Int ⊕ (Unit ⊕ Unit)):=fun s293 =>
  if (decide (s293 < ([s0.Clamps,s0.Used].length : Int))) then ((idx [s0.Clamps,s0.Used] s293).bind fun x388=>(loopT (nest_ValidateSheet_l1 r38 x388) 0).bind fun x415=>match x415 with | .inl j416=>some (.inr (.inl ())) | .inr j417=>some (.inl (iadd s293 1))) else (some (.inr (.inr (()))))
noncomputable def nest_ValidateSheet (s0 : Sheet) : Option (Int):=
  ((part_ValidName s0.Name).bind fun r22=>if r22 then ((part_ValidName s0.Material).bind fun r23=>some (!r23)) else (some true)).bind fun j21=>if j21 then (some 2) else (((nest_plain s0.Gauge s0.Grain).bind fun r28=>if r28 then ((nest_from s0.Width 1 1048576).bind fun r29=>if r29 then ((nest_from s0.Height 1 1048576).bind fun r30=>some (!r30)) else (some true)) else (some true)).bind fun j27=>if j27 then (some 1) else ((if (decide ((s0.Clamps.length : Int) > 4)) then (some true) else (some (decide ((s0.Used.length : Int) > 48)))).bind fun j31=>if j31 then (some 4) else (((nest_valid s0.Clamps).bind fun r35=>if r35 then ((nest_valid s0.Used).bind fun r36=>some (!r36)) else (some true)).bind fun j34=>if j34 then (some 1) else ((nest_inner s0 0).bind fun r38=>(loopT (nest_ValidateSheet_l2 s0 r38) 0).bind fun x418=>match x418 with | .inl j419=>some 13 | .inr j420=>some 0))))
noncomputable def geom_Overlap (a : Rect) (b : Rect) : Option (Bool):=
  ((geom_ValidRect a).bind fun r4=>if r4 then ((geom_ValidRect b).bind fun r5=>if r5 then (if (decide (a.X < (iadd b.X b.W))) then (if (decide (b.X < (iadd a.X a.W))) then (if (decide (a.Y < (iadd b.Y b.H))) then (some (decide (b.Y < (iadd a.Y a.H)))) else (some false)) else (some false)) else (some false)) else (some false)) else (some false)).bind fun j3=>some j3
noncomputable def nest_touch (a : Rect) (b : Rect) : Option (Bool):=
  (if ((isub (imin (iadd a.X a.W) (iadd b.X b.W)) (imax a.X b.X))==0) then (if (decide ((isub (imin (iadd a.Y a.H) (iadd b.Y b.H)) (imax a.Y b.Y)) > 0)) then (some true) else (if ((isub (imin (iadd a.Y a.H) (iadd b.Y b.H)) (imax a.Y b.Y))==0) then (some (decide ((isub (imin (iadd a.X a.W) (iadd b.X b.W)) (imax a.X b.X)) > 0))) else (some false))) else (if ((isub (imin (iadd a.Y a.H) (iadd b.Y b.H)) (imax a.Y b.Y))==0) then (some (decide ((isub (imin (iadd a.X a.W) (iadd b.X b.W)) (imax a.X b.X)) > 0))) else (some false))).bind fun j1=>some j1
noncomputable def nest_connected_k1 (s598 : Int×(List Bool)×(List Int)) : ((List Bool)×(List Int))→Option ((Int×(List Bool)×(List Int)) ⊕ ((List Bool)×(List Int))):=fun j651 =>
  some (.inl ((iadd s598.1 1),j651.1,j651.2))
noncomputable def nest_connected_l2 (l : (List Rect)) (x561 : Int) : (Int×(List Bool)×(List Int))→Option ((Int×(List Bool)×(List Int)) ⊕ ((List Bool)×(List Int))):=fun s598 =>
  if (decide (s598.1 < (l.length : Int))) then (((idx s598.2.1 s598.1).bind fun x661=>if x661 then (some false) else ((idx l x561).bind fun x662=>(idx l s598.1).bind fun x663=>(nest_touch x662 x663).bind fun r664=>some r664)).bind fun j660=>if j660 then ((idx s598.2.1 s598.1).bind fun x666=>(app s598.2.2 [s598.1]).bind fun l668=>nest_connected_k1 s598 ((List.set s598.2.1 (Int.toNat s598.1) true),l668)) else (nest_connected_k1 s598 (s598.2.1,s598.2.2))) else (some (.inr (s598.2.1,s598.2.2)))
noncomputable def nest_connected_l3 (l : (List Rect)) : ((List Bool)×(List Int))→Option (((List Bool)×(List Int)) ⊕ (List Bool)):=fun s449 =>
  if (decide ((s449.2.length : Int) > 0)) then ((idx s449.2 0).bind fun x561=>if (decide (1≤s449.2.length)) then ((loopT (nest_connected_l2 l x561) (0,s449.1,(List.drop 1 s449.2))).bind fun x669=>some (.inl (x669.1,x669.2))) else none) else (some (.inr s449.1))
noncomputable def nest_connected_l4 (x670 : (List Bool)) : Int→Option (Int ⊕ (Unit ⊕ Unit)):=fun s693 =>
  if (decide (s693 < (x670.length : Int))) then ((idx x670 s693).bind fun x701=>if (!x701) then (some (.inr (.inl ()))) else (some (.inl (iadd s693 1)))) else (some (.inr (.inr (()))))
noncomputable def nest_connected (l : (List Rect)) : Option (Bool):=
  (mk (l.length : Int) false).bind fun l2=>(idx l2 0).bind fun x4=>(loopT (nest_connected_l3 l) ((List.set l2 (Int.toNat 0) true),[0])).bind fun x670=>(loopT (nest_connected_l4 x670) 0).bind fun x702=>match x702 with | .inl j703=>some false | .inr j704=>some true
noncomputable def nest_strictly_l1 (h0 : Rect) (l : (List Rect)) : Int→Option (Int ⊕ (Unit ⊕ Unit)):=fun s31 =>
  if (decide (s31 < (l.length : Int))) then ((idx l s31).bind fun x42=>(if (decide (h0.X > x42.X)) then (if (decide (h0.Y > x42.Y)) then (if (decide ((iadd h0.X h0.W) < (iadd x42.X x42.W))) then (some (decide ((iadd h0.Y h0.H) < (iadd x42.Y x42.H)))) else (some false)) else (some false)) else (some false)).bind fun j43=>if j43 then (some (.inr (.inl ()))) else (some (.inl (iadd s31 1)))) else (some (.inr (.inr (()))))
noncomputable def nest_strictly (h0 : Rect) (l : (List Rect)) : Option (Bool):=
  (loopT (nest_strictly_l1 h0 l) 0).bind fun x44=>match x44 with | .inl j45=>some true | .inr j46=>some false
noncomputable def geom_Distance (a : Rect) (b : Rect) : Option (Int):=
  ((geom_ValidRect a).bind fun r9=>if r9 then ((geom_ValidRect b).bind fun r10=>some (!r10)) else (some true)).bind fun j8=>if j8 then (some 0) else (some (imax (imax (imax (imax 0 (isub (isub b.X a.X) a.W)) (isub (isub a.X b.X) b.W)) (isub (isub b.Y a.Y) a.H)) (isub (isub a.Y b.Y) b.H)))
noncomputable def nest_inside_l1 (x0 : Piece) (l6 : (List Rect)) : Int→Option (Int ⊕ (Unit ⊕ Unit)):=fun s69 =>
  if (decide (s69 < (l6.length : Int))) then ((idx l6 s69).bind fun x92=>(if (decide (s69 < (x0.Cuts.length : Int))) then (if (x92.W==1) then (some true) else (if (x92.H==1) then (some true) else ((nest_strictly x92 x0.Rects).bind fun r96=>some (!r96)))) else ((nest_strictly x92 x0.Rects).bind fun r97=>some (!r97))).bind fun j95=>if j95 then (some (.inr (.inl ()))) else (some (.inl (iadd s69 1)))) else (some (.inr (.inr (()))))
noncomputable def nest_inside_l2 (x472 : Rect) (l474 : (List Rect)) : Int→Option (Int ⊕ (Unit ⊕ Unit)):=fun s484 =>
  if (decide (s484 < (l474.length : Int))) then ((idx l474 s484).bind fun x498=>(geom_Distance x472 x498).bind fun r500=>if (r500==0) then (some (.inr (.inl ()))) else (some (.inl (iadd s484 1)))) else (some (.inr (.inr (()))))
noncomputable def nest_inside_l3 (l6 : (List Rect)) : Int→Option (Int ⊕ (Unit ⊕ Unit)):=fun s371 =>
  if (decide (s371 < (l6.length : Int))) then ((idx l6 s371).bind fun x472=>(slc l6 0 s371).bind fun l474=>(loopT (nest_inside_l2 x472 l474) 0).bind fun x501=>match x501 with | .inl j502=>some (.inr (.inl ())) | .inr j503=>some (.inl (iadd s371 1))) else (some (.inr (.inr (()))))
noncomputable def nest_inside (x0 : Piece) : Option (Int):=
  (app [] x0.Cuts).bind fun l5=>(app l5 x0.Forms).bind fun l6=>(loopT (nest_inside_l1 x0 l6) 0).bind fun x98=>match x98 with | .inl j99=>some 13 | .inr j100=>(loopT (nest_inside_l3 l6) 0).bind fun x504=>match x504 with | .inl j505=>some 7 | .inr j506=>some 0
noncomputable def nest_ValidatePiece_l1 (x0 : Piece) : (Int×Int×Int)→Option ((Int×Int×Int) ⊕ (Int×Int)):=fun s57 =>
  if (decide (s57.2.2 < (x0.Rects.length : Int))) then ((idx x0.Rects s57.2.2).bind fun x65=>some (.inl ((imin s57.1 x65.X),(imin s57.2.1 x65.Y),(iadd s57.2.2 1)))) else (some (.inr (s57.1,s57.2.1)))
noncomputable def nest_ValidatePiece_l2 (x440 : Rect) (l442 : (List Rect)) : Int→Option (Int ⊕ (Unit ⊕ Unit)):=fun s452 =>
  if (decide (s452 < (l442.length : Int))) then ((idx l442 s452).bind fun x466=>(geom_Overlap x440 x466).bind fun r468=>if r468 then (some (.inr (.inl ()))) else (some (.inl (iadd s452 1)))) else (some (.inr (.inr (()))))
noncomputable def nest_ValidatePiece_l3 (x0 : Piece) : Int→Option (Int ⊕ (Unit ⊕ Unit)):=fun s339 =>
  if (decide (s339 < (x0.Rects.length : Int))) then ((idx x0.Rects s339).bind fun x440=>(slc x0.Rects 0 s339).bind fun l442=>(loopT (nest_ValidatePiece_l2 x440 l442) 0).bind fun x469=>match x469 with | .inl j470=>some (.inr (.inl ())) | .inr j471=>some (.inl (iadd s339 1))) else (some (.inr (.inr (()))))
noncomputable def nest_ValidatePiece (x0 : Piece) : Option (Int):=
  ((part_ValidName x0.Name).bind fun r19=>if r19 then ((part_ValidName x0.Material).bind fun r20=>some (!r20)) else (some true)).bind fun j18=>if j18 then (some 2) else ((nest_plain x0.Gauge x0.Grain).bind fun r22=>if (!r22) then (some 1) else ((if (decide ((x0.Rects.length : Int) > 12)) then (some true) else (if (decide ((x0.Cuts.length : Int) > 12)) then (some true) else (some (decide ((x0.Forms.length : Int) > 12))))).bind fun j23=>if j23 then (some 4) else ((if ((x0.Rects.length : Int)==0) then (some true) else ((nest_valid x0.Rects).bind fun r28=>if r28 then ((nest_valid x0.Cuts).bind fun r29=>if r29 then ((nest_valid x0.Forms).bind fun r30=>some (!r30)) else (some true)) else (some true))).bind fun j27=>if j27 then (some 1) else ((idx x0.Rects 0).bind fun x35=>(idx x0.Rects 0).bind fun x36=>(loopT (nest_ValidatePiece_l1 x0) (x35.X,x36.Y,0)).bind fun x66=>(if (x66.1 != 0) then (some true) else (some (x66.2 != 0))).bind fun j68=>if j68 then (some 1) else ((loopT (nest_ValidatePiece_l3 x0) 0).bind fun x472=>match x472 with | .inl j473=>some 7 | .inr j474=>(nest_connected x0.Rects).bind fun r478=>if (!r478) then (some 6) else ((nest_inside x0).bind fun r480=>some r480))))))
noncomputable def slices_Clone_Lapi_Rect_api_Rect (s : (List Rect)) : Option (List Rect):=app [] s
noncomputable def cut_back_k1 (s107 : Int×(List Rect)) : (List Rect)→Option (Int×(List Rect) ⊕ (List Rect)):=fun j145 =>
  some (.inl ((iadd s107.1 1),j145))
noncomputable def cut_back_l2 (x1 : Int) (y : Int) (r2 : (List Rect)) : Int×(List Rect)→Option (Int×(List Rect) ⊕ (List Rect)):=fun s107 =>
  if (decide (s107.1 < (r2.length : Int))) then ((idx s107.2 s107.1).bind fun x147=>(if (decide (x147.X < (-4194304))) then (some true) else (if (decide (x147.X > 4194304)) then (some true) else (if (decide (x147.Y < (-4194304))) then (some true) else (some (decide (x147.Y > 4194304)))))).bind fun j151=>if j151 then ((s107.2[Int.toNat s107.1]?).bind fun x153=>cut_back_k1 s107 (List.set s107.2 (Int.toNat s107.1) (Rect.mk x153.X x153.Y 0 x153.H))) else ((s107.2[Int.toNat s107.1]?).bind fun x156=>(s107.2[Int.toNat s107.1]?).bind fun x157=>cut_back_k1 s107 (List.set (List.set s107.2 (Int.toNat s107.1) (Rect.mk (isub x156.X x1) x157.Y x157.W x157.H)) (Int.toNat s107.1) (Rect.mk (((Rect.mk (isub x156.X x1) x157.Y x157.W x157.H)).X) (isub (((Rect.mk (isub x156.X x1) x157.Y x157.W x157.H)).Y) y) (((Rect.mk (isub x156.X x1) x157.Y x157.W x157.H)).W) (((Rect.mk (isub x156.X x1) x157.Y x157.W x157.H)).H))))) else (some (.inr s107.2))
noncomputable def cut_back (l : (List Rect)) (x1 : Int) (y : Int) : Option ((List Rect)):=
  (slices_Clone_Lapi_Rect_api_Rect l).bind fun r2=>(loopT (cut_back_l2 x1 y r2) (0,r2)).bind fun x158=>some x158
noncomputable def cut_pieceError_l1 (x0 : Piece) : Int→Option (Int ⊕ (Unit ⊕ Unit)):=fun s39 =>
  if (decide (s39 < (x0.Rects.length : Int))) then ((idx x0.Rects s39).bind fun x53=>(geom_ValidRect x53).bind fun r55=>if (!r55) then (some (.inr (.inl ()))) else (some (.inl (iadd s39 1)))) else (some (.inr (.inr (()))))
noncomputable def cut_pieceError_l2 (x0 : Piece) : (Int×Int×Int)→Option ((Int×Int×Int) ⊕ (Int×Int)):=fun s89 =>
  if (decide (s89.2.2 < (x0.Rects.length : Int))) then ((idx x0.Rects s89.2.2).bind fun x97=>some (.inl ((imin s89.1 x97.X),(imin s89.2.1 x97.Y),(iadd s89.2.2 1)))) else (some (.inr (s89.1,s89.2.1)))
noncomputable def cut_pieceError (x0 : Piece) : Option (Int):=
  (loopT (cut_pieceError_l1 x0) 0).bind fun x56=>match x56 with | .inl j57=>some 1 | .inr j58=>if ((x0.Rects.length : Int)==0) then ((nest_ValidatePiece x0).bind fun r62=>some r62) else ((idx x0.Rects 0).bind fun x67=>(idx x0.Rects 0).bind fun x68=>(loopT (cut_pieceError_l2 x0) (x67.X,x68.Y,0)).bind fun x98=>(cut_back x0.Rects x98.1 x98.2).bind fun r105=>(cut_back x0.Cuts x98.1 x98.2).bind fun r106=>(cut_back x0.Forms x98.1 x98.2).bind fun r107=>(nest_ValidatePiece (Piece.mk x0.Name x0.Material x0.Gauge x0.Grain r105 r106 r107)).bind fun r109=>some r109)
noncomputable def cut_meets_1 (x0 : Rect) (a_0 : Int) (a_1 : Int) (a_2 : Int) (a_3 : Int) : Option (Bool):=
  (geom_Overlap (Rect.mk a_0 a_1 a_2 a_3) x0).bind fun r2=>some r2
noncomputable def slices_IndexFunc_Lapi_Rect_api_Rect__cut_meets_1_l1 (s0 : (List Rect)) (f_0_0 : Int) (f_0_1 : Int) (f_0_2 : Int) (f_0_3 : Int) : Int→Option (Int ⊕ (Int ⊕ Unit)):=fun s39 =>
  if (decide (s39 < (s0.length : Int))) then ((idx s0 s39).bind fun x54=>(cut_meets_1 x54 f_0_0 f_0_1 f_0_2 f_0_3).bind fun r55=>if r55 then (some (.inr (.inl s39))) else (some (.inl (iadd s39 1)))) else (some (.inr (.inr (()))))
noncomputable def slices_IndexFunc_Lapi_Rect_api_Rect__cut_meets_1 (s0 : (List Rect)) (f_0_0 : Int) (f_0_1 : Int) (f_0_2 : Int) (f_0_3 : Int) : Option (Int):=
  (loopT (slices_IndexFunc_Lapi_Rect_api_Rect__cut_meets_1_l1 s0 f_0_0 f_0_1 f_0_2 f_0_3) 0).bind fun x56=>match x56 with | .inl j57=>some j57 | .inr j58=>some (-1)
noncomputable def slices_ContainsFunc_Lapi_Rect_api_Rect__cut_meets_1 (s0 : (List Rect)) (f_0_0 : Int) (f_0_1 : Int) (f_0_2 : Int) (f_0_3 : Int) : Option (Bool):=
  (slices_IndexFunc_Lapi_Rect_api_Rect__cut_meets_1 s0 f_0_0 f_0_1 f_0_2 f_0_3).bind fun r2=>some (decide (r2 ≥ 0))
noncomputable def cut_meets (r0 : Rect) (l : (List Rect)) : Option (Bool):=
  (slices_ContainsFunc_Lapi_Rect_api_Rect__cut_meets_1 l r0.X r0.Y r0.W r0.H).bind fun r2=>some r2
noncomputable def cut_Validate_l1 (l : LayoutT) : Int→Option (Int ⊕ (Int ⊕ Unit)):=fun s43 =>
  if (decide (s43 < (l.Pieces.length : Int))) then ((idx l.Pieces s43).bind fun x57=>(cut_pieceError x57).bind fun r59=>if (r59 != 0) then (some (.inr (.inl r59))) else (some (.inl (iadd s43 1)))) else (some (.inr (.inr (()))))
noncomputable def cut_Validate_l2 (l : LayoutT) (x742 : Piece) : Int→Option (Int ⊕ (Unit ⊕ Unit)):=fun s762 =>
  if (decide (s762 < (x742.Rects.length : Int))) then ((idx x742.Rects s762).bind fun x791=>((geom_Inside x791 (Rect.mk 0 0 l.Sheet.Width l.Sheet.Height)).bind fun r796=>if r796 then ((cut_meets x791 l.Sheet.Clamps).bind fun r797=>if r797 then (some true) else ((cut_meets x791 l.Sheet.Used).bind fun r798=>some r798)) else (some true)).bind fun j795=>if j795 then (some (.inr (.inl ()))) else (some (.inl (iadd s762 1)))) else (some (.inr (.inr (()))))
noncomputable def cut_Validate_l3 (l : LayoutT) : Int→Option (Int ⊕ (Unit ⊕ Unit)):=fun s557 =>
  if (decide (s557 < (l.Pieces.length : Int))) then ((idx l.Pieces s557).bind fun x742=>(loopT (cut_Validate_l2 l x742) 0).bind fun x799=>match x799 with | .inl j800=>some (.inr (.inl ())) | .inr j801=>some (.inl (iadd s557 1))) else (some (.inr (.inr (()))))
noncomputable def cut_Validate_l4 (x2958 : Piece) (x3119 : Piece) : Int→Option (Int ⊕ (Unit ⊕ Unit)):=fun s3129 =>
  if (decide (s3129 < (x2958.Rects.length : Int))) then ((idx x2958.Rects s3129).bind fun x3143=>(cut_meets x3143 x3119.Rects).bind fun r3145=>if r3145 then (some (.inr (.inl ()))) else (some (.inl (iadd s3129 1)))) else (some (.inr (.inr (()))))
noncomputable def cut_Validate_l5 (x2958 : Piece) (l2960 : (List Piece)) : Int→Option (Int ⊕ (Unit ⊕ Unit)):=fun s3024 =>
  if (decide (s3024 < (l2960.length : Int))) then ((idx l2960 s3024).bind fun x3119=>(loopT (cut_Validate_l4 x2958 x3119) 0).bind fun x3146=>match x3146 with | .inl j3147=>some (.inr (.inl ())) | .inr j3148=>some (.inl (iadd s3024 1))) else (some (.inr (.inr (()))))
noncomputable def cut_Validate_l6 (l : LayoutT) : Int→Option (Int ⊕ (Unit ⊕ Unit)):=fun s2371 =>
  if (decide (s2371 < (l.Pieces.length : Int))) then ((idx l.Pieces s2371).bind fun x2958=>(slc l.Pieces 0 s2371).bind fun l2960=>(loopT (cut_Validate_l5 x2958 l2960) 0).bind fun x3149=>match x3149 with | .inl j3150=>some (.inr (.inl ())) | .inr j3151=>some (.inl (iadd s2371 1))) else (some (.inr (.inr (()))))
noncomputable def cut_Validate (l : LayoutT) : Option (Int):=
  (nest_ValidateSheet l.Sheet).bind fun r4=>if (r4 != 0) then (some r4) else (if (decide ((l.Pieces.length : Int) > 8)) then (some 4) else ((loopT (cut_Validate_l1 l) 0).bind fun x60=>match x60 with | .inl j61=>some j61 | .inr j62=>(loopT (cut_Validate_l3 l) 0).bind fun x802=>match x802 with | .inl j803=>some 13 | .inr j804=>(loopT (cut_Validate_l6 l) 0).bind fun x3152=>match x3152 with | .inl j3153=>some 7 | .inr j3154=>some 0))
noncomputable def sheetmetalref02_within (n : Int) (lo : Int) (hi : Int) : Option (Bool):=
  (if (decide (n ≥ lo)) then (some (decide (n≤hi))) else (some false)).bind fun j1=>some j1
noncomputable def sheetmetalref02_reserved : Option (ByteArray):=
  some (ByteArray.mk #[32,112,97,114,116,32,109,97,116,101,114,105,97,108,32,98,97,115,101,32,102,108,97,110,103,101,32,104,111,108,101,32,99,117,116,32,102,111,114,109,32,101,97,115,116,32,115,111,117,116,104,32,119,101,115,116,32,110,111,114,116,104,32,117,112,32,100,111,119,110,32,99,108,111,115,101,117,112,32,99,108,111,115,101,100,111,119,110,32,103,114,97,105,110,32,120,32,121,32,116,97,98,108,101,32,97,110,103,108,101,32,109,97,99,104,105,110,101,32,112,117,110,99,104,32,100,105,101,32,102,114,97,109,101,32,103,97,117,103,101,32,112,111,108,121,32,115,116,97,116,105,111,110,115,32])
noncomputable def sheetmetalref02_isWord_l1 (text : ByteArray) (s1 : ByteArray) : Int→Option (Int ⊕ (Unit ⊕ Unit)):=fun s55 =>
  if (decide ((iadd (iadd s55 (s1.size : Int)) 2)≤(text.size : Int))) then ((sslc text s55 (iadd (iadd s55 (s1.size : Int)) 2)).bind fun s77=>(scat (ByteArray.mk #[32]) s1).bind fun s78=>(scat s78 (ByteArray.mk #[32])).bind fun s79=>if (s77.toList==s79.toList) then (some (.inr (.inl ()))) else (some (.inl (iadd s55 1)))) else (some (.inr (.inr (()))))
noncomputable def sheetmetalref02_isWord (text : ByteArray) (s1 : ByteArray) : Option (Bool):=
  (loopT (sheetmetalref02_isWord_l1 text s1) 0).bind fun x80=>match x80 with | .inl j81=>some true | .inr j82=>some false
noncomputable def sheetmetalref02_ValidName_l1 (s0 : ByteArray) : Int→Option (Int ⊕ (Unit ⊕ Unit)):=fun s101 =>
  if (decide (s101 < (s0.size : Int))) then (((sidx s0 s101).bind fun x135=>if (decide (x135 ≥ 97)) then ((sidx s0 s101).bind fun x136=>some (decide (x136≤122))) else (some false)).bind fun j134=>(if j134 then (some false) else ((sidx s0 s101).bind fun x140=>if (decide (x140 < 48)) then (some true) else ((sidx s0 s101).bind fun x141=>some (decide (x141 > 57))))).bind fun j139=>if j139 then (some (.inr (.inl ()))) else (some (.inl (iadd s101 1)))) else (some (.inr (.inr (()))))
noncomputable def sheetmetalref02_ValidName (s0 : ByteArray) : Option (Bool):=
  ((sheetmetalref02_within (s0.size : Int) 1 8).bind fun r12=>if r12 then ((sidx s0 0).bind fun x13=>if (decide (x13 < 97)) then (some true) else ((sidx s0 0).bind fun x14=>some (decide (x14 > 122)))) else (some true)).bind fun j11=>if j11 then (some false) else ((loopT (sheetmetalref02_ValidName_l1 s0) 0).bind fun x142=>match x142 with | .inl j143=>some false | .inr j144=>(sheetmetalref02_reserved).bind fun r147=>(sheetmetalref02_isWord r147 s0).bind fun r148=>some (!r148))
noncomputable def sheetmetalref06_stuff (name : ByteArray) (material : ByteArray) (gauge : Int) (grain : Int) : Option (Int):=
  ((sheetmetalref02_ValidName name).bind fun r9=>if r9 then ((sheetmetalref02_ValidName material).bind fun r10=>some (!r10)) else (some true)).bind fun j8=>if j8 then (some 2) else ((if (decide (gauge < 1)) then (some true) else (if (decide (gauge > 60)) then (some true) else (if (decide (grain < 0)) then (some true) else (some (decide (grain > 2)))))).bind fun j12=>if j12 then (some 1) else (some 0))
noncomputable def sheetmetalref06_near (n : Int) : Option (Bool):=
  (if (decide (n ≥ (-1048576))) then (some (decide (n≤1048576))) else (some false)).bind fun j1=>some j1
noncomputable def sheetmetalref06_Right (r0 : Rect) : Option (Bool):=
  ((sheetmetalref06_near r0.X).bind fun r9=>if r9 then ((sheetmetalref06_near r0.Y).bind fun r10=>if r10 then (if (decide (r0.W < 1)) then (some true) else (if (decide (r0.H < 1)) then (some true) else (if (decide (r0.W > 2097152)) then (some true) else (some (decide (r0.H > 2097152)))))) else (some true)) else (some true)).bind fun j8=>if j8 then (some false) else (((sheetmetalref06_near (iadd r0.X r0.W)).bind fun r14=>if r14 then ((sheetmetalref06_near (iadd r0.Y r0.H)).bind fun r15=>some r15) else (some false)).bind fun j13=>some j13)
noncomputable def sheetmetalref06_Rights_l1 (l : (List Rect)) : Int→Option (Int ⊕ (Unit ⊕ Unit)):=fun s39 =>
  if (decide (s39 < (l.length : Int))) then ((idx l s39).bind fun x54=>(sheetmetalref06_Right x54).bind fun r55=>if (!r55) then (some (.inr (.inl ()))) else (some (.inl (iadd s39 1)))) else (some (.inr (.inr (()))))
noncomputable def sheetmetalref06_Rights (l : (List Rect)) : Option (Bool):=
  (loopT (sheetmetalref06_Rights_l1 l) 0).bind fun x56=>match x56 with | .inl j57=>some false | .inr j58=>some true
noncomputable def sheetmetalref06_Within (a : Rect) (b : Rect) : Option (Bool):=
  ((sheetmetalref06_Right a).bind fun r4=>if r4 then ((sheetmetalref06_Right b).bind fun r5=>if r5 then (if (decide (a.X ≥ b.X)) then (if (decide (a.Y ≥ b.Y)) then (if (decide ((iadd a.X a.W)≤(iadd b.X b.W))) then (some (decide ((iadd a.Y a.H)≤(iadd b.Y b.H)))) else (some false)) else (some false)) else (some false)) else (some false)) else (some false)).bind fun j3=>some j3
noncomputable def sheetmetalref06_inside_l1 (s0 : Sheet) (l : (List Rect)) : Int→Option (Int ⊕ (Unit ⊕ Unit)):=fun s55 =>
  if (decide (s55 < (l.length : Int))) then ((idx l s55).bind fun x78=>(sheetmetalref06_Within x78 (Rect.mk 0 0 s0.Width s0.Height)).bind fun r79=>if (!r79) then (some (.inr (.inl ()))) else (some (.inl (iadd s55 1)))) else (some (.inr (.inr (()))))
noncomputable def sheetmetalref06_inside (s0 : Sheet) (l : (List Rect)) : Option (Bool):=
  (loopT (sheetmetalref06_inside_l1 s0 l) 0).bind fun x80=>match x80 with | .inl j81=>some false | .inr j82=>some true
noncomputable def sheetmetalref06_ValidateSheet (s0 : Sheet) : Option (Int):=
  (sheetmetalref06_stuff s0.Name s0.Material s0.Gauge s0.Grain).bind fun r2=>if (r2 != 0) then (some r2) else ((if (decide (s0.Width < 1)) then (some true) else (if (decide (s0.Width > 1048576)) then (some true) else (if (decide (s0.Height < 1)) then (some true) else (some (decide (s0.Height > 1048576)))))).bind fun j4=>if j4 then (some 1) else ((if (decide ((s0.Clamps.length : Int) > 4)) then (some true) else (some (decide ((s0.Used.length : Int) > 48)))).bind fun j6=>if j6 then (some 4) else (((sheetmetalref06_Rights s0.Clamps).bind fun r15=>if r15 then ((sheetmetalref06_Rights s0.Used).bind fun r16=>some (!r16)) else (some true)).bind fun j14=>if j14 then (some 1) else (((sheetmetalref06_inside s0 s0.Clamps).bind fun r25=>if r25 then ((sheetmetalref06_inside s0 s0.Used).bind fun r26=>some (!r26)) else (some true)).bind fun j24=>if j24 then (some 13) else (some 0)))))
noncomputable def sheetmetalref06_Shift_k1 (s61 : Int×(List Rect)) (x84 : Rect) : (Int×Int)→Option (Int×(List Rect) ⊕ (List Rect)):=fun j86 =>
  (app s61.2 [(Rect.mk j86.1 j86.2 x84.W x84.H)]).bind fun l88=>some (.inl ((iadd s61.1 1),l88))
noncomputable def sheetmetalref06_Shift_l2 (l : (List Rect)) (x1 : Int) (y : Int) : Int×(List Rect)→Option (Int×(List Rect) ⊕ (List Rect)):=fun s61 =>
  if (decide (s61.1 < (l.length : Int))) then ((idx l s61.1).bind fun x84=>(if (decide (x84.X > (-2147483648))) then (if (decide (x84.X < 2147483648)) then (if (decide (x84.Y > (-2147483648))) then (some (decide (x84.Y < 2147483648))) else (some false)) else (some false)) else (some false)).bind fun j89=>if j89 then (sheetmetalref06_Shift_k1 s61 x84 ((iadd x84.X x1),(iadd x84.Y y))) else (sheetmetalref06_Shift_k1 s61 x84 (x84.X,x84.Y))) else (some (.inr s61.2))
noncomputable def sheetmetalref06_Shift (l : (List Rect)) (x1 : Int) (y : Int) : Option ((List Rect)):=
  (loopT (sheetmetalref06_Shift_l2 l x1 y) (0,[])).bind fun x90=>some x90
noncomputable def sheetmetalref06_Move (x0 : Piece) (dx : Int) (dy : Int) : Option (Piece):=
  (sheetmetalref06_Shift x0.Rects dx dy).bind fun r2=>(sheetmetalref06_Shift x0.Cuts dx dy).bind fun r4=>(sheetmetalref06_Shift x0.Forms dx dy).bind fun r6=>some (Piece.mk x0.Name x0.Material x0.Gauge x0.Grain r2 r4 r6)
noncomputable def sheetmetalref06_least_l1 (l : (List Rect)) : (Int×Int×Int)→Option ((Int×Int×Int) ⊕ (Int×Int)):=fun s43 =>
  if (decide (s43.2.2 < (l.length : Int))) then ((idx l s43.2.2).bind fun x57=>(idx l s43.2.2).bind fun x59=>some (.inl ((imin s43.1 x57.X),(imin s43.2.1 x59.Y),(iadd s43.2.2 1)))) else (some (.inr (s43.1,s43.2.1)))
noncomputable def sheetmetalref06_least (l : (List Rect)) : Option (Int×Int):=
  (idx l 0).bind fun x5=>(idx l 0).bind fun x6=>(loopT (sheetmetalref06_least_l1 l) (x5.X,x6.Y,1)).bind fun x60=>some (x60.1,x60.2)
noncomputable def sheetmetalref06_Overlaps (a : Rect) (b : Rect) : Option (Bool):=
  ((sheetmetalref06_Right a).bind fun r4=>if r4 then ((sheetmetalref06_Right b).bind fun r5=>if r5 then (if (decide (a.X < (iadd b.X b.W))) then (if (decide (b.X < (iadd a.X a.W))) then (if (decide (a.Y < (iadd b.Y b.H))) then (some (decide (b.Y < (iadd a.Y a.H)))) else (some false)) else (some false)) else (some false)) else (some false)) else (some false)).bind fun j3=>some j3
noncomputable def sheetmetalref06_Meets_l1 (r0 : Rect) (l : (List Rect)) : Int→Option (Int ⊕ (Unit ⊕ Unit)):=fun s55 =>
  if (decide (s55 < (l.length : Int))) then ((idx l s55).bind fun x78=>(sheetmetalref06_Overlaps r0 x78).bind fun r79=>if r79 then (some (.inr (.inl ()))) else (some (.inl (iadd s55 1)))) else (some (.inr (.inr (()))))
noncomputable def sheetmetalref06_Meets (r0 : Rect) (l : (List Rect)) : Option (Bool):=
  (loopT (sheetmetalref06_Meets_l1 r0 l) 0).bind fun x80=>match x80 with | .inl j81=>some true | .inr j82=>some false
noncomputable def sheetmetalref06_touching (a : Rect) (b : Rect) : Option (Bool):=
  (if ((isub (imin (iadd a.X a.W) (iadd b.X b.W)) (imax a.X b.X))==0) then (if (decide ((isub (imin (iadd a.Y a.H) (iadd b.Y b.H)) (imax a.Y b.Y)) > 0)) then (some true) else (if ((isub (imin (iadd a.Y a.H) (iadd b.Y b.H)) (imax a.Y b.Y))==0) then (some (decide ((isub (imin (iadd a.X a.W) (iadd b.X b.W)) (imax a.X b.X)) > 0))) else (some false))) else (if ((isub (imin (iadd a.Y a.H) (iadd b.Y b.H)) (imax a.Y b.Y))==0) then (some (decide ((isub (imin (iadd a.X a.W) (iadd b.X b.W)) (imax a.X b.X)) > 0))) else (some false))).bind fun j1=>some j1
noncomputable def sheetmetalref06_connected_k1 (s1438 : Int×(List Bool)×(List Int)) : ((List Bool)×(List Int))→Option ((Int×(List Bool)×(List Int)) ⊕ ((List Bool)×(List Int))):=fun j1500 =>
  some (.inl ((iadd s1438.1 1),j1500.1,j1500.2))
noncomputable def sheetmetalref06_connected_l2 (l : (List Rect)) (s1017 : Int×(List Bool)×(List Int)) : (Int×(List Bool)×(List Int))→Option ((Int×(List Bool)×(List Int)) ⊕ ((List Bool)×(List Int))):=fun s1438 =>
  if (decide (s1438.1 < (l.length : Int))) then (((idx s1438.2.1 s1438.1).bind fun x1512=>if x1512 then (some false) else ((idx s1438.2.2 s1017.1).bind fun x1513=>(idx l x1513).bind fun x1514=>(idx l s1438.1).bind fun x1515=>(sheetmetalref06_touching x1514 x1515).bind fun r1516=>some r1516)).bind fun j1511=>if j1511 then ((idx s1438.2.1 s1438.1).bind fun x1518=>(app s1438.2.2 [s1438.1]).bind fun l1520=>sheetmetalref06_connected_k1 s1438 ((List.set s1438.2.1 (Int.toNat s1438.1) true),l1520)) else (sheetmetalref06_connected_k1 s1438 (s1438.2.1,s1438.2.2))) else (some (.inr (s1438.2.1,s1438.2.2)))
noncomputable def sheetmetalref06_connected_l3 (l : (List Rect)) : (Int×(List Bool)×(List Int))→Option ((Int×(List Bool)×(List Int)) ⊕ (List Int)):=fun s1017 =>
  if (decide (s1017.1 < (s1017.2.2.length : Int))) then ((loopT (sheetmetalref06_connected_l2 l s1017) (0,s1017.2.1,s1017.2.2)).bind fun x1521=>some (.inl ((iadd s1017.1 1),x1521.1,x1521.2))) else (some (.inr s1017.2.2))
noncomputable def sheetmetalref06_connected (l : (List Rect)) : Option (Bool):=
  (mk (l.length : Int) false).bind fun l2=>(idx l2 0).bind fun x4=>(loopT (sheetmetalref06_connected_l3 l) (0,(List.set l2 (Int.toNat 0) true),[0])).bind fun x1522=>some ((x1522.length : Int)==(l.length : Int))
noncomputable def sheetmetalref06_deep_l1 (r0 : Rect) (l : (List Rect)) : Int→Option (Int ⊕ (Unit ⊕ Unit)):=fun s159 =>
  if (decide (s159 < (l.length : Int))) then (((idx l s159).bind fun x230=>if (decide (r0.X > x230.X)) then ((idx l s159).bind fun x231=>if (decide (r0.Y > x231.Y)) then ((idx l s159).bind fun x232=>(idx l s159).bind fun x233=>if (decide ((iadd r0.X r0.W) < (iadd x232.X x233.W))) then ((idx l s159).bind fun x234=>(idx l s159).bind fun x235=>some (decide ((iadd r0.Y r0.H) < (iadd x234.Y x235.H)))) else (some false)) else (some false)) else (some false)).bind fun j229=>if j229 then (some (.inr (.inl ()))) else (some (.inl (iadd s159 1)))) else (some (.inr (.inr (()))))
noncomputable def sheetmetalref06_deep (r0 : Rect) (l : (List Rect)) : Option (Bool):=
  (loopT (sheetmetalref06_deep_l1 r0 l) 0).bind fun x236=>match x236 with | .inl j237=>some true | .inr j238=>some false
noncomputable def sheetmetalref06_Apart (a : Rect) (b : Rect) : Option (Int):=
  ((sheetmetalref06_Right a).bind fun r9=>if r9 then ((sheetmetalref06_Right b).bind fun r10=>some (!r10)) else (some true)).bind fun j8=>if j8 then (some 0) else (some (imax (imax (imax 0 (isub (isub a.X b.X) b.W)) (isub (isub b.X a.X) a.W)) (imax (imax 0 (isub (isub a.Y b.Y) b.H)) (isub (isub b.Y a.Y) a.H))))
noncomputable def sheetmetalref06_ValidatePiece_l1 (x0 : Piece) : Int→Option (Int ⊕ (Unit ⊕ Unit)):=fun s101 =>
  if (decide (s101 < (x0.Rects.length : Int))) then ((idx x0.Rects s101).bind fun x135=>(slc x0.Rects 0 s101).bind fun l136=>(sheetmetalref06_Meets x135 l136).bind fun r137=>if r137 then (some (.inr (.inl ()))) else (some (.inl (iadd s101 1)))) else (some (.inr (.inr (()))))
noncomputable def sheetmetalref06_ValidatePiece_l2 (x0 : Piece) (l150 : (List Rect)) : Int→Option (Int ⊕ (Unit ⊕ Unit)):=fun s261 =>
  if (decide (s261 < (l150.length : Int))) then (((idx l150 s261).bind fun x310=>(sheetmetalref06_deep x310 x0.Rects).bind fun r311=>if r311 then (if (decide (s261 < (x0.Cuts.length : Int))) then ((idx l150 s261).bind fun x312=>if (x312.W==1) then (some true) else ((idx l150 s261).bind fun x313=>some (x313.H==1))) else (some false)) else (some true)).bind fun j309=>if j309 then (some (.inr (.inl ()))) else (some (.inl (iadd s261 1)))) else (some (.inr (.inr (()))))
noncomputable def sheetmetalref06_ValidatePiece_l3 (l150 : (List Rect)) (s567 : Int) : Int→Option (Int ⊕ (Unit ⊕ Unit)):=fun s764 =>
  if (decide (s764 < s567)) then ((idx l150 s567).bind fun x798=>(idx l150 s764).bind fun x799=>(sheetmetalref06_Apart x798 x799).bind fun r800=>if (r800==0) then (some (.inr (.inl ()))) else (some (.inl (iadd s764 1)))) else (some (.inr (.inr (()))))
noncomputable def sheetmetalref06_ValidatePiece_l4 (l150 : (List Rect)) : Int→Option (Int ⊕ (Unit ⊕ Unit)):=fun s567 =>
  if (decide (s567 < (l150.length : Int))) then ((loopT (sheetmetalref06_ValidatePiece_l3 l150 s567) 0).bind fun x801=>match x801 with | .inl j802=>some (.inr (.inl ())) | .inr j803=>some (.inl (iadd s567 1))) else (some (.inr (.inr (()))))
noncomputable def sheetmetalref06_ValidatePiece (x0 : Piece) : Option (Int):=
  (sheetmetalref06_stuff x0.Name x0.Material x0.Gauge x0.Grain).bind fun r2=>if (r2 != 0) then (some r2) else ((if (decide ((x0.Rects.length : Int) > 12)) then (some true) else (if (decide ((x0.Cuts.length : Int) > 12)) then (some true) else (some (decide ((x0.Forms.length : Int) > 12))))).bind fun j4=>if j4 then (some 4) else ((if ((x0.Rects.length : Int)==0) then (some true) else ((sheetmetalref06_Rights x0.Rects).bind fun r16=>if r16 then ((sheetmetalref06_Rights x0.Cuts).bind fun r17=>if r17 then ((sheetmetalref06_Rights x0.Forms).bind fun r18=>some (!r18)) else (some true)) else (some true))).bind fun j15=>if j15 then (some 1) else ((sheetmetalref06_least x0.Rects).bind fun r20=>(if (r20.1 != 0) then (some true) else (some (r20.2 != 0))).bind fun j22=>if j22 then (some 1) else ((loopT (sheetmetalref06_ValidatePiece_l1 x0) 0).bind fun x138=>match x138 with | .inl j139=>some 7 | .inr j140=>(sheetmetalref06_connected x0.Rects).bind fun r144=>if (!r144) then (some 6) else ((app [] x0.Cuts).bind fun l149=>(app l149 x0.Forms).bind fun l150=>(loopT (sheetmetalref06_ValidatePiece_l2 x0 l150) 0).bind fun x314=>match x314 with | .inl j315=>some 13 | .inr j316=>(loopT (sheetmetalref06_ValidatePiece_l4 l150) 0).bind fun x804=>match x804 with | .inl j805=>some 7 | .inr j806=>some 0)))))
def strings_Contains' (s sub : ByteArray) : Option Bool:=if s.size < 4294967281 then some (Go.Lib.contains s.data.toList sub.data.toList) else none
noncomputable def part_ValidName_k_l1 (s0 : ByteArray) : Int→Option (Int ⊕ Unit):=fun s29 =>
  if (decide (s29 < (s0.size : Int))) then ((sidx s0 s29).bind fun x37=>if (decide (x37 < 97)) then (none) else (if (decide (x37 > 122)) then (none) else (some (.inl (iadd s29 1))))) else (some (.inr ()))
noncomputable def part_ValidName_k (s0 : ByteArray) : Option (Bool):=
  if (decide ((s0.size : Int) < 1)) then (none) else (if (decide ((s0.size : Int) > 8)) then (none) else ((sidx s0 0).bind fun x7=>if (decide (x7 < 97)) then (none) else ((sidx s0 0).bind fun x8=>if (decide (x8 > 122)) then (none) else ((iterT (part_ValidName_k_l1 s0) 1000 0).bind fun x38=>(scat (ByteArray.mk #[32]) s0).bind fun s42=>(scat s42 (ByteArray.mk #[32])).bind fun s43=>(strings_Contains' (ByteArray.mk #[32,112,97,114,116,32,109,97,116,101,114,105,97,108,32,98,97,115,101,32,102,108,97,110,103,101,32,104,111,108,101,32,99,117,116,32,102,111,114,109,32,101,97,115,116,32,115,111,117,116,104,32,119,101,115,116,32,110,111,114,116,104,32,117,112,32,100,111,119,110,32,99,108,111,115,101,117,112,32,99,108,111,115,101,100,111,119,110,32,103,114,97,105,110,32,120,32,121,32,116,97,98,108,101,32,97,110,103,108,101,32,109,97,99,104,105,110,101,32,112,117,110,99,104,32,100,105,101,32,102,114,97,109,101,32,103,97,117,103,101,32,112,111,108,121,32,115,116,97,116,105,111,110,115,32]) s43).bind fun r44=>some (!r44)))))
noncomputable def nest_from_k (n : Int) (lo : Int) (hi : Int) : Option (Bool):=
  if (decide (lo≤n)) then (some (decide (n≤hi))) else (none)
noncomputable def nest_plain_k (gauge : Int) (grain : Int) : Option (Bool):=
  (nest_from_k gauge 1 60).bind fun r3=>if r3 then ((nest_from_k grain 0 2).bind fun r4=>some r4) else (none)
noncomputable def geom_within_k (n : Int) (most : Int) : Option (Bool):=
  if (decide ((ineg most)≤n)) then (some (decide (n≤most))) else (none)
noncomputable def geom_ValidRect_1_k (x0 : Int) (w : Int) : Option (Bool):=
  (geom_within_k x0 1048576).bind fun r2=>if r2 then (if (decide (w > 0)) then (if (decide (w≤2097152)) then (some (decide ((iadd x0 w)≤1048576))) else (none)) else (none)) else (none)
noncomputable def geom_ValidRect_k (r0 : Rect) : Option (Bool):=
  (geom_ValidRect_1_k r0.X r0.W).bind fun r3=>if r3 then ((geom_ValidRect_1_k r0.Y r0.H).bind fun r4=>some r4) else (none)
noncomputable def nest_valid_k_l1 (l : (List Rect)) : Int→Option (Int ⊕ Unit):=fun s37 =>
  if (decide (s37 < (l.length : Int))) then ((idx l s37).bind fun x51=>(geom_ValidRect_k x51).bind fun r53=>if (!r53) then (none) else (some (.inl (iadd s37 1)))) else (some (.inr ()))
noncomputable def nest_valid_k (l : (List Rect)) : Option (Bool):=
  (iterT (nest_valid_k_l1 l) 1000 0).bind fun x54=>some true
noncomputable def nest_inner_k (s0 : Sheet) (margin : Int) : Option (Rect×Bool):=
  (geom_ValidRect_k (Rect.mk margin margin (isub s0.Width (imul 2 margin)) (isub s0.Height (imul 2 margin)))).bind fun r3=>some ((Rect.mk margin margin (isub s0.Width (imul 2 margin)) (isub s0.Height (imul 2 margin))),r3)
noncomputable def nest_ValidateSheet_k_l1 (x81 : (List Rect)) : Unit→Option (Unit ⊕ Unit):=fun s82 =>
  if (decide (0 < (x81.length : Int))) then (none) else (some (.inr ()))
noncomputable def nest_ValidateSheet_k_l2 (s0 : Sheet) : Int→Option (Int ⊕ Unit):=fun s67 =>
  if (decide (s67 < ([s0.Clamps,s0.Used].length : Int))) then ((idx [s0.Clamps,s0.Used] s67).bind fun x81=>(iterT (nest_ValidateSheet_k_l1 x81) 1000 ()).bind fun x83=>some (.inl (iadd s67 1))) else (some (.inr ()))
noncomputable def nest_ValidateSheet_k (s0 : Sheet) : Option (Int):=
  (part_ValidName_k s0.Name).bind fun r17=>if r17 then ((part_ValidName_k s0.Material).bind fun r18=>if (!r18) then (none) else ((nest_plain_k s0.Gauge s0.Grain).bind fun r22=>if r22 then ((nest_from_k s0.Width 1 1048576).bind fun r23=>if r23 then ((nest_from_k s0.Height 1 1048576).bind fun r24=>if (!r24) then (none) else (if (decide ((s0.Clamps.length : Int) > 4)) then (none) else (if (decide ((s0.Used.length : Int) > 48)) then (none) else ((nest_valid_k s0.Clamps).bind fun r27=>if r27 then ((nest_valid_k s0.Used).bind fun r28=>if (!r28) then (none) else ((nest_inner_k s0 0).bind fun r30=>(iterT (nest_ValidateSheet_k_l2 s0) 1000 0).bind fun x84=>some 0)) else (none))))) else (none)) else (none))) else (none)
noncomputable def slices_Clone_Lapi_Rect_api_Rect' (s : (List Rect)) : Option (List Rect):=app [] s
noncomputable def cut_back_k_l1 (x1 : Int) (y : Int) (r2 : (List Rect)) : Int×(List Rect)→Option (Int×(List Rect) ⊕ (List Rect)):=fun s23 =>
  if (decide (s23.1 < (r2.length : Int))) then ((idx s23.2 s23.1).bind fun x31=>if (decide (x31.X < (-4194304))) then (none) else (if (decide (x31.X > 4194304)) then (none) else (if (decide (x31.Y < (-4194304))) then (none) else (if (decide (x31.Y > 4194304)) then (none) else (some (.inl ((iadd s23.1 1),(List.set (List.set s23.2 (Int.toNat s23.1) (Rect.mk (isub x31.X x1) x31.Y x31.W x31.H)) (Int.toNat s23.1) (Rect.mk (((Rect.mk (isub x31.X x1) x31.Y x31.W x31.H)).X) (isub (((Rect.mk (isub x31.X x1) x31.Y x31.W x31.H)).Y) y) (((Rect.mk (isub x31.X x1) x31.Y x31.W x31.H)).W) (((Rect.mk (isub x31.X x1) x31.Y x31.W x31.H)).H)))))))))) else (some (.inr s23.2))
noncomputable def cut_back_k (l : (List Rect)) (x1 : Int) (y : Int) : Option ((List Rect)):=
  (slices_Clone_Lapi_Rect_api_Rect' l).bind fun r2=>(iterT (cut_back_k_l1 x1 y r2) 1000 (0,r2)).bind fun x32=>some x32
noncomputable def nest_connected_k_l1 (l : (List Rect)) (l2 : (List Bool)) : Int→Option (Int ⊕ Unit):=fun s134 =>
  if (decide (s134 < (l.length : Int))) then ((idx (List.set l2 (Int.toNat 0) true) s134).bind fun x146=>if x146 then (some (.inl (iadd s134 1))) else (none)) else (some (.inr ()))
noncomputable def nest_connected_k_l2 (l : (List Rect)) (l2 : (List Bool)) : (List Int)→Option ((List Int) ⊕ Unit):=fun s101 =>
  if (decide ((s101.length : Int) > 0)) then ((idx s101 0).bind fun x126=>if (decide (1≤s101.length)) then ((iterT (nest_connected_k_l1 l l2) 1000 0).bind fun x147=>some (.inl (List.drop 1 s101))) else none) else (some (.inr ()))
noncomputable def nest_connected_k_l3 (l2 : (List Bool)) : Int→Option (Int ⊕ Unit):=fun s169 =>
  if (decide (s169 < ((List.set l2 (Int.toNat 0) true).length : Int))) then ((idx (List.set l2 (Int.toNat 0) true) s169).bind fun x177=>if (!x177) then (none) else (some (.inl (iadd s169 1)))) else (some (.inr ()))
noncomputable def nest_connected_k (l : (List Rect)) : Option (Bool):=
  (mk (l.length : Int) false).bind fun l2=>(idx l2 0).bind fun x4=>(iterT (nest_connected_k_l2 l l2) 1000 [0]).bind fun x148=>(iterT (nest_connected_k_l3 l2) 1000 0).bind fun x178=>some true
noncomputable def nest_inside_k_l1 (l6 : (List Rect)) : Unit→Option (Unit ⊕ Unit):=fun s9 =>
  if (decide (0 < (l6.length : Int))) then (none) else (some (.inr ()))
noncomputable def nest_inside_k_l2 (l6 : (List Rect)) : Unit→Option (Unit ⊕ Unit):=fun s13 =>
  if (decide (0 < (l6.length : Int))) then (none) else (some (.inr ()))
noncomputable def nest_inside_k (x0 : Piece) : Option (Int):=
  (app [] x0.Cuts).bind fun l5=>(app l5 x0.Forms).bind fun l6=>(iterT (nest_inside_k_l1 l6) 1000 ()).bind fun x10=>(iterT (nest_inside_k_l2 l6) 1000 ()).bind fun x14=>some 0
noncomputable def nest_ValidatePiece_k_l1 (x0 : Piece) : (Int×Int×Int)→Option ((Int×Int×Int) ⊕ (Int×Int)):=fun s51 =>
  if (decide (s51.2.2 < (x0.Rects.length : Int))) then ((idx x0.Rects s51.2.2).bind fun x59=>some (.inl ((imin s51.1 x59.X),(imin s51.2.1 x59.Y),(iadd s51.2.2 1)))) else (some (.inr (s51.1,s51.2.1)))
noncomputable def nest_ValidatePiece_k_l2 (l135 : (List Rect)) : Unit→Option (Unit ⊕ Unit):=fun s136 =>
  if (decide (0 < (l135.length : Int))) then (none) else (some (.inr ()))
noncomputable def nest_ValidatePiece_k_l3 (x0 : Piece) : Int→Option (Int ⊕ Unit):=fun s113 =>
  if (decide (s113 < (x0.Rects.length : Int))) then ((idx x0.Rects s113).bind fun x133=>(slc x0.Rects 0 s113).bind fun l135=>(iterT (nest_ValidatePiece_k_l2 l135) 1000 ()).bind fun x137=>some (.inl (iadd s113 1))) else (some (.inr ()))
noncomputable def nest_ValidatePiece_k (x0 : Piece) : Option (Int):=
  (part_ValidName_k x0.Name).bind fun r15=>if r15 then ((part_ValidName_k x0.Material).bind fun r16=>if (!r16) then (none) else ((nest_plain_k x0.Gauge x0.Grain).bind fun r18=>if (!r18) then (none) else (if (decide ((x0.Rects.length : Int) > 12)) then (none) else (if (decide ((x0.Cuts.length : Int) > 12)) then (none) else (if (decide ((x0.Forms.length : Int) > 12)) then (none) else (if ((x0.Rects.length : Int)==0) then (none) else ((nest_valid_k x0.Rects).bind fun r22=>if r22 then ((nest_valid_k x0.Cuts).bind fun r23=>if r23 then ((nest_valid_k x0.Forms).bind fun r24=>if (!r24) then (none) else ((idx x0.Rects 0).bind fun x29=>(idx x0.Rects 0).bind fun x30=>(iterT (nest_ValidatePiece_k_l1 x0) 1000 (x29.X,x30.Y,0)).bind fun x60=>if (x60.1 != 0) then (none) else (if (x60.2 != 0) then (none) else ((iterT (nest_ValidatePiece_k_l3 x0) 1000 0).bind fun x138=>(nest_connected_k x0.Rects).bind fun r142=>if (!r142) then (none) else ((nest_inside_k x0).bind fun r144=>some r144))))) else (none)) else (none)))))))) else (none)
noncomputable def cut_pieceError_k_l1 (x0 : Piece) : Int→Option (Int ⊕ Unit):=fun s37 =>
  if (decide (s37 < (x0.Rects.length : Int))) then ((idx x0.Rects s37).bind fun x51=>(geom_ValidRect_k x51).bind fun r53=>if (!r53) then (none) else (some (.inl (iadd s37 1)))) else (some (.inr ()))
noncomputable def cut_pieceError_k_l2 (x0 : Piece) : (Int×Int×Int)→Option ((Int×Int×Int) ⊕ (Int×Int)):=fun s81 =>
  if (decide (s81.2.2 < (x0.Rects.length : Int))) then ((idx x0.Rects s81.2.2).bind fun x89=>some (.inl ((imin s81.1 x89.X),(imin s81.2.1 x89.Y),(iadd s81.2.2 1)))) else (some (.inr (s81.1,s81.2.1)))
noncomputable def cut_pieceError_k (x0 : Piece) : Option (Int):=
  (iterT (cut_pieceError_k_l1 x0) 1000 0).bind fun x54=>if ((x0.Rects.length : Int)==0) then (none) else ((idx x0.Rects 0).bind fun x59=>(idx x0.Rects 0).bind fun x60=>(iterT (cut_pieceError_k_l2 x0) 1000 (x59.X,x60.Y,0)).bind fun x90=>(cut_back_k x0.Rects x90.1 x90.2).bind fun r97=>(cut_back_k x0.Cuts x90.1 x90.2).bind fun r98=>(cut_back_k x0.Forms x90.1 x90.2).bind fun r99=>(nest_ValidatePiece_k (Piece.mk x0.Name x0.Material x0.Gauge x0.Grain r97 r98 r99)).bind fun r101=>some r101)
noncomputable def geom_Inside_k (a : Rect) (b : Rect) : Option (Bool):=
  ((geom_ValidRect_k a).bind fun r4=>if r4 then ((geom_ValidRect_k b).bind fun r5=>if r5 then (if (decide (b.X≤a.X)) then (if (decide ((iadd a.X a.W)≤(iadd b.X b.W))) then (if (decide (b.Y≤a.Y)) then (some (decide ((iadd a.Y a.H)≤(iadd b.Y b.H)))) else (some false)) else (some false)) else (some false)) else (none)) else (none)).bind fun j3=>some j3
noncomputable def geom_Overlap_k (a : Rect) (b : Rect) : Option (Bool):=
  (geom_ValidRect_k a).bind fun r3=>if r3 then ((geom_ValidRect_k b).bind fun r4=>if r4 then (if (decide (a.X < (iadd b.X b.W))) then (none) else (some false)) else (none)) else (none)
noncomputable def cut_meets_1_k (x0 : Rect) (a_0 : Int) (a_1 : Int) (a_2 : Int) (a_3 : Int) : Option (Bool):=
  (geom_Overlap_k (Rect.mk a_0 a_1 a_2 a_3) x0).bind fun r2=>some r2
noncomputable def slices_IndexFunc_Lapi_Rect_api_Rect__cut_meets_1_k_l1 (s0 : (List Rect)) (f_0_0 : Int) (f_0_1 : Int) (f_0_2 : Int) (f_0_3 : Int) : Int→Option (Int ⊕ Unit):=fun s37 =>
  if (decide (s37 < (s0.length : Int))) then ((idx s0 s37).bind fun x52=>(cut_meets_1_k x52 f_0_0 f_0_1 f_0_2 f_0_3).bind fun r53=>if r53 then (none) else (some (.inl (iadd s37 1)))) else (some (.inr ()))
noncomputable def slices_IndexFunc_Lapi_Rect_api_Rect__cut_meets_1_k (s0 : (List Rect)) (f_0_0 : Int) (f_0_1 : Int) (f_0_2 : Int) (f_0_3 : Int) : Option (Int):=
  (iterT (slices_IndexFunc_Lapi_Rect_api_Rect__cut_meets_1_k_l1 s0 f_0_0 f_0_1 f_0_2 f_0_3) 1000 0).bind fun x54=>some (-1)
noncomputable def slices_ContainsFunc_Lapi_Rect_api_Rect__cut_meets_1_k (s0 : (List Rect)) (f_0_0 : Int) (f_0_1 : Int) (f_0_2 : Int) (f_0_3 : Int) : Option (Bool):=
  (slices_IndexFunc_Lapi_Rect_api_Rect__cut_meets_1_k s0 f_0_0 f_0_1 f_0_2 f_0_3).bind fun r2=>some (decide (r2 ≥ 0))
noncomputable def cut_meets_k (r0 : Rect) (l : (List Rect)) : Option (Bool):=
  (slices_ContainsFunc_Lapi_Rect_api_Rect__cut_meets_1_k l r0.X r0.Y r0.W r0.H).bind fun r2=>some r2
noncomputable def cut_Validate_k_l1 (l : LayoutT) : Int→Option (Int ⊕ Unit):=fun s41 =>
  if (decide (s41 < (l.Pieces.length : Int))) then ((idx l.Pieces s41).bind fun x55=>(cut_pieceError_k x55).bind fun r57=>if (r57 != 0) then (none) else (some (.inl (iadd s41 1)))) else (some (.inr ()))
noncomputable def cut_Validate_k_l2 (l : LayoutT) (x648 : Piece) : Int→Option (Int ⊕ Unit):=fun s666 =>
  if (decide (s666 < (x648.Rects.length : Int))) then ((idx x648.Rects s666).bind fun x692=>(geom_Inside_k x692 (Rect.mk 0 0 l.Sheet.Width l.Sheet.Height)).bind fun r696=>if r696 then ((cut_meets_k x692 l.Sheet.Clamps).bind fun r697=>if r697 then (none) else ((cut_meets_k x692 l.Sheet.Used).bind fun r698=>if r698 then (none) else (some (.inl (iadd s666 1))))) else (none)) else (some (.inr ()))
noncomputable def cut_Validate_k_l3 (l : LayoutT) : Int→Option (Int ⊕ Unit):=fun s487 =>
  if (decide (s487 < (l.Pieces.length : Int))) then ((idx l.Pieces s487).bind fun x648=>(iterT (cut_Validate_k_l2 l x648) 1000 0).bind fun x699=>some (.inl (iadd s487 1))) else (some (.inr ()))
noncomputable def cut_Validate_k_l4 (x2698 : Piece) (x2849 : Piece) : Int→Option (Int ⊕ Unit):=fun s2859 =>
  if (decide (s2859 < (x2698.Rects.length : Int))) then ((idx x2698.Rects s2859).bind fun x2873=>(cut_meets_k x2873 x2849.Rects).bind fun r2875=>if r2875 then (none) else (some (.inl (iadd s2859 1)))) else (some (.inr ()))
noncomputable def cut_Validate_k_l5 (x2698 : Piece) (l2700 : (List Piece)) : Int→Option (Int ⊕ Unit):=fun s2760 =>
  if (decide (s2760 < (l2700.length : Int))) then ((idx l2700 s2760).bind fun x2849=>(iterT (cut_Validate_k_l4 x2698 x2849) 1000 0).bind fun x2876=>some (.inl (iadd s2760 1))) else (some (.inr ()))
noncomputable def cut_Validate_k_l6 (l : LayoutT) : Int→Option (Int ⊕ Unit):=fun s2153 =>
  if (decide (s2153 < (l.Pieces.length : Int))) then ((idx l.Pieces s2153).bind fun x2698=>(slc l.Pieces 0 s2153).bind fun l2700=>(iterT (cut_Validate_k_l5 x2698 l2700) 1000 0).bind fun x2877=>some (.inl (iadd s2153 1))) else (some (.inr ()))
noncomputable def cut_Validate_k (l : LayoutT) : Option (Int):=
  (nest_ValidateSheet_k l.Sheet).bind fun r4=>if (r4 != 0) then (none) else (if (decide ((l.Pieces.length : Int) > 8)) then (none) else ((iterT (cut_Validate_k_l1 l) 1000 0).bind fun x58=>(iterT (cut_Validate_k_l3 l) 1000 0).bind fun x700=>(iterT (cut_Validate_k_l6 l) 1000 0).bind fun x2878=>some 0))
noncomputable def bits_Len64_k (x0 : Int) : Option (Int):=
  if (decide (x0 ≥ 4294967296)) then (none) else (if (decide (x0 ≥ 65536)) then (none) else (if (decide (x0 ≥ 256)) then (none) else ((sidx (ByteArray.mk #[0,1,2,2,3,3,3,3,4,4,4,4,4,4,4,4,5,5,5,5,5,5,5,5,5,5,5,5,5,5,5,5,6,6,6,6,6,6,6,6,6,6,6,6,6,6,6,6,6,6,6,6,6,6,6,6,6,6,6,6,6,6,6,6,7,7,7,7,7,7,7,7,7,7,7,7,7,7,7,7,7,7,7,7,7,7,7,7,7,7,7,7,7,7,7,7,7,7,7,7,7,7,7,7,7,7,7,7,7,7,7,7,7,7,7,7,7,7,7,7,7,7,7,7,7,7,7,7,8,8,8,8,8,8,8,8,8,8,8,8,8,8,8,8,8,8,8,8,8,8,8,8,8,8,8,8,8,8,8,8,8,8,8,8,8,8,8,8,8,8,8,8,8,8,8,8,8,8,8,8,8,8,8,8,8,8,8,8,8,8,8,8,8,8,8,8,8,8,8,8,8,8,8,8,8,8,8,8,8,8,8,8,8,8,8,8,8,8,8,8,8,8,8,8,8,8,8,8,8,8,8,8,8,8,8,8,8,8,8,8,8,8,8,8,8,8,8,8,8,8,8,8,8,8,8,8]) (IntKind.wrap .u8 x0)).bind fun x2=>some (iadd 0 (IntKind.wrap .i64 x2)))))
noncomputable def bits_Len_k (x0 : Int) : Option (Int):=
  (bits_Len64_k x0).bind fun r2=>some r2
noncomputable def cmp_isNaN_int_k (x0 : Int) : Option (Bool):=
  some (x0 != x0)
noncomputable def cmp_Compare_int_k (x0 : Int) (y : Int) : Option (Int):=
  (cmp_isNaN_int_k x0).bind fun r2=>(cmp_isNaN_int_k y).bind fun r4=>if r2 then (none) else (if r4 then (none) else (if (decide (x0 < y)) then (some (-1)) else (if (decide (x0 > y)) then (some 1) else (some 0))))
noncomputable def slices_insertionSortCmpFunc_int__cmp_Compare_int_k_l1 (a : Int) : Int×(List Int)→Option (Int×(List Int) ⊕ (List Int)):=fun s691 =>
  if (decide (s691.1 > a)) then ((idx s691.2 s691.1).bind fun x749=>(idx s691.2 (isub s691.1 1)).bind fun x750=>(cmp_Compare_int_k x749 x750).bind fun r751=>if (decide (r751 < 0)) then ((idx s691.2 (isub s691.1 1)).bind fun x772=>(idx s691.2 s691.1).bind fun x773=>(idx s691.2 s691.1).bind fun x774=>(idx (List.set s691.2 (Int.toNat s691.1) x772) (isub s691.1 1)).bind fun x775=>some (.inl ((isub s691.1 1),(List.set (List.set s691.2 (Int.toNat s691.1) x772) (Int.toNat (isub s691.1 1)) x773)))) else (some (.inr s691.2))) else (none)
noncomputable def slices_insertionSortCmpFunc_int__cmp_Compare_int_k_l2 (a : Int) (b : Int) : Int×(List Int)→Option (Int×(List Int) ⊕ (List Int)):=fun s260 =>
  if (decide (s260.1 < b)) then ((iterT (slices_insertionSortCmpFunc_int__cmp_Compare_int_k_l1 a) 1000 (s260.1,s260.2)).bind fun x776=>some (.inl ((iadd s260.1 1),x776))) else (some (.inr s260.2))
noncomputable def slices_insertionSortCmpFunc_int__cmp_Compare_int_k (a : Int) (b : Int) (h0 : (List Int)) : Option ((List Int)):=
  (iterT (slices_insertionSortCmpFunc_int__cmp_Compare_int_k_l2 a b) 1000 ((iadd a 1),h0)).bind fun x777=>some x777
noncomputable def slices_pdqsortCmpFunc_int__cmp_Compare_int_k_l1 (a : Int) (b : Int) (h0 : (List Int)) : Unit→Option (Unit ⊕ (List Int)):=fun s1 =>
  if (decide ((isub b a)≤12)) then ((slices_insertionSortCmpFunc_int__cmp_Compare_int_k a b h0).bind fun r9=>some (.inr r9)) else (none)
noncomputable def slices_pdqsortCmpFunc_int__cmp_Compare_int_k (a : Int) (b : Int) (limit : Int) (h0 : (List Int)) : Option ((List Int)):=
  (iterT (slices_pdqsortCmpFunc_int__cmp_Compare_int_k_l1 a b h0) 1000 ()).bind fun x10=>some x10
noncomputable def slices_SortFunc_Lint_int__cmp_Compare_int_k (h0 : (List Int)) : Option ((List Int)):=
  (bits_Len_k (IntKind.wrap .u64 (h0.length : Int))).bind fun r3=>(slices_pdqsortCmpFunc_int__cmp_Compare_int_k 0 (h0.length : Int) r3 h0).bind fun r4=>some r4
noncomputable def slices_Compact_Lint_int_k_k1 (s1640 : Int×Int×(List Int)) : Int×(List Int)→Option (Int×Int×(List Int) ⊕ Int×(List Int)):=fun j1672 =>
  some (.inl (j1672.1,(iadd s1640.2.1 1),j1672.2))
noncomputable def slices_Compact_Lint_int_k_l2 (h0 : (List Int)) (s1125 : Int) : Int×Int×(List Int)→Option (Int×Int×(List Int) ⊕ Int×(List Int)):=fun s1640 =>
  if (decide (s1640.2.1 < ((Int.toNat (h0.length : Int) - Int.toNat s1125 : Nat) : Int))) then ((idx (List.take (Int.toNat (h0.length : Int) - Int.toNat s1125) (List.drop (Int.toNat s1125) s1640.2.2)) s1640.2.1).bind fun x1677=>(idx (List.take (Int.toNat (h0.length : Int) - Int.toNat s1125) (List.drop (Int.toNat s1125) s1640.2.2)) (isub s1640.2.1 1)).bind fun x1678=>if (x1677 != x1678) then ((idx (List.take (Int.toNat (h0.length : Int) - Int.toNat s1125) (List.drop (Int.toNat s1125) s1640.2.2)) s1640.2.1).bind fun x1681=>(idx s1640.2.2 s1640.1).bind fun x1682=>slices_Compact_Lint_int_k_k1 s1640 ((iadd s1640.1 1),(List.set s1640.2.2 (Int.toNat s1640.1) x1681))) else (slices_Compact_Lint_int_k_k1 s1640 (s1640.1,s1640.2.2))) else (some (.inr (s1640.1,s1640.2.2)))
noncomputable def slices_Compact_Lint_int_k_l3 (h0 : (List Int)) : Int→Option (Int ⊕ (List Int)):=fun s1125 =>
  if (decide (s1125 < (h0.length : Int))) then ((idx h0 s1125).bind fun x1550=>(idx h0 (isub s1125 1)).bind fun x1551=>if (x1550==x1551) then (if (decide ((0 : Int)≤s1125)&&(decide (s1125≤(h0.length : Int))&&decide ((h0.length : Int)≤(h0.length : Int)))) then ((iterT (slices_Compact_Lint_int_k_l2 h0 s1125) 1000 (s1125,1,h0)).bind fun x1683=>if (decide ((0 : Int)≤x1683.1)&&(decide (x1683.1≤(x1683.2.length : Int))&&decide ((x1683.2.length : Int)≤(x1683.2.length : Int)))) then ((slc (cpy x1683.2 (Int.toNat x1683.1) (List.replicate (Int.toNat (x1683.2.length : Int) - Int.toNat x1683.1) 0)) 0 x1683.1).bind fun l1685=>some (.inr l1685)) else none) else none) else (some (.inl (iadd s1125 1)))) else (none)
noncomputable def slices_Compact_Lint_int_k (h0 : (List Int)) : Option ((List Int)):=
  if (decide ((h0.length : Int) < 2)) then (none) else ((iterT (slices_Compact_Lint_int_k_l3 h0) 1000 1).bind fun x1686=>some x1686)
noncomputable def cut_set_k (h0 : (List Int)) : Option ((List Int)):=
  (slices_SortFunc_Lint_int__cmp_Compare_int_k h0).bind fun r2=>(slices_Compact_Lint_int_k r2).bind fun r4=>some r4
noncomputable def cut_at_k_l1 (x1 : Int) (y : Int) (x284 : Piece) : Int→Option (Int ⊕ (Unit ⊕ Unit)):=fun s292 =>
  if (decide (s292 < (x284.Rects.length : Int))) then ((idx x284.Rects s292).bind fun x303=>(if (decide (x303.X≤x1)) then (if (decide (x1 < (iadd x303.X x303.W))) then (if (decide (x303.Y≤y)) then (some (decide (y < (iadd x303.Y x303.H)))) else (some false)) else (some false)) else (some false)).bind fun j304=>if j304 then (some (.inr (.inl ()))) else (some (.inl (iadd s292 1)))) else (some (.inr (.inr (()))))
noncomputable def cut_at_k_l2 (l : LayoutT) (x1 : Int) (y : Int) : Int→Option (Int ⊕ ((Option Int) ⊕ Unit)):=fun s207 =>
  if (decide (s207 < (l.Pieces.length : Int))) then ((idx l.Pieces s207).bind fun x284=>(iterT (cut_at_k_l1 x1 y x284) 1000 0).bind fun x305=>match x305 with | .inl j306=>some (.inr (.inl (some s207))) | .inr j307=>some (.inl (iadd s207 1))) else (some (.inr (.inr (()))))
noncomputable def cut_at_k (l : LayoutT) (x1 : Int) (y : Int) : Option ((Option Int)):=
  (iterT (cut_at_k_l2 l x1 y) 1000 0).bind fun x308=>match x308 with | .inl j309=>some j309 | .inr j310=>some none
noncomputable def cut_edges_1_k (x0 : Int) (a_0 : ByteArray) (a_1 : ByteArray) (a_2 : Int) (a_3 : Int) (a_4 : Int) (a_5 : Int) (a_6 : (List Rect)) (a_7 : (List Rect)) (a_8 : (List Piece)) (a2_0 : Int) : Option ((Option Int)×(Option Int)):=
  (cut_at_k (LayoutT.mk (Sheet.mk a_0 a_1 a_2 a_3 a_4 a_5 a_6 a_7) a_8) x0 a2_0).bind fun r5=>(cut_at_k (LayoutT.mk (Sheet.mk a_0 a_1 a_2 a_3 a_4 a_5 a_6 a_7) a_8) x0 (isub a2_0 1)).bind fun r6=>some (r5,r6)
noncomputable def cut_pieceNo_solid_k (a : Int) : Option (Bool):=
  some true
noncomputable def cut_nothing_solid_k (a : cut_nothing) : Option (Bool):=
  some false
noncomputable def cut_edges_2_k (from0 : Int) (to1 : Int) (a_0 : Int) : Option (Segment):=
  some (Segment.mk from0 a_0 to1 a_0)
noncomputable def cut_number_k (t : (Option Int)) : Option (Int):=
  if (Option.isSome t) then (some (Option.getD t 0)) else (some (-1))
noncomputable def cut_edge_k_k1 (s0 : Segment) : (Int×Int)→Option (EdgeT×Int×Int):=fun j2 =>
  some ((EdgeT.mk s0 j2.1 j2.2),j2.1,j2.2)
noncomputable def cut_edge_k (s0 : Segment) (a : Int) (b : Int) : Option (EdgeT×Int×Int):=
  (if (decide (a < 0)) then (some true) else (if (decide (b ≥ 0)) then (some (decide (b < a))) else (some false))).bind fun j3=>if j3 then (cut_edge_k_k1 s0 (b,a)) else (cut_edge_k_k1 s0 (a,b))
noncomputable def cut_along__cut_edges_1__cut_edges_2_k_k1 (s325 : Int×(Option Int)×(Option Int)×Int×(List EdgeT)) (x447 : Int) (j450 : (Option Int)×(Option Int)) : (List EdgeT)→Option ((Int×(Option Int)×(Option Int)×Int×(List EdgeT)) ⊕ (List EdgeT)):=fun j468 =>
  some (.inl (x447,j450.1,j450.2,(iadd s325.2.2.2.1 1),j468))
noncomputable def cut_along__cut_edges_1__cut_edges_2_k_k2 (line_0_0 : Int) (s325 : Int×(Option Int)×(Option Int)×Int×(List EdgeT)) (x447 : Int) : ((Option Int)×(Option Int))→Option ((Int×(Option Int)×(Option Int)×Int×(List EdgeT)) ⊕ (List EdgeT)):=fun j450 =>
  (if (j450.1==s325.2.1) then (some (j450.2==s325.2.2.1)) else (some false)).bind fun j452=>if j452 then (none) else ((if (s325.2.1==s325.2.2.1) then (some false) else ((match s325.2.1 with | some n=>cut_pieceNo_solid_k n | none=>cut_nothing_solid_k (cut_nothing.mk )).bind fun b472=>if b472 then (some true) else ((match s325.2.2.1 with | some n=>cut_pieceNo_solid_k n | none=>cut_nothing_solid_k (cut_nothing.mk )).bind fun b473=>some b473))).bind fun j471=>if j471 then ((cut_edges_2_k s325.1 x447 line_0_0).bind fun r479=>(cut_number_k s325.2.1).bind fun r480=>(cut_number_k s325.2.2.1).bind fun r481=>(cut_edge_k r479 r480 r481).bind fun r482=>(app s325.2.2.2.2 [(EdgeT.mk (Segment.mk r482.1.Line.X1 r482.1.Line.Y1 r482.1.Line.X2 r482.1.Line.Y2) r482.1.A r482.1.B)]).bind fun l483=>cut_along__cut_edges_1__cut_edges_2_k_k1 s325 x447 j450 l483) else (cut_along__cut_edges_1__cut_edges_2_k_k1 s325 x447 j450 s325.2.2.2.2))
noncomputable def cut_along__cut_edges_1__cut_edges_2_k_l3 (ends : (List Int)) (sides_0_0 : ByteArray) (sides_0_1 : ByteArray) (sides_0_2 : Int) (sides_0_3 : Int) (sides_0_4 : Int) (sides_0_5 : Int) (sides_0_6 : (List Rect)) (sides_0_7 : (List Rect)) (sides_0_8 : (List Piece)) (sides_1_0 : Int) (line_0_0 : Int) : (Int×(Option Int)×(Option Int)×Int×(List EdgeT))→Option ((Int×(Option Int)×(Option Int)×Int×(List EdgeT)) ⊕ (List EdgeT)):=fun s325 =>
  if (decide (s325.2.2.2.1 < (ends.length : Int))) then ((idx ends s325.2.2.2.1).bind fun x447=>if (decide ((iadd s325.2.2.2.1 1) < (ends.length : Int))) then ((cut_edges_1_k x447 sides_0_0 sides_0_1 sides_0_2 sides_0_3 sides_0_4 sides_0_5 sides_0_6 sides_0_7 sides_0_8 sides_1_0).bind fun r485=>cut_along__cut_edges_1__cut_edges_2_k_k2 line_0_0 s325 x447 (r485.1,r485.2)) else (cut_along__cut_edges_1__cut_edges_2_k_k2 line_0_0 s325 x447 (none,none))) else (some (.inr s325.2.2.2.2))
noncomputable def cut_along__cut_edges_1__cut_edges_2_k (ends : (List Int)) (sides_0_0 : ByteArray) (sides_0_1 : ByteArray) (sides_0_2 : Int) (sides_0_3 : Int) (sides_0_4 : Int) (sides_0_5 : Int) (sides_0_6 : (List Rect)) (sides_0_7 : (List Rect)) (sides_0_8 : (List Piece)) (sides_1_0 : Int) (line_0_0 : Int) : Option ((List EdgeT)):=
  (iterT (cut_along__cut_edges_1__cut_edges_2_k_l3 ends sides_0_0 sides_0_1 sides_0_2 sides_0_3 sides_0_4 sides_0_5 sides_0_6 sides_0_7 sides_0_8 sides_1_0 line_0_0) 1000 (0,none,none,0,[])).bind fun x486=>some x486
noncomputable def cut_edges_3_k (y : Int) (a_0 : ByteArray) (a_1 : ByteArray) (a_2 : Int) (a_3 : Int) (a_4 : Int) (a_5 : Int) (a_6 : (List Rect)) (a_7 : (List Rect)) (a_8 : (List Piece)) (a2_0 : Int) : Option ((Option Int)×(Option Int)):=
  (cut_at_k (LayoutT.mk (Sheet.mk a_0 a_1 a_2 a_3 a_4 a_5 a_6 a_7) a_8) a2_0 y).bind fun r5=>(cut_at_k (LayoutT.mk (Sheet.mk a_0 a_1 a_2 a_3 a_4 a_5 a_6 a_7) a_8) (isub a2_0 1) y).bind fun r6=>some (r5,r6)
noncomputable def cut_edges_4_k (from0 : Int) (to1 : Int) (a_0 : Int) : Option (Segment):=
  some (Segment.mk a_0 from0 a_0 to1)
noncomputable def cut_along__cut_edges_3__cut_edges_4_k_k1 (s325 : Int×(Option Int)×(Option Int)×Int×(List EdgeT)) (x447 : Int) (j450 : (Option Int)×(Option Int)) : (List EdgeT)→Option ((Int×(Option Int)×(Option Int)×Int×(List EdgeT)) ⊕ (List EdgeT)):=fun j468 =>
  some (.inl (x447,j450.1,j450.2,(iadd s325.2.2.2.1 1),j468))
noncomputable def cut_along__cut_edges_3__cut_edges_4_k_k2 (line_0_0 : Int) (s325 : Int×(Option Int)×(Option Int)×Int×(List EdgeT)) (x447 : Int) : ((Option Int)×(Option Int))→Option ((Int×(Option Int)×(Option Int)×Int×(List EdgeT)) ⊕ (List EdgeT)):=fun j450 =>
  (if (j450.1==s325.2.1) then (some (j450.2==s325.2.2.1)) else (some false)).bind fun j452=>if j452 then (none) else ((if (s325.2.1==s325.2.2.1) then (some false) else ((match s325.2.1 with | some n=>cut_pieceNo_solid_k n | none=>cut_nothing_solid_k (cut_nothing.mk )).bind fun b472=>if b472 then (some true) else ((match s325.2.2.1 with | some n=>cut_pieceNo_solid_k n | none=>cut_nothing_solid_k (cut_nothing.mk )).bind fun b473=>some b473))).bind fun j471=>if j471 then ((cut_edges_4_k s325.1 x447 line_0_0).bind fun r479=>(cut_number_k s325.2.1).bind fun r480=>(cut_number_k s325.2.2.1).bind fun r481=>(cut_edge_k r479 r480 r481).bind fun r482=>(app s325.2.2.2.2 [(EdgeT.mk (Segment.mk r482.1.Line.X1 r482.1.Line.Y1 r482.1.Line.X2 r482.1.Line.Y2) r482.1.A r482.1.B)]).bind fun l483=>cut_along__cut_edges_3__cut_edges_4_k_k1 s325 x447 j450 l483) else (cut_along__cut_edges_3__cut_edges_4_k_k1 s325 x447 j450 s325.2.2.2.2))
noncomputable def cut_along__cut_edges_3__cut_edges_4_k_l3 (ends : (List Int)) (sides_0_0 : ByteArray) (sides_0_1 : ByteArray) (sides_0_2 : Int) (sides_0_3 : Int) (sides_0_4 : Int) (sides_0_5 : Int) (sides_0_6 : (List Rect)) (sides_0_7 : (List Rect)) (sides_0_8 : (List Piece)) (sides_1_0 : Int) (line_0_0 : Int) : (Int×(Option Int)×(Option Int)×Int×(List EdgeT))→Option ((Int×(Option Int)×(Option Int)×Int×(List EdgeT)) ⊕ (List EdgeT)):=fun s325 =>
  if (decide (s325.2.2.2.1 < (ends.length : Int))) then ((idx ends s325.2.2.2.1).bind fun x447=>if (decide ((iadd s325.2.2.2.1 1) < (ends.length : Int))) then ((cut_edges_3_k x447 sides_0_0 sides_0_1 sides_0_2 sides_0_3 sides_0_4 sides_0_5 sides_0_6 sides_0_7 sides_0_8 sides_1_0).bind fun r485=>cut_along__cut_edges_3__cut_edges_4_k_k2 line_0_0 s325 x447 (r485.1,r485.2)) else (cut_along__cut_edges_3__cut_edges_4_k_k2 line_0_0 s325 x447 (none,none))) else (some (.inr s325.2.2.2.2))
noncomputable def cut_along__cut_edges_3__cut_edges_4_k (ends : (List Int)) (sides_0_0 : ByteArray) (sides_0_1 : ByteArray) (sides_0_2 : Int) (sides_0_3 : Int) (sides_0_4 : Int) (sides_0_5 : Int) (sides_0_6 : (List Rect)) (sides_0_7 : (List Rect)) (sides_0_8 : (List Piece)) (sides_1_0 : Int) (line_0_0 : Int) : Option ((List EdgeT)):=
  (iterT (cut_along__cut_edges_3__cut_edges_4_k_l3 ends sides_0_0 sides_0_1 sides_0_2 sides_0_3 sides_0_4 sides_0_5 sides_0_6 sides_0_7 sides_0_8 sides_1_0 line_0_0) 1000 (0,none,none,0,[])).bind fun x486=>some x486
noncomputable def cut_edges_k_l1 (x458 : Piece) : (Int×(List Int)×(List Int))→Option ((Int×(List Int)×(List Int)) ⊕ ((List Int)×(List Int))):=fun s472 =>
  if (decide (s472.1 < (x458.Rects.length : Int))) then ((idx x458.Rects s472.1).bind fun x492=>(app s472.2.1 [x492.X,(iadd x492.X x492.W)]).bind fun l494=>(app s472.2.2 [x492.Y,(iadd x492.Y x492.H)]).bind fun l496=>some (.inl ((iadd s472.1 1),l494,l496))) else (some (.inr (s472.2.1,s472.2.2)))
noncomputable def cut_edges_k_l2 (l : LayoutT) : (Int×(List Int)×(List Int))→Option ((Int×(List Int)×(List Int)) ⊕ ((List Int)×(List Int))):=fun s333 =>
  if (decide (s333.1 < (l.Pieces.length : Int))) then ((idx l.Pieces s333.1).bind fun x458=>(iterT (cut_edges_k_l1 x458) 1000 (0,s333.2.1,s333.2.2)).bind fun x497=>some (.inl ((iadd s333.1 1),x497.1,x497.2))) else (some (.inr (s333.2.1,s333.2.2)))
noncomputable def cut_edges_k_l3 (l : LayoutT) (r501 : (List Int)) (r502 : (List Int)) : Int×(List EdgeT)→Option (Int×(List EdgeT) ⊕ (List EdgeT)):=fun s555 =>
  if (decide (s555.1 < (r502.length : Int))) then ((idx r502 s555.1).bind fun x575=>(cut_along__cut_edges_1__cut_edges_2_k r501 l.Sheet.Name l.Sheet.Material l.Sheet.Gauge l.Sheet.Grain l.Sheet.Width l.Sheet.Height l.Sheet.Clamps l.Sheet.Used l.Pieces x575 x575).bind fun r578=>(app s555.2 r578).bind fun l579=>some (.inl ((iadd s555.1 1),l579))) else (some (.inr s555.2))
noncomputable def cut_edges_k_l4 (l : LayoutT) (r501 : (List Int)) (r502 : (List Int)) : Int×(List EdgeT)→Option (Int×(List EdgeT) ⊕ (List EdgeT)):=fun s633 =>
  if (decide (s633.1 < (r501.length : Int))) then ((idx r501 s633.1).bind fun x653=>(cut_along__cut_edges_3__cut_edges_4_k r502 l.Sheet.Name l.Sheet.Material l.Sheet.Gauge l.Sheet.Grain l.Sheet.Width l.Sheet.Height l.Sheet.Clamps l.Sheet.Used l.Pieces x653 x653).bind fun r656=>(app s633.2 r656).bind fun l657=>some (.inl ((iadd s633.1 1),l657))) else (some (.inr s633.2))
noncomputable def cut_edges_k (l : LayoutT) : Option ((List EdgeT)):=
  (iterT (cut_edges_k_l2 l) 1000 (0,[],[])).bind fun x498=>(cut_set_k x498.1).bind fun r501=>(cut_set_k x498.2).bind fun r502=>(iterT (cut_edges_k_l3 l r501 r502) 1000 (0,[])).bind fun x580=>(iterT (cut_edges_k_l4 l r501 r502) 1000 (0,x580)).bind fun x658=>some x658
noncomputable def cut_Edges_k (l : LayoutT) : Option ((List EdgeT)×Int):=
  (cut_Validate_k l).bind fun r4=>if (r4 != 0) then (none) else ((cut_edges_k l).bind fun r6=>some (r6,0))
noncomputable def cut_start_k_l1 (l : LayoutT) : Int×(List (List Bool))→Option (Int×(List (List Bool)) ⊕ (List (List Bool))):=fun s81 =>
  if (decide (s81.1 < (l.Pieces.length : Int))) then ((idx l.Pieces s81.1).bind fun x107=>(mk (x107.Cuts.length : Int) false).bind fun l112=>(app s81.2 [l112]).bind fun l113=>some (.inl ((iadd s81.1 1),l113))) else (some (.inr s81.2))
noncomputable def cut_start_k (l : LayoutT) (edges : Int) : Option (cut_State):=
  (mk edges false).bind fun l9=>(mk (l.Pieces.length : Int) false).bind fun l10=>(mk (l.Pieces.length : Int) 0).bind fun l11=>(mk (l.Pieces.length : Int) false).bind fun l12=>(iterT (cut_start_k_l1 l) 1000 (0,[])).bind fun x114=>some (cut_State.mk l9 x114 l10 l11 l12)
noncomputable def cut_State_fits_k_l1 (st : cut_State) (l : LayoutT) : Int→Option (Int ⊕ Unit):=fun s45 =>
  if (decide (s45 < (l.Pieces.length : Int))) then ((idx l.Pieces s45).bind fun x62=>(idx st.Holes s45).bind fun x65=>if ((x65.length : Int) != (x62.Cuts.length : Int)) then (none) else (some (.inl (iadd s45 1)))) else (some (.inr ()))
noncomputable def cut_State_fits_k (st : cut_State) (l : LayoutT) (edges : Int) : Option (Bool):=
  if ((st.Cut.length : Int) != edges) then (none) else (if ((st.Holes.length : Int) != (l.Pieces.length : Int)) then (none) else (if ((st.Done.length : Int) != (l.Pieces.length : Int)) then (none) else (if ((st.Joints.length : Int) != (l.Pieces.length : Int)) then (none) else (if ((st.Fallen.length : Int) != (l.Pieces.length : Int)) then (none) else ((iterT (cut_State_fits_k_l1 st l) 1000 0).bind fun x66=>some true)))))
noncomputable def slices_Index_Lbool_bool_k_l1 (s0 : (List Bool)) : Unit→Option (Unit ⊕ Unit):=fun s3 =>
  if (decide (0 < (s0.length : Int))) then (none) else (some (.inr ()))
noncomputable def slices_Index_Lbool_bool_k (s0 : (List Bool)) (v : Bool) : Option (Int):=
  (iterT (slices_Index_Lbool_bool_k_l1 s0) 1000 ()).bind fun x4=>some (-1)
noncomputable def slices_Contains_Lbool_bool_k (s0 : (List Bool)) (v : Bool) : Option (Bool):=
  (slices_Index_Lbool_bool_k s0 v).bind fun r2=>some (decide (r2 ≥ 0))
noncomputable def cut_of_k (e : EdgeT) (piece : Int) : Option (Bool):=
  (if (e.A==piece) then (some true) else (some (e.B==piece))).bind fun j1=>some j1
noncomputable def cut_State_free_k_l1 (st : cut_State) (all : (List EdgeT)) (piece : Int) : Int→Option (Int ⊕ (Unit ⊕ Unit)):=fun s63 =>
  if (decide (s63 < (all.length : Int))) then ((idx all s63).bind fun x86=>((cut_of_k x86 piece).bind fun r90=>if r90 then ((idx st.Cut s63).bind fun x91=>some (!x91)) else (some false)).bind fun j89=>if j89 then (some (.inr (.inl ()))) else (some (.inl (iadd s63 1)))) else (some (.inr (.inr (()))))
noncomputable def cut_State_free_k (st : cut_State) (all : (List EdgeT)) (piece : Int) : Option (Bool):=
  (iterT (cut_State_free_k_l1 st all piece) 1000 0).bind fun x92=>match x92 with | .inl j93=>some false | .inr j94=>some true
noncomputable def cut_State_order_k (st : cut_State) (all : (List EdgeT)) (x2 : ItemT) : Option (Bool):=
  (idx st.Fallen x2.Piece).bind fun x4=>if x4 then (none) else (if (decide (x2.Hole ≥ 0)) then (none) else ((idx st.Done x2.Piece).bind fun x9=>if x9 then (none) else ((idx st.Holes x2.Piece).bind fun x10=>(slices_Contains_Lbool_bool_k x10 false).bind fun r11=>if r11 then (none) else ((cut_State_free_k st all x2.Piece).bind fun r12=>some (!r12)))))
noncomputable def cut_Small_k_l1 (x0 : Piece) : (Int×Int×Int×Int×Int)→Option ((Int×Int×Int×Int×Int) ⊕ (Int×Int×Int×Int)):=fun s37 =>
  if (decide (s37.1 < (x0.Rects.length : Int))) then ((idx x0.Rects s37.1).bind fun x51=>(geom_ValidRect_k x51).bind fun r53=>if (!r53) then (none) else (if (s37.2.2.2.1==0) then (some (.inl ((iadd s37.1 1),x51.X,x51.Y,x51.W,x51.H))) else (none))) else (some (.inr (s37.2.1,s37.2.2.1,s37.2.2.2.1,s37.2.2.2.2)))
noncomputable def cut_Small_k (x0 : Piece) : Option (Bool):=
  (iterT (cut_Small_k_l1 x0) 1000 (0,0,0,0,0)).bind fun x54=>some (decide ((imin x54.2.2.1 x54.2.2.2) < 7200))
noncomputable def cut_InRegion_1_k (r0 : Rect) (a_0 : Int) (a_1 : Int) (a_2 : Int) (a_3 : Int) : Option (Bool):=
  (geom_Inside_k (Rect.mk a_0 a_1 a_2 a_3) r0).bind fun r2=>some r2
noncomputable def slices_IndexFunc_Lapi_Rect_api_Rect__cut_InRegion_1_k_l1 (s0 : (List Rect)) (f_0_0 : Int) (f_0_1 : Int) (f_0_2 : Int) (f_0_3 : Int) : Int→Option (Int ⊕ Unit):=fun s37 =>
  if (decide (s37 < (s0.length : Int))) then ((idx s0 s37).bind fun x52=>(cut_InRegion_1_k x52 f_0_0 f_0_1 f_0_2 f_0_3).bind fun r53=>if r53 then (none) else (some (.inl (iadd s37 1)))) else (some (.inr ()))
noncomputable def slices_IndexFunc_Lapi_Rect_api_Rect__cut_InRegion_1_k (s0 : (List Rect)) (f_0_0 : Int) (f_0_1 : Int) (f_0_2 : Int) (f_0_3 : Int) : Option (Int):=
  (iterT (slices_IndexFunc_Lapi_Rect_api_Rect__cut_InRegion_1_k_l1 s0 f_0_0 f_0_1 f_0_2 f_0_3) 1000 0).bind fun x54=>some (-1)
noncomputable def slices_ContainsFunc_Lapi_Rect_api_Rect__cut_InRegion_1_k (s0 : (List Rect)) (f_0_0 : Int) (f_0_1 : Int) (f_0_2 : Int) (f_0_3 : Int) : Option (Bool):=
  (slices_IndexFunc_Lapi_Rect_api_Rect__cut_InRegion_1_k s0 f_0_0 f_0_1 f_0_2 f_0_3).bind fun r2=>some (decide (r2 ≥ 0))
noncomputable def cut_InRegion_k_l1 (l : (List Rect)) (s1 : Spot) : Unit→Option (Unit ⊕ Unit):=fun s19 =>
  if (decide (0 < ([(Rect.mk (isub s1.X 1) (isub s1.Y 1) 1 1),(Rect.mk s1.X (isub s1.Y 1) 1 1),(Rect.mk (isub s1.X 1) s1.Y 1 1),(Rect.mk s1.X s1.Y 1 1)].length : Int))) then ((idx [(Rect.mk (isub s1.X 1) (isub s1.Y 1) 1 1),(Rect.mk s1.X (isub s1.Y 1) 1 1),(Rect.mk (isub s1.X 1) s1.Y 1 1),(Rect.mk s1.X s1.Y 1 1)] 0).bind fun x33=>(slices_ContainsFunc_Lapi_Rect_api_Rect__cut_InRegion_1_k l x33.X x33.Y x33.W x33.H).bind fun r35=>if (!r35) then (some (.inr ())) else (none)) else (none)
noncomputable def cut_InRegion_k (l : (List Rect)) (s1 : Spot) : Option (Bool):=
  if (decide (s1.X < (-4194304))) then (none) else (if (decide (s1.X > 4194304)) then (none) else (if (decide (s1.Y < (-4194304))) then (none) else (if (decide (s1.Y > 4194304)) then (none) else ((iterT (cut_InRegion_k_l1 l s1) 1000 ()).bind fun x36=>some false))))
noncomputable def cut_gap_k (s0 : Spot) (l : Segment) : Option (Int):=
  some (imax (imax (imax (imax 0 (isub l.X1 s0.X)) (isub s0.X l.X2)) (isub l.Y1 s0.Y)) (isub s0.Y l.Y2))
noncomputable def cut_State_lead_k_l1 (l : LayoutT) (x3 : ItemT) : Int→Option (Int ⊕ Unit):=fun s41 =>
  if (decide (s41 < (l.Pieces.length : Int))) then ((idx l.Pieces s41).bind fun x55=>(cut_InRegion_k x55.Rects x3.Lead).bind fun r57=>if r57 then (none) else (some (.inl (iadd s41 1)))) else (some (.inr ()))
noncomputable def cut_State_lead_k_l2 (st : cut_State) (all : (List EdgeT)) (x3 : ItemT) : Int→Option (Int ⊕ Unit):=fun s135 =>
  if (decide (s135 < (all.length : Int))) then ((idx all s135).bind fun x164=>((cut_of_k x164 x3.Piece).bind fun r169=>if r169 then ((idx st.Cut s135).bind fun x170=>if x170 then (some false) else ((cut_gap_k x3.Lead x164.Line).bind fun r171=>some (decide (r171≤7200)))) else (some false)).bind fun j168=>if j168 then (some (.inr ())) else (some (.inl (iadd s135 1)))) else (none)
noncomputable def cut_State_lead_k (st : cut_State) (l : LayoutT) (all : (List EdgeT)) (x3 : ItemT) : Option (Bool):=
  if (decide (x3.Hole ≥ 0)) then (none) else (if (decide (x3.Lead.X < 0)) then (none) else (if (decide (x3.Lead.X > l.Sheet.Width)) then (none) else (if (decide (x3.Lead.Y < 0)) then (none) else (if (decide (x3.Lead.Y > l.Sheet.Height)) then (none) else ((cut_InRegion_k l.Sheet.Clamps x3.Lead).bind fun r4=>if r4 then (none) else ((iterT (cut_State_lead_k_l1 l x3) 1000 0).bind fun x58=>(iterT (cut_State_lead_k_l2 st all x3) 1000 0).bind fun x172=>some true))))))
noncomputable def slices_Clone_Lbool_bool (s : (List Bool)) : Option (List Bool):=app [] s
noncomputable def slices_Clone_Lint_int (s : (List Int)) : Option (List Int):=app [] s
noncomputable def cut_State_clone_k_l1 (st : cut_State) : Int×(List (List Bool))→Option (Int×(List (List Bool)) ⊕ (List (List Bool))):=fun s81 =>
  if (decide (s81.1 < (st.Holes.length : Int))) then ((idx st.Holes s81.1).bind fun x107=>(slices_Clone_Lbool_bool x107).bind fun r112=>(app s81.2 [r112]).bind fun l113=>some (.inl ((iadd s81.1 1),l113))) else (some (.inr s81.2))
noncomputable def cut_State_clone_k (st : cut_State) : Option (cut_State):=
  (slices_Clone_Lbool_bool st.Cut).bind fun r9=>(slices_Clone_Lbool_bool st.Done).bind fun r10=>(slices_Clone_Lint_int st.Joints).bind fun r11=>(slices_Clone_Lbool_bool st.Fallen).bind fun r12=>(iterT (cut_State_clone_k_l1 st) 1000 (0,[])).bind fun x114=>some (cut_State.mk r9 x114 r10 r11 r12)
noncomputable def cut_do_k_k1 (s97 : Int×(List Bool)) : (List Bool)→Option (Int×(List Bool) ⊕ (List Bool)):=fun j117 =>
  some (.inl ((iadd s97.1 1),j117))
noncomputable def cut_do_k_l2 (all : (List EdgeT)) (x3 : ItemT) : Int×(List Bool)→Option (Int×(List Bool) ⊕ (List Bool)):=fun s97 =>
  if (decide (s97.1 < (all.length : Int))) then ((idx all s97.1).bind fun x119=>(cut_of_k x119 x3.Piece).bind fun r121=>if r121 then ((idx s97.2 s97.1).bind fun x123=>cut_do_k_k1 s97 (List.set s97.2 (Int.toNat s97.1) true)) else (cut_do_k_k1 s97 s97.2)) else (some (.inr s97.2))
noncomputable def cut_do_k_k3 (s205 : Int×(List Bool)) : (List Bool)→Option (Int×(List Bool) ⊕ (List Bool)):=fun j234 =>
  some (.inl ((iadd s205.1 1),j234))
noncomputable def cut_do_k_l4 (l : LayoutT) (all : (List EdgeT)) (x3 : ItemT) (r28 : cut_State) (x124 : (List Bool)) : Int×(List Bool)→Option (Int×(List Bool) ⊕ (List Bool)):=fun s205 =>
  if (decide (s205.1 < (l.Pieces.length : Int))) then (((cut_State_free_k (cut_State.mk x124 r28.Holes (List.set r28.Done (Int.toNat x3.Piece) true) (List.set r28.Joints (Int.toNat x3.Piece) x3.Joints) s205.2) all s205.1).bind fun r239=>if r239 then ((idx (List.set r28.Done (Int.toNat x3.Piece) true) s205.1).bind fun x240=>if x240 then ((idx (List.set r28.Joints (Int.toNat x3.Piece) x3.Joints) s205.1).bind fun x241=>some (!(decide (x241 > 0)))) else (some true)) else (some false)).bind fun j238=>if j238 then ((idx s205.2 s205.1).bind fun x243=>cut_do_k_k3 s205 (List.set s205.2 (Int.toNat s205.1) true)) else (cut_do_k_k3 s205 s205.2)) else (some (.inr s205.2))
noncomputable def cut_do_k (l : LayoutT) (all : (List EdgeT)) (st : cut_State) (x3 : ItemT) : Option (cut_State×Int):=
  (cut_State_fits_k st l (all.length : Int)).bind fun r15=>if r15 then (if (decide (x3.Piece < 0)) then (none) else (if (decide (x3.Piece ≥ (l.Pieces.length : Int))) then (none) else (if (decide (x3.Hole < (-1))) then (none) else ((idx l.Pieces x3.Piece).bind fun x18=>if (decide (x3.Hole ≥ (x18.Cuts.length : Int))) then (none) else (if (decide (x3.Joints < 0)) then (none) else (if (decide (x3.Joints > 4)) then (none) else (if (decide (x3.Hole ≥ 0)) then (none) else ((cut_State_order_k st all (ItemT.mk x3.Piece x3.Hole x3.Joints (Spot.mk x3.Lead.X x3.Lead.Y))).bind fun r20=>if (!r20) then (none) else (if (decide (x3.Hole < 0)) then (if (x3.Joints==0) then ((idx l.Pieces x3.Piece).bind fun x23=>(cut_Small_k x23).bind fun r24=>if r24 then (none) else ((cut_State_lead_k st l all (ItemT.mk x3.Piece x3.Hole x3.Joints (Spot.mk x3.Lead.X x3.Lead.Y))).bind fun r26=>if (!r26) then (none) else ((cut_State_clone_k st).bind fun r28=>if (decide (x3.Hole ≥ 0)) then (none) else ((idx r28.Done x3.Piece).bind fun x81=>(idx r28.Joints x3.Piece).bind fun x82=>(iterT (cut_do_k_l2 all x3) 1000 (0,r28.Cut)).bind fun x124=>(iterT (cut_do_k_l4 l all x3 r28 x124) 1000 (0,r28.Fallen)).bind fun x244=>some ((cut_State.mk x124 r28.Holes (List.set r28.Done (Int.toNat x3.Piece) true) (List.set r28.Joints (Int.toNat x3.Piece) x3.Joints) x244),0))))) else (none)) else (none)))))))))) else (none)
noncomputable def cut_Falls_1_k'_k1 (s65 : Int×(List Int)) : (List Int)→Option (Int×(List Int) ⊕ (List Int)):=fun j88 =>
  some (.inl ((iadd s65.1 1),j88))
noncomputable def cut_Falls_1_k'_l2 (st : cut_State) (h0_0 : (List Bool)) : Int×(List Int)→Option (Int×(List Int) ⊕ (List Int)):=fun s65 =>
  if (decide (s65.1 < (st.Fallen.length : Int))) then ((idx st.Fallen s65.1).bind fun x90=>(if x90 then ((idx h0_0 s65.1).bind fun x93=>some (!x93)) else (some false)).bind fun j92=>if j92 then ((app s65.2 [s65.1]).bind fun l95=>cut_Falls_1_k'_k1 s65 l95) else (cut_Falls_1_k'_k1 s65 s65.2)) else (some (.inr s65.2))
noncomputable def cut_Falls_1_k' (st : cut_State) (h0_0 : (List Bool)) (h2 : (List (List Int))) : Option ((List (List Int))):=
  (iterT (cut_Falls_1_k'_l2 st h0_0) 1000 (0,[])).bind fun x96=>(app h2 [x96]).bind fun l98=>some l98
noncomputable def cut_run__cut_Falls_1_k_l1 (l : LayoutT) (items : (List ItemT)) (r2 : (List EdgeT)×Int) : (Int×(List (List Int))×(List Bool)×(List (List Bool))×(List Bool)×(List Int)×(List Bool)×(List Bool))→Option ((Int×(List (List Int))×(List Bool)×(List (List Bool))×(List Bool)×(List Int)×(List Bool)×(List Bool)) ⊕ ((List Bool)×(List (List Bool))×(List Bool)×(List Int)×(List Bool)×(List (List Int))×(List Bool))):=fun s57 =>
  if (decide (s57.1 < (items.length : Int))) then ((idx items s57.1).bind fun x77=>(cut_do_k l r2.1 (cut_State.mk s57.2.2.1 s57.2.2.2.1 s57.2.2.2.2.1 s57.2.2.2.2.2.1 s57.2.2.2.2.2.2.1) x77).bind fun r79=>if (r79.2 != 0) then (none) else ((cut_Falls_1_k' r79.1 s57.2.2.2.2.2.2.2 s57.2.1).bind fun r81=>some (.inl ((iadd s57.1 1),r81,r79.1.Cut,r79.1.Holes,r79.1.Done,r79.1.Joints,r79.1.Fallen,r79.1.Fallen)))) else (some (.inr (s57.2.2.1,s57.2.2.2.1,s57.2.2.2.2.1,s57.2.2.2.2.2.1,s57.2.2.2.2.2.2.1,s57.2.1,s57.2.2.2.2.2.2.2)))
noncomputable def cut_run__cut_Falls_1_k (l : LayoutT) (items : (List ItemT)) (h1 : (List Bool)) (h3 : (List (List Int))) : Option (cut_State×Int×Int×(List Bool)×(List (List Bool))×(List Bool)×(List Int)×(List Bool)×(List (List Int))×(List Bool)):=
  (cut_Edges_k l).bind fun r2=>if (r2.2 != 0) then (none) else (if (decide ((items.length : Int) > 128)) then (none) else ((cut_start_k l (r2.1.length : Int)).bind fun r4=>(iterT (cut_run__cut_Falls_1_k_l1 l items r2) 1000 (0,h3,r4.Cut,r4.Holes,r4.Done,r4.Joints,r4.Fallen,h1)).bind fun x82=>some ((cut_State.mk x82.1 x82.2.1 x82.2.2.1 x82.2.2.2.1 x82.2.2.2.2.1),0,0,x82.1,x82.2.1,x82.2.2.1,x82.2.2.2.1,x82.2.2.2.2.1,x82.2.2.2.2.2.1,x82.2.2.2.2.2.2)))
noncomputable def cut_Falls_k (l : LayoutT) (items : (List ItemT)) : Option ((List (List Int))×Int):=
  (mk (l.Pieces.length : Int) false).bind fun l2=>(cut_run__cut_Falls_1_k l items l2 []).bind fun r4=>if (r4.2.2.1 != 0) then (none) else (some (r4.2.2.2.2.2.2.2.2.1,0))
noncomputable def sheetmetalref06_SameInts_k_l1 (a : (List Int)) (b : (List Int)) : Int→Option (Int ⊕ Unit):=fun s53 =>
  if (decide (s53 < (a.length : Int))) then ((idx a s53).bind fun x76=>(idx b s53).bind fun x77=>if (x76 != x77) then (none) else (some (.inl (iadd s53 1)))) else (some (.inr ()))
noncomputable def sheetmetalref06_SameInts_k (a : (List Int)) (b : (List Int)) : Option (Bool):=
  if ((a.length : Int) != (b.length : Int)) then (none) else ((iterT (sheetmetalref06_SameInts_k_l1 a b) 1000 0).bind fun x78=>some true)
noncomputable def sheetmetallaw07_known_k : Option (Bool):=
  (cut_Edges_k (LayoutT.mk (Sheet.mk (ByteArray.mk #[115]) (ByteArray.mk #[115,116,101,101,108]) 10 0 57600 57600 [] []) [(Piece.mk (ByteArray.mk #[97]) (ByteArray.mk #[115,116,101,101,108]) 10 0 [(Rect.mk 0 0 14400 14400)] [] []),(Piece.mk (ByteArray.mk #[98]) (ByteArray.mk #[115,116,101,101,108]) 10 0 [(Rect.mk 14400 0 14400 14400)] [] [])])).bind fun r2=>(cut_Falls_k (LayoutT.mk (Sheet.mk (ByteArray.mk #[115]) (ByteArray.mk #[115,116,101,101,108]) 10 0 57600 57600 [] []) [(Piece.mk (ByteArray.mk #[97]) (ByteArray.mk #[115,116,101,101,108]) 10 0 [(Rect.mk 0 0 14400 14400)] [] []),(Piece.mk (ByteArray.mk #[98]) (ByteArray.mk #[115,116,101,101,108]) 10 0 [(Rect.mk 14400 0 14400 14400)] [] [])]) [(ItemT.mk 0 (-1) 0 (Spot.mk 0 0)),(ItemT.mk 1 (-1) 0 (Spot.mk 28800 0))]).bind fun r4=>if (r2.2==0) then (if ((r2.1.length : Int)==7) then (if (r4.2==0) then (if ((r4.1.length : Int)==2) then ((idx r4.1 0).bind fun x9=>(sheetmetalref06_SameInts_k x9 [0]).bind fun r10=>if r10 then ((idx r4.1 1).bind fun x11=>(sheetmetalref06_SameInts_k x11 [1]).bind fun r12=>some r12) else (none)) else (none)) else (none)) else (none)) else (none)
end Go.SM
