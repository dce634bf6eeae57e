/- The Go functions as plain functions; written by a program out of the translation. -/
import Derived.Test.YtonmponhpfpokaaGreatRNeMV
set_option linter.unusedVariables false
set_option linter.unusedSimpArgs false
set_option linter.unusedSectionVars false
namespace Go.SM
open Go Go.VI
noncomputable def flat_inRange_l1 (s0 : Segment) : Int → Option (Int ⊕ (Unit ⊕ Unit)):=fun s31 =>
  if (decide (s31 < ([s0.X1,s0.Y1,s0.X2,s0.Y2].length : Int))) then ((idx [s0.X1,s0.Y1,s0.X2,s0.Y2] s31).bind fun x42=>(if (decide (x42 < (-1048576))) then (some true) else (some (decide (x42 > 1048576)))).bind fun j43=>if j43 then (some (.inr (.inl ()))) else (some (.inl (iadd s31 1)))) else (some (.inr (.inr (()))))
noncomputable def flat_inRange (s0 : Segment) : Option (Bool):=
  (loopT (flat_inRange_l1 s0) 0).bind fun x44=>match x44 with | .inl j45=>some false | .inr j46=>some true
noncomputable def flat_check_l1 (x350 : (List Rect)) : Int → Option (Int ⊕ (Unit ⊕ Unit)):=fun s360 =>
  if (decide (s360 < (x350.length : Int))) then ((idx x350 s360).bind fun x374=>(geom_ValidRect x374).bind fun r376=>if (!r376) then (some (.inr (.inl ()))) else (some (.inl (iadd s360 1)))) else (some (.inr (.inr (()))))
noncomputable def flat_check_l2 (f : Flat) : Int → Option (Int ⊕ (Unit ⊕ Unit)):=fun s255 =>
  if (decide (s255 < ([f.Rects,f.Cuts,f.Forms].length : Int))) then ((idx [f.Rects,f.Cuts,f.Forms] s255).bind fun x350=>if (decide ((x350.length : Int) > 48)) then (some (.inr (.inl ()))) else ((loopT (flat_check_l1 x350) 0).bind fun x377=>match x377 with | .inl j378=>some (.inr (.inl ())) | .inr j379=>some (.inl (iadd s255 1)))) else (some (.inr (.inr (()))))
noncomputable def flat_check_l3 (f : Flat) : Int → Option (Int ⊕ (Unit ⊕ Unit)):=fun s421 =>
  if (decide (s421 < (f.Bends.length : Int))) then ((idx f.Bends s421).bind fun x435=>(flat_inRange x435.Line).bind fun r437=>if (!r437) then (some (.inr (.inl ()))) else (some (.inl (iadd s421 1)))) else (some (.inr (.inr (()))))
noncomputable def flat_check (f : Flat) : Option (Int):=
  if ((f.Rects.length : Int) == 0) then (some 1) else ((loopT (flat_check_l2 f) 0).bind fun x380=>match x380 with | .inl j381=>some 1 | .inr j382=>(loopT (flat_check_l3 f) 0).bind fun x438=>match x438 with | .inl j439=>some 1 | .inr j440=>some 0)
noncomputable def flat_quarter_1 (r0 : Rect) : Option (Rect):=
  some (Rect.mk (isub (ineg r0.Y) r0.H) r0.X r0.H r0.W)
noncomputable def flat_mapped_1_l1 (l : (List Rect)) : Int × (List Rect) → Option (Int × (List Rect) ⊕ (List Rect)):=fun s53 =>
  if (decide (s53.1 < (l.length : Int))) then ((idx l s53.1).bind fun x73=>(flat_quarter_1 x73).bind fun r76=>(app s53.2 [r76]).bind fun l77=>some (.inl ((iadd s53.1 1),l77))) else (some (.inr s53.2))
noncomputable def flat_mapped_1 (l : (List Rect)) : Option ((List Rect)):=
  (loopT (flat_mapped_1_l1 l) (0,[])).bind fun x78=>some x78
noncomputable def flat_quarter_2 (s0 : Segment) : Option (Segment):=
  some (Segment.mk (ineg s0.Y1) s0.X1 (ineg s0.Y2) s0.X2)
noncomputable def flat_mapped__flat_quarter_1__flat_quarter_2_l1 (f : Flat) : Int × (List BendLine) → Option (Int × (List BendLine) ⊕ (List BendLine)):=fun s62 =>
  if (decide (s62.1 < (f.Bends.length : Int))) then ((idx f.Bends s62.1).bind fun x82=>(flat_quarter_2 x82.Line).bind fun r84=>(app s62.2 [(BendLine.mk x82.Flange x82.Parent r84 x82.Angle x82.Deduct)]).bind fun l86=>some (.inl ((iadd s62.1 1),l86))) else (some (.inr s62.2))
noncomputable def flat_mapped__flat_quarter_1__flat_quarter_2 (f : Flat) : Option (Flat):=
  (flat_mapped_1 f.Rects).bind fun r7=>(flat_mapped_1 f.Cuts).bind fun r8=>(flat_mapped_1 f.Forms).bind fun r9=>(loopT (flat_mapped__flat_quarter_1__flat_quarter_2_l1 f) (0,[])).bind fun x87=>some (Flat.mk r7 r8 r9 x87)
noncomputable def flat_quarter (f : Flat) : Option (Flat):=
  (flat_mapped__flat_quarter_1__flat_quarter_2 f).bind fun r2=>some r2
noncomputable def flat_bounds_l1 (l21 : (List Rect)) : (Int × Int × Int × Int × Int) → Option ((Int × Int × Int × Int × Int) ⊕ (Int × Int × Int × Int)):=fun s27 =>
  if (decide (s27.1 < (l21.length : Int))) then ((idx l21 s27.1).bind fun x35=>some (.inl ((iadd s27.1 1),(imin s27.2.1 x35.X),(imin s27.2.2.1 x35.Y),(isub (imax (iadd s27.2.1 s27.2.2.2.1) (iadd x35.X x35.W)) (imin s27.2.1 x35.X)),(isub (imax (iadd s27.2.2.1 s27.2.2.2.2) (iadd x35.Y x35.H)) (imin s27.2.2.1 x35.Y))))) else (some (.inr (s27.2.1,s27.2.2.1,s27.2.2.2.1,s27.2.2.2.2)))
noncomputable def flat_bounds (l : (List Rect)) : Option (Rect × Int × Int × Int × Int):=
  (idx l 0).bind fun x2=>(slc l 1 (l.length : Int)).bind fun l21=>(loopT (flat_bounds_l1 l21) (0,x2.X,x2.Y,x2.W,x2.H)).bind fun x36=>some ((Rect.mk x36.1 x36.2.1 x36.2.2.1 x36.2.2.2),x36.1,x36.2.1,x36.2.2.1,x36.2.2.2)
noncomputable def flat_settled_1 (r0 : Rect) (a_0 : Int) (a_1 : Int) (a_2 : Int) (a_3 : Int) : Option (Rect):=
  some (Rect.mk (isub r0.X a_0) (isub r0.Y a_1) r0.W r0.H)
noncomputable def flat_mapped_1'_l1 (l : (List Rect)) (a_0_0_0 : Int) (a_0_0_1 : Int) (a_0_0_2 : Int) (a_0_0_3 : Int) : Int × (List Rect) → Option (Int × (List Rect) ⊕ (List Rect)):=fun s53 =>
  if (decide (s53.1 < (l.length : Int))) then ((idx l s53.1).bind fun x73=>(flat_settled_1 x73 a_0_0_0 a_0_0_1 a_0_0_2 a_0_0_3).bind fun r76=>(app s53.2 [r76]).bind fun l77=>some (.inl ((iadd s53.1 1),l77))) else (some (.inr s53.2))
noncomputable def flat_mapped_1' (l : (List Rect)) (a_0_0_0 : Int) (a_0_0_1 : Int) (a_0_0_2 : Int) (a_0_0_3 : Int) : Option ((List Rect)):=
  (loopT (flat_mapped_1'_l1 l a_0_0_0 a_0_0_1 a_0_0_2 a_0_0_3) (0,[])).bind fun x78=>some x78
noncomputable def flat_settled_2 (s0 : Segment) (a_0 : Int) (a_1 : Int) (a_2 : Int) (a_3 : Int) : Option (Segment):=
  some (Segment.mk (isub s0.X1 a_0) (isub s0.Y1 a_1) (isub s0.X2 a_0) (isub s0.Y2 a_1))
noncomputable def flat_mapped__flat_settled_1__flat_settled_2_l1 (f : Flat) (line_0_0 : Int) (line_0_1 : Int) (line_0_2 : Int) (line_0_3 : Int) : Int × (List BendLine) → Option (Int × (List BendLine) ⊕ (List BendLine)):=fun s62 =>
  if (decide (s62.1 < (f.Bends.length : Int))) then ((idx f.Bends s62.1).bind fun x82=>(flat_settled_2 x82.Line line_0_0 line_0_1 line_0_2 line_0_3).bind fun r84=>(app s62.2 [(BendLine.mk x82.Flange x82.Parent r84 x82.Angle x82.Deduct)]).bind fun l86=>some (.inl ((iadd s62.1 1),l86))) else (some (.inr s62.2))
noncomputable def flat_mapped__flat_settled_1__flat_settled_2 (f : Flat) (rect_0_0 : Int) (rect_0_1 : Int) (rect_0_2 : Int) (rect_0_3 : Int) (line_0_0 : Int) (line_0_1 : Int) (line_0_2 : Int) (line_0_3 : Int) : Option (Flat):=
  (flat_mapped_1' f.Rects rect_0_0 rect_0_1 rect_0_2 rect_0_3).bind fun r7=>(flat_mapped_1' f.Cuts rect_0_0 rect_0_1 rect_0_2 rect_0_3).bind fun r8=>(flat_mapped_1' f.Forms rect_0_0 rect_0_1 rect_0_2 rect_0_3).bind fun r9=>(loopT (flat_mapped__flat_settled_1__flat_settled_2_l1 f line_0_0 line_0_1 line_0_2 line_0_3) (0,[])).bind fun x87=>some (Flat.mk r7 r8 r9 x87)
noncomputable def flat_settled (f : Flat) : Option (Flat × Int):=
  (flat_bounds f.Rects).bind fun r2=>(flat_mapped__flat_settled_1__flat_settled_2 f r2.1.X r2.1.Y r2.1.W r2.1.H r2.1.X r2.1.Y r2.1.W r2.1.H).bind fun r4=>(flat_check r4).bind fun r8=>if (r8 != 0) then (some ((Flat.mk [] [] [] []),4)) else (some (r4,0))
noncomputable def flat_Quarter_l1 (turns : Int) : (Int × (List Rect) × (List Rect) × (List Rect) × (List BendLine)) → Option ((Int × (List Rect) × (List Rect) × (List Rect) × (List BendLine)) ⊕ ((List Rect) × (List Rect) × (List Rect) × (List BendLine))):=fun s27 =>
  if (decide (s27.1 < turns)) then ((flat_quarter (Flat.mk s27.2.1 s27.2.2.1 s27.2.2.2.1 s27.2.2.2.2)).bind fun r35=>some (.inl ((iadd s27.1 1),r35.Rects,r35.Cuts,r35.Forms,r35.Bends))) else (some (.inr (s27.2.1,s27.2.2.1,s27.2.2.2.1,s27.2.2.2.2)))
noncomputable def flat_Quarter_l2 (f : Flat) : Unit → Option (Unit ⊕ Unit):=fun s39 =>
  if (decide (0 < (f.Bends.length : Int))) then (none) else (some (.inr ()))
noncomputable def flat_Quarter (f : Flat) (turns : Int) : Option (Flat × Int):=
  (flat_check f).bind fun r5=>(if (r5 != 0) then (some true) else (if (decide (turns < 0)) then (some true) else (some (decide (turns > 3))))).bind fun j6=>if j6 then (some ((Flat.mk [] [] [] []),1)) else ((loopT (flat_Quarter_l1 turns) (0,f.Rects,f.Cuts,f.Forms,f.Bends)).bind fun x36=>(loopT (flat_Quarter_l2 f) ()).bind fun x40=>(flat_settled (Flat.mk x36.1 x36.2.1 x36.2.2.1 x36.2.2.2)).bind fun r42=>some (r42.1,r42.2))
noncomputable def nest_moved_l1 (l : (List Rect)) (x1 : Int) (y : Int) (l2 : (List Rect)) : Int × (List Rect) → Option (Int × (List Rect) ⊕ (List Rect)):=fun s71 =>
  if (decide (s71.1 < ((cpy l2 (0) (List.take (min l.length (l2.length)) l)).length : Int))) then ((idx s71.2 s71.1).bind fun x98=>(idx s71.2 s71.1).bind fun x99=>(idx (List.set s71.2 (Int.toNat s71.1) (Rect.mk (iadd x98.X x1) x99.Y x99.W x99.H)) s71.1).bind fun x102=>(idx (List.set s71.2 (Int.toNat s71.1) (Rect.mk (iadd x98.X x1) x99.Y x99.W x99.H)) s71.1).bind fun x103=>some (.inl ((iadd s71.1 1),(List.set (List.set s71.2 (Int.toNat s71.1) (Rect.mk (iadd x98.X x1) x99.Y x99.W x99.H)) (Int.toNat s71.1) (Rect.mk x103.X (iadd x102.Y y) x103.W x103.H))))) else (some (.inr s71.2))
noncomputable def nest_moved (l : (List Rect)) (x1 : Int) (y : Int) : Option ((List Rect)):=
  (mk (l.length : Int) (Rect.mk 0 0 0 0)).bind fun l2=>(loopT (nest_moved_l1 l x1 y l2) (0,(cpy l2 (0) (List.take (min l.length (l2.length)) l)))).bind fun x104=>some x104
noncomputable def nest_put (x0 : Piece) (at1 : Placement) : Option (Piece × Int × ByteArray × ByteArray × Int × Int):=
  (flat_Quarter (Flat.mk x0.Rects x0.Cuts x0.Forms []) at1.Turn).bind fun r2=>if (r2.2 != 0) then (some ((Piece.mk ByteArray.empty ByteArray.empty 0 0 [] [] []),4,ByteArray.empty,ByteArray.empty,0,0)) else ((nest_moved r2.1.Rects at1.X at1.Y).bind fun r9=>(nest_moved r2.1.Cuts at1.X at1.Y).bind fun r10=>(nest_moved r2.1.Forms at1.X at1.Y).bind fun r11=>((nest_valid r9).bind fun r23=>if r23 then ((nest_valid r10).bind fun r24=>if r24 then ((nest_valid r11).bind fun r25=>some (!r25)) else (some true)) else (some true)).bind fun j22=>if j22 then (some ((Piece.mk ByteArray.empty ByteArray.empty 0 0 [] [] []),4,ByteArray.empty,ByteArray.empty,0,0)) else (some ((Piece.mk x0.Name x0.Material x0.Gauge x0.Grain r9 r10 r11),0,x0.Name,x0.Material,x0.Gauge,x0.Grain)))
noncomputable def nest_Put (x0 : Piece) (at1 : Placement) : Option (Piece × Int × ByteArray × ByteArray × Int × Int):=
  (nest_ValidatePiece x0).bind fun r4=>if (r4 != 0) then (some ((Piece.mk ByteArray.empty ByteArray.empty 0 0 [] [] []),r4,ByteArray.empty,ByteArray.empty,0,0)) else ((nest_from at1.Turn 0 3).bind fun r8=>if (!r8) then (some ((Piece.mk ByteArray.empty ByteArray.empty 0 0 [] [] []),1,ByteArray.empty,ByteArray.empty,0,0)) else (((nest_from at1.X (-1048576) 1048576).bind fun r17=>if r17 then ((nest_from at1.Y (-1048576) 1048576).bind fun r18=>some (!r18)) else (some true)).bind fun j16=>if j16 then (some ((Piece.mk ByteArray.empty ByteArray.empty 0 0 [] [] []),4,ByteArray.empty,ByteArray.empty,0,0)) else ((nest_put x0 at1).bind fun r20=>some ((Piece.mk r20.1.Name r20.1.Material r20.1.Gauge r20.1.Grain r20.1.Rects r20.1.Cuts r20.1.Forms),r20.2.1,r20.1.Name,r20.1.Material,r20.1.Gauge,r20.1.Grain))))
noncomputable def sheetmetalref06_Shift_k1 (s61 : Int × (List Rect)) (x84 : Rect) : (Int × Int) → Option (Int × (List Rect) ⊕ (List Rect)):=fun j86 =>
  (app s61.2 [(Rect.mk j86.1 j86.2 x84.W x84.H)]).bind fun l88=>some (.inl ((iadd s61.1 1),l88))
noncomputable def sheetmetalref06_Shift_l2 (l : (List Rect)) (x1 : Int) (y : Int) : Int × (List Rect) → Option (Int × (List Rect) ⊕ (List Rect)):=fun s61 =>
  if (decide (s61.1 < (l.length : Int))) then ((idx l s61.1).bind fun x84=>(if (decide (x84.X > (-2147483648))) then (if (decide (x84.X < 2147483648)) then (if (decide (x84.Y > (-2147483648))) then (some (decide (x84.Y < 2147483648))) else (some false)) else (some false)) else (some false)).bind fun j89=>if j89 then (sheetmetalref06_Shift_k1 s61 x84 ((iadd x84.X x1),(iadd x84.Y y))) else (sheetmetalref06_Shift_k1 s61 x84 (x84.X,x84.Y))) else (some (.inr s61.2))
noncomputable def sheetmetalref06_Shift (l : (List Rect)) (x1 : Int) (y : Int) : Option ((List Rect)):=
  (loopT (sheetmetalref06_Shift_l2 l x1 y) (0,[])).bind fun x90=>some x90
noncomputable def sheetmetalref06_Move (x0 : Piece) (dx : Int) (dy : Int) : Option (Piece):=
  (sheetmetalref06_Shift x0.Rects dx dy).bind fun r2=>(sheetmetalref06_Shift x0.Cuts dx dy).bind fun r4=>(sheetmetalref06_Shift x0.Forms dx dy).bind fun r6=>some (Piece.mk x0.Name x0.Material x0.Gauge x0.Grain r2 r4 r6)
noncomputable def sheetmetalref06_quarter_l1 (l : (List Rect)) : Int × (List Rect) → Option (Int × (List Rect) ⊕ (List Rect)):=fun s37 =>
  if (decide (s37.1 < (l.length : Int))) then ((idx l s37.1).bind fun x51=>(app s37.2 [(Rect.mk (ineg (iadd x51.Y x51.H)) x51.X x51.H x51.W)]).bind fun l53=>some (.inl ((iadd s37.1 1),l53))) else (some (.inr s37.2))
noncomputable def sheetmetalref06_quarter (l : (List Rect)) : Option ((List Rect)):=
  (loopT (sheetmetalref06_quarter_l1 l) (0,[])).bind fun x54=>some x54
noncomputable def sheetmetalref06_Turned_l1 (turn : Int) : (Int × (List Rect) × (List Rect) × (List Rect)) → Option ((Int × (List Rect) × (List Rect) × (List Rect)) ⊕ ((List Rect) × (List Rect) × (List Rect))):=fun s55 =>
  if (decide (s55.1 < turn)) then ((sheetmetalref06_quarter s55.2.1).bind fun r75=>(sheetmetalref06_quarter s55.2.2.1).bind fun r77=>(sheetmetalref06_quarter s55.2.2.2).bind fun r79=>some (.inl ((iadd s55.1 1),r75,r77,r79))) else (some (.inr (s55.2.1,s55.2.2.1,s55.2.2.2)))
noncomputable def sheetmetalref06_Turned (x0 : Piece) (turn : Int) : Option (Piece × ByteArray × ByteArray × Int × Int):=
  (sheetmetalref06_Move x0 0 0).bind fun r2=>(loopT (sheetmetalref06_Turned_l1 turn) (0,r2.Rects,r2.Cuts,r2.Forms)).bind fun x80=>(sheetmetalref06_least x80.1).bind fun r82=>(sheetmetalref06_Move (Piece.mk r2.Name r2.Material r2.Gauge r2.Grain x80.1 x80.2.1 x80.2.2) (ineg r82.1) (ineg r82.2)).bind fun r84=>some (r84,r84.Name,r84.Material,r84.Gauge,r84.Grain)
noncomputable def sheetmetalref06_Put (x0 : Piece) (at1 : Placement) : Option (Piece × Int × ByteArray × ByteArray × Int × Int):=
  (sheetmetalref06_ValidatePiece x0).bind fun r2=>if (r2 != 0) then (some ((Piece.mk ByteArray.empty ByteArray.empty 0 0 [] [] []),r2,ByteArray.empty,ByteArray.empty,0,0)) else ((if (decide (at1.Turn < 0)) then (some true) else (some (decide (at1.Turn > 3)))).bind fun j4=>if j4 then (some ((Piece.mk ByteArray.empty ByteArray.empty 0 0 [] [] []),1,ByteArray.empty,ByteArray.empty,0,0)) else (((sheetmetalref06_near at1.X).bind fun r13=>if r13 then ((sheetmetalref06_near at1.Y).bind fun r14=>some (!r14)) else (some true)).bind fun j12=>if j12 then (some ((Piece.mk ByteArray.empty ByteArray.empty 0 0 [] [] []),4,ByteArray.empty,ByteArray.empty,0,0)) else ((sheetmetalref06_Turned x0 at1.Turn).bind fun r19=>(sheetmetalref06_Move (Piece.mk r19.1.Name r19.1.Material r19.1.Gauge r19.1.Grain r19.1.Rects r19.1.Cuts r19.1.Forms) at1.X at1.Y).bind fun r20=>((sheetmetalref06_Rights r20.Rects).bind fun r32=>if r32 then ((sheetmetalref06_Rights r20.Cuts).bind fun r33=>if r33 then ((sheetmetalref06_Rights r20.Forms).bind fun r34=>some (!r34)) else (some true)) else (some true)).bind fun j31=>if j31 then (some ((Piece.mk ByteArray.empty ByteArray.empty 0 0 [] [] []),4,ByteArray.empty,ByteArray.empty,0,0)) else (some (r20,0,r20.Name,r20.Material,r20.Gauge,r20.Grain)))))
noncomputable def sheetmetalref06_SameRects_l1 (a : (List Rect)) (b : (List Rect)) : Int → Option (Int ⊕ (Unit ⊕ Unit)):=fun s55 =>
  if (decide (s55 < (a.length : Int))) then ((idx a s55).bind fun x78=>(idx b s55).bind fun x79=>if (!((x78.X == x79.X) && ((x78.Y == x79.Y) && ((x78.W == x79.W) && ((x78.H == x79.H) && true))))) then (some (.inr (.inl ()))) else (some (.inl (iadd s55 1)))) else (some (.inr (.inr (()))))
noncomputable def sheetmetalref06_SameRects (a : (List Rect)) (b : (List Rect)) : Option (Bool):=
  if ((a.length : Int) != (b.length : Int)) then (some false) else ((loopT (sheetmetalref06_SameRects_l1 a b) 0).bind fun x80=>match x80 with | .inl j81=>some false | .inr j82=>some true)
noncomputable def sheetmetalref06_SamePiece (a : Piece) (b : Piece) : Option (Bool):=
  (if (a.Name.toList == b.Name.toList) then (if (a.Material.toList == b.Material.toList) then (if (a.Gauge == b.Gauge) then (if (a.Grain == b.Grain) then ((sheetmetalref06_SameRects a.Rects b.Rects).bind fun r5=>if r5 then ((sheetmetalref06_SameRects a.Cuts b.Cuts).bind fun r6=>if r6 then ((sheetmetalref06_SameRects a.Forms b.Forms).bind fun r7=>some r7) else (some false)) else (some false)) else (some false)) else (some false)) else (some false)) else (some false)).bind fun j4=>some j4
end Go.SM
