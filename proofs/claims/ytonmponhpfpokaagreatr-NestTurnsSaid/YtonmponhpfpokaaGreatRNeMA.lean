/- The Go functions as plain functions; written by a program out of the translation. -/
import Derived.Test.YtonmponhpfpokaaGreatRNeTypes
set_option linter.unusedVariables false
set_option linter.unusedSimpArgs false
set_option linter.unusedSectionVars false
namespace Go.SM
open Go Go.VI
noncomputable def nest_from (n : Int) (lo : Int) (hi : Int) : Option (Bool):=
  (if (decide (lo ≤ n)) then (some (decide (n ≤ hi))) else (some false)).bind fun j1=>some j1
def strings_Contains (s sub : ByteArray) : Option Bool:=if s.size < 4294967281 then some (Go.Lib.contains s.data.toList sub.data.toList) else none
noncomputable def part_ValidName_k_l1 (s0 : ByteArray) : Int → Option (Int ⊕ Unit):=fun s29 =>
  if (decide (s29 < (s0.size : Int))) then ((sidx s0 s29).bind fun x37=>if (decide (x37 < 97)) then (none) else (if (decide (x37 > 122)) then (none) else (some (.inl (iadd s29 1))))) else (some (.inr ()))
noncomputable def part_ValidName_k (s0 : ByteArray) : Option (Bool):=
  if (decide ((s0.size : Int) < 1)) then (none) else (if (decide ((s0.size : Int) > 8)) then (none) else ((sidx s0 0).bind fun x7=>if (decide (x7 < 97)) then (none) else ((sidx s0 0).bind fun x8=>if (decide (x8 > 122)) then (none) else ((iterT (part_ValidName_k_l1 s0) 1000 0).bind fun x38=>(scat (ByteArray.mk #[32]) s0).bind fun s42=>(scat s42 (ByteArray.mk #[32])).bind fun s43=>(strings_Contains (ByteArray.mk #[32,112,97,114,116,32,109,97,116,101,114,105,97,108,32,98,97,115,101,32,102,108,97,110,103,101,32,104,111,108,101,32,99,117,116,32,102,111,114,109,32,101,97,115,116,32,115,111,117,116,104,32,119,101,115,116,32,110,111,114,116,104,32,117,112,32,100,111,119,110,32,99,108,111,115,101,117,112,32,99,108,111,115,101,100,111,119,110,32,103,114,97,105,110,32,120,32,121,32,116,97,98,108,101,32,97,110,103,108,101,32,109,97,99,104,105,110,101,32,112,117,110,99,104,32,100,105,101,32,102,114,97,109,101,32,103,97,117,103,101,32,112,111,108,121,32,115,116,97,116,105,111,110,115,32]) s43).bind fun r44=>some (!r44)))))
noncomputable def nest_from_k (n : Int) (lo : Int) (hi : Int) : Option (Bool):=
  if (decide (lo ≤ n)) then (some (decide (n ≤ hi))) else (none)
noncomputable def nest_plain_k (gauge : Int) (grain : Int) : Option (Bool):=
  (nest_from_k gauge 1 60).bind fun r3=>if r3 then ((nest_from_k grain 0 2).bind fun r4=>some r4) else (none)
noncomputable def geom_within_k (n : Int) (most : Int) : Option (Bool):=
  if (decide ((ineg most) ≤ n)) then (some (decide (n ≤ most))) else (none)
noncomputable def geom_ValidRect_1_k (x0 : Int) (w : Int) : Option (Bool):=
  (geom_within_k x0 1048576).bind fun r2=>if r2 then (if (decide (w > 0)) then (if (decide (w ≤ 2097152)) then (some (decide ((iadd x0 w) ≤ 1048576))) else (none)) else (none)) else (none)
noncomputable def geom_ValidRect_k (r0 : Rect) : Option (Bool):=
  (geom_ValidRect_1_k r0.X r0.W).bind fun r3=>if r3 then ((geom_ValidRect_1_k r0.Y r0.H).bind fun r4=>some r4) else (none)
noncomputable def nest_valid_k_l1 (l : (List Rect)) : Int → Option (Int ⊕ Unit):=fun s37 =>
  if (decide (s37 < (l.length : Int))) then ((idx l s37).bind fun x51=>(geom_ValidRect_k x51).bind fun r53=>if (!r53) then (none) else (some (.inl (iadd s37 1)))) else (some (.inr ()))
noncomputable def nest_valid_k (l : (List Rect)) : Option (Bool):=
  (iterT (nest_valid_k_l1 l) 1000 0).bind fun x54=>some true
noncomputable def nest_inner_k (s0 : Sheet) (margin : Int) : Option (Rect × Bool):=
  (geom_ValidRect_k (Rect.mk margin margin (isub s0.Width (imul 2 margin)) (isub s0.Height (imul 2 margin)))).bind fun r3=>some ((Rect.mk margin margin (isub s0.Width (imul 2 margin)) (isub s0.Height (imul 2 margin))),r3)
noncomputable def nest_ValidateSheet_k_l1 (x81 : (List Rect)) : Unit → Option (Unit ⊕ Unit):=fun s82 =>
  if (decide (0 < (x81.length : Int))) then (none) else (some (.inr ()))
noncomputable def nest_ValidateSheet_k_l2 (s0 : Sheet) : Int → Option (Int ⊕ Unit):=fun s67 =>
  if (decide (s67 < ([s0.Clamps,s0.Used].length : Int))) then ((idx [s0.Clamps,s0.Used] s67).bind fun x81=>(iterT (nest_ValidateSheet_k_l1 x81) 1000 ()).bind fun x83=>some (.inl (iadd s67 1))) else (some (.inr ()))
noncomputable def nest_ValidateSheet_k (s0 : Sheet) : Option (Int):=
  (part_ValidName_k s0.Name).bind fun r17=>if r17 then ((part_ValidName_k s0.Material).bind fun r18=>if (!r18) then (none) else ((nest_plain_k s0.Gauge s0.Grain).bind fun r22=>if r22 then ((nest_from_k s0.Width 1 1048576).bind fun r23=>if r23 then ((nest_from_k s0.Height 1 1048576).bind fun r24=>if (!r24) then (none) else (if (decide ((s0.Clamps.length : Int) > 4)) then (none) else (if (decide ((s0.Used.length : Int) > 48)) then (none) else ((nest_valid_k s0.Clamps).bind fun r27=>if r27 then ((nest_valid_k s0.Used).bind fun r28=>if (!r28) then (none) else ((nest_inner_k s0 0).bind fun r30=>(iterT (nest_ValidateSheet_k_l2 s0) 1000 0).bind fun x84=>some 0)) else (none))))) else (none)) else (none))) else (none)
noncomputable def nest_takenError_k_l1 (taken : (List (List Rect))) : Int → Option (Int ⊕ Unit):=fun s21 =>
  if (decide (s21 < (taken.length : Int))) then ((idx taken s21).bind fun x29=>if (decide ((x29.length : Int) > 12)) then (none) else (some (.inl (iadd s21 1)))) else (some (.inr ()))
noncomputable def nest_takenError_k_l2 (taken : (List (List Rect))) : Int → Option (Int ⊕ Unit):=fun s67 =>
  if (decide (s67 < (taken.length : Int))) then ((idx taken s67).bind fun x81=>(nest_valid_k x81).bind fun r83=>if (!r83) then (none) else (some (.inl (iadd s67 1)))) else (some (.inr ()))
noncomputable def nest_takenError_k (taken : (List (List Rect))) : Option (Int):=
  if (decide ((taken.length : Int) > 8)) then (none) else ((iterT (nest_takenError_k_l1 taken) 1000 0).bind fun x30=>(iterT (nest_takenError_k_l2 taken) 1000 0).bind fun x84=>some 0)
noncomputable def nest_connected_k_l1 (l : (List Rect)) (l2 : (List Bool)) : Int → Option (Int ⊕ Unit):=fun s134 =>
  if (decide (s134 < (l.length : Int))) then ((idx (List.set l2 (Int.toNat 0) true) s134).bind fun x146=>if x146 then (some (.inl (iadd s134 1))) else (none)) else (some (.inr ()))
noncomputable def nest_connected_k_l2 (l : (List Rect)) (l2 : (List Bool)) : (List Int) → Option ((List Int) ⊕ Unit):=fun s101 =>
  if (decide ((s101.length : Int) > 0)) then ((idx s101 0).bind fun x126=>if (decide (1 ≤ s101.length)) then ((iterT (nest_connected_k_l1 l l2) 1000 0).bind fun x147=>some (.inl (List.drop 1 s101))) else none) else (some (.inr ()))
noncomputable def nest_connected_k_l3 (l2 : (List Bool)) : Int → Option (Int ⊕ Unit):=fun s169 =>
  if (decide (s169 < ((List.set l2 (Int.toNat 0) true).length : Int))) then ((idx (List.set l2 (Int.toNat 0) true) s169).bind fun x177=>if (!x177) then (none) else (some (.inl (iadd s169 1)))) else (some (.inr ()))
noncomputable def nest_connected_k (l : (List Rect)) : Option (Bool):=
  (mk (l.length : Int) false).bind fun l2=>(idx l2 0).bind fun x4=>(iterT (nest_connected_k_l2 l l2) 1000 [0]).bind fun x148=>(iterT (nest_connected_k_l3 l2) 1000 0).bind fun x178=>some true
noncomputable def nest_inside_k_l1 (l6 : (List Rect)) : Unit → Option (Unit ⊕ Unit):=fun s9 =>
  if (decide (0 < (l6.length : Int))) then (none) else (some (.inr ()))
noncomputable def nest_inside_k_l2 (l6 : (List Rect)) : Unit → Option (Unit ⊕ Unit):=fun s13 =>
  if (decide (0 < (l6.length : Int))) then (none) else (some (.inr ()))
noncomputable def nest_inside_k (x0 : Piece) : Option (Int):=
  (app [] x0.Cuts).bind fun l5=>(app l5 x0.Forms).bind fun l6=>(iterT (nest_inside_k_l1 l6) 1000 ()).bind fun x10=>(iterT (nest_inside_k_l2 l6) 1000 ()).bind fun x14=>some 0
noncomputable def nest_ValidatePiece_k_l1 (x0 : Piece) : (Int × Int × Int) → Option ((Int × Int × Int) ⊕ (Int × Int)):=fun s51 =>
  if (decide (s51.2.2 < (x0.Rects.length : Int))) then ((idx x0.Rects s51.2.2).bind fun x59=>some (.inl ((imin s51.1 x59.X),(imin s51.2.1 x59.Y),(iadd s51.2.2 1)))) else (some (.inr (s51.1,s51.2.1)))
noncomputable def nest_ValidatePiece_k_l2 (l135 : (List Rect)) : Unit → Option (Unit ⊕ Unit):=fun s136 =>
  if (decide (0 < (l135.length : Int))) then (none) else (some (.inr ()))
noncomputable def nest_ValidatePiece_k_l3 (x0 : Piece) : Int → Option (Int ⊕ Unit):=fun s113 =>
  if (decide (s113 < (x0.Rects.length : Int))) then ((idx x0.Rects s113).bind fun x133=>(slc x0.Rects 0 s113).bind fun l135=>(iterT (nest_ValidatePiece_k_l2 l135) 1000 ()).bind fun x137=>some (.inl (iadd s113 1))) else (some (.inr ()))
noncomputable def nest_ValidatePiece_k (x0 : Piece) : Option (Int):=
  (part_ValidName_k x0.Name).bind fun r15=>if r15 then ((part_ValidName_k x0.Material).bind fun r16=>if (!r16) then (none) else ((nest_plain_k x0.Gauge x0.Grain).bind fun r18=>if (!r18) then (none) else (if (decide ((x0.Rects.length : Int) > 12)) then (none) else (if (decide ((x0.Cuts.length : Int) > 12)) then (none) else (if (decide ((x0.Forms.length : Int) > 12)) then (none) else (if ((x0.Rects.length : Int) == 0) then (none) else ((nest_valid_k x0.Rects).bind fun r22=>if r22 then ((nest_valid_k x0.Cuts).bind fun r23=>if r23 then ((nest_valid_k x0.Forms).bind fun r24=>if (!r24) then (none) else ((idx x0.Rects 0).bind fun x29=>(idx x0.Rects 0).bind fun x30=>(iterT (nest_ValidatePiece_k_l1 x0) 1000 (x29.X,x30.Y,0)).bind fun x60=>if (x60.1 != 0) then (none) else (if (x60.2 != 0) then (none) else ((iterT (nest_ValidatePiece_k_l3 x0) 1000 0).bind fun x138=>(nest_connected_k x0.Rects).bind fun r142=>if (!r142) then (none) else ((nest_inside_k x0).bind fun r144=>some r144))))) else (none)) else (none)))))))) else (none)
noncomputable def nest_ValidSettings_k (set0 : Settings) : Option (Bool):=
  (nest_from_k set0.Gap 0 14400).bind fun r3=>if r3 then ((nest_from_k set0.Margin 0 14400).bind fun r4=>some r4) else (none)
noncomputable def nest_obstaclesOf_k_l1 (x51 : (List Rect)) : Unit → Option (Unit ⊕ Unit):=fun s52 =>
  if (decide (0 < (x51.length : Int))) then (none) else (some (.inr ()))
noncomputable def nest_obstaclesOf_k_l2 (s0 : Sheet) : Int → Option (Int ⊕ Unit):=fun s37 =>
  if (decide (s37 < ([s0.Clamps,s0.Used].length : Int))) then ((idx [s0.Clamps,s0.Used] s37).bind fun x51=>(iterT (nest_obstaclesOf_k_l1 x51) 1000 ()).bind fun x53=>some (.inl (iadd s37 1))) else (some (.inr ()))
noncomputable def nest_obstaclesOf_k_l3 (set2 : Settings) (x512 : (List Rect)) : Int × (List nest_obstacle) → Option (Int × (List nest_obstacle) ⊕ (List nest_obstacle)):=fun s526 =>
  if (decide (s526.1 < (x512.length : Int))) then ((idx x512 s526.1).bind fun x546=>(geom_ValidRect_k x546).bind fun r548=>if r548 then ((app s526.2 [(nest_obstacle.mk x546 set2.Gap set2.Common)]).bind fun l550=>some (.inl ((iadd s526.1 1),l550))) else (none)) else (some (.inr s526.2))
noncomputable def nest_obstaclesOf_k_l4 (taken : (List (List Rect))) (set2 : Settings) : Int × (List nest_obstacle) → Option (Int × (List nest_obstacle) ⊕ (List nest_obstacle)):=fun s387 =>
  if (decide (s387.1 < (taken.length : Int))) then ((idx taken s387.1).bind fun x512=>(iterT (nest_obstaclesOf_k_l3 set2 x512) 1000 (0,s387.2)).bind fun x551=>some (.inl ((iadd s387.1 1),x551))) else (some (.inr s387.2))
noncomputable def nest_obstaclesOf_k (s0 : Sheet) (taken : (List (List Rect))) (set2 : Settings) : Option ((List nest_obstacle)):=
  (iterT (nest_obstaclesOf_k_l2 s0) 1000 0).bind fun x54=>(iterT (nest_obstaclesOf_k_l4 taken set2) 1000 (0,[])).bind fun x552=>some x552
noncomputable def nest_Allowed_k (x0 : Piece) (s1 : Sheet) (turn : Int) : Option (Bool):=
  if (x0.Material.toList == s1.Material.toList) then (if (x0.Gauge != s1.Gauge) then (none) else ((nest_from_k turn 0 3).bind fun r4=>if (!r4) then (none) else (if (x0.Grain == 0) then (some true) else (none)))) else (none)
noncomputable def flat_check_k_l1 (x326 : (List Rect)) : Int → Option (Int ⊕ Unit):=fun s336 =>
  if (decide (s336 < (x326.length : Int))) then ((idx x326 s336).bind fun x350=>(geom_ValidRect_k x350).bind fun r352=>if (!r352) then (none) else (some (.inl (iadd s336 1)))) else (some (.inr ()))
noncomputable def flat_check_k_l2 (f : Flat) : Int → Option (Int ⊕ Unit):=fun s237 =>
  if (decide (s237 < ([f.Rects,f.Cuts,f.Forms].length : Int))) then ((idx [f.Rects,f.Cuts,f.Forms] s237).bind fun x326=>if (decide ((x326.length : Int) > 48)) then (none) else ((iterT (flat_check_k_l1 x326) 1000 0).bind fun x353=>some (.inl (iadd s237 1)))) else (some (.inr ()))
noncomputable def flat_check_k_l3 (f : Flat) : Unit → Option (Unit ⊕ Unit):=fun s357 =>
  if (decide (0 < (f.Bends.length : Int))) then (none) else (some (.inr ()))
noncomputable def flat_check_k (f : Flat) : Option (Int):=
  if ((f.Rects.length : Int) == 0) then (none) else ((iterT (flat_check_k_l2 f) 1000 0).bind fun x354=>(iterT (flat_check_k_l3 f) 1000 ()).bind fun x358=>some 0)
noncomputable def flat_quarter_1_k (r0 : Rect) : Option (Rect):=
  some (Rect.mk (isub (ineg r0.Y) r0.H) r0.X r0.H r0.W)
noncomputable def flat_mapped_1_k_l1 (l : (List Rect)) : Int × (List Rect) → Option (Int × (List Rect) ⊕ (List Rect)):=fun s53 =>
  if (decide (s53.1 < (l.length : Int))) then ((idx l s53.1).bind fun x73=>(flat_quarter_1_k x73).bind fun r76=>(app s53.2 [r76]).bind fun l77=>some (.inl ((iadd s53.1 1),l77))) else (some (.inr s53.2))
noncomputable def flat_mapped_1_k (l : (List Rect)) : Option ((List Rect)):=
  (iterT (flat_mapped_1_k_l1 l) 1000 (0,[])).bind fun x78=>some x78
noncomputable def flat_mapped__flat_quarter_1__flat_quarter_2_k_l1 (f : Flat) : Unit → Option (Unit ⊕ Unit):=fun s12 =>
  if (decide (0 < (f.Bends.length : Int))) then (none) else (some (.inr ()))
noncomputable def flat_mapped__flat_quarter_1__flat_quarter_2_k (f : Flat) : Option (Flat):=
  (flat_mapped_1_k f.Rects).bind fun r7=>(flat_mapped_1_k f.Cuts).bind fun r8=>(flat_mapped_1_k f.Forms).bind fun r9=>(iterT (flat_mapped__flat_quarter_1__flat_quarter_2_k_l1 f) 1000 ()).bind fun x13=>some (Flat.mk r7 r8 r9 [])
noncomputable def flat_quarter_k (f : Flat) : Option (Flat):=
  (flat_mapped__flat_quarter_1__flat_quarter_2_k f).bind fun r2=>some (Flat.mk r2.Rects r2.Cuts r2.Forms [])
noncomputable def flat_bounds_k_l1 (l8 : (List Rect)) : Unit → Option (Unit ⊕ Unit):=fun s9 =>
  if (decide (0 < (l8.length : Int))) then (none) else (some (.inr ()))
noncomputable def flat_bounds_k (l : (List Rect)) : Option (Rect × Int × Int × Int × Int):=
  (idx l 0).bind fun x2=>(slc l 1 (l.length : Int)).bind fun l8=>(iterT (flat_bounds_k_l1 l8) 1000 ()).bind fun x10=>some (x2,x2.X,x2.Y,x2.W,x2.H)
noncomputable def flat_settled_1_k (r0 : Rect) (a_0 : Int) (a_1 : Int) (a_2 : Int) (a_3 : Int) : Option (Rect):=
  some (Rect.mk (isub r0.X a_0) (isub r0.Y a_1) r0.W r0.H)
noncomputable def flat_mapped_1_k'_l1 (l : (List Rect)) (a_0_0_0 : Int) (a_0_0_1 : Int) (a_0_0_2 : Int) (a_0_0_3 : Int) : Int × (List Rect) → Option (Int × (List Rect) ⊕ (List Rect)):=fun s53 =>
  if (decide (s53.1 < (l.length : Int))) then ((idx l s53.1).bind fun x73=>(flat_settled_1_k x73 a_0_0_0 a_0_0_1 a_0_0_2 a_0_0_3).bind fun r76=>(app s53.2 [r76]).bind fun l77=>some (.inl ((iadd s53.1 1),l77))) else (some (.inr s53.2))
noncomputable def flat_mapped_1_k' (l : (List Rect)) (a_0_0_0 : Int) (a_0_0_1 : Int) (a_0_0_2 : Int) (a_0_0_3 : Int) : Option ((List Rect)):=
  (iterT (flat_mapped_1_k'_l1 l a_0_0_0 a_0_0_1 a_0_0_2 a_0_0_3) 1000 (0,[])).bind fun x78=>some x78
noncomputable def flat_mapped__flat_settled_1__flat_settled_2_k_l1 (f : Flat) : Unit → Option (Unit ⊕ Unit):=fun s12 =>
  if (decide (0 < (f.Bends.length : Int))) then (none) else (some (.inr ()))
noncomputable def flat_mapped__flat_settled_1__flat_settled_2_k (f : Flat) (rect_0_0 : Int) (rect_0_1 : Int) (rect_0_2 : Int) (rect_0_3 : Int) (line_0_0 : Int) (line_0_1 : Int) (line_0_2 : Int) (line_0_3 : Int) : Option (Flat):=
  (flat_mapped_1_k' f.Rects rect_0_0 rect_0_1 rect_0_2 rect_0_3).bind fun r7=>(flat_mapped_1_k' f.Cuts rect_0_0 rect_0_1 rect_0_2 rect_0_3).bind fun r8=>(flat_mapped_1_k' f.Forms rect_0_0 rect_0_1 rect_0_2 rect_0_3).bind fun r9=>(iterT (flat_mapped__flat_settled_1__flat_settled_2_k_l1 f) 1000 ()).bind fun x13=>some (Flat.mk r7 r8 r9 [])
noncomputable def flat_settled_k (f : Flat) : Option (Flat × Int):=
  (flat_bounds_k f.Rects).bind fun r2=>(flat_mapped__flat_settled_1__flat_settled_2_k f r2.1.X r2.1.Y r2.1.W r2.1.H r2.1.X r2.1.Y r2.1.W r2.1.H).bind fun r4=>(flat_check_k (Flat.mk r4.Rects r4.Cuts r4.Forms [])).bind fun r8=>if (r8 != 0) then (none) else (some ((Flat.mk r4.Rects r4.Cuts r4.Forms []),0))
noncomputable def flat_Quarter_k_l1 (turns : Int) : (Int × (List Rect) × (List Rect) × (List Rect) × (List BendLine)) → Option ((Int × (List Rect) × (List Rect) × (List Rect) × (List BendLine)) ⊕ ((List Rect) × (List Rect) × (List Rect) × (List BendLine))):=fun s25 =>
  if (decide (s25.1 < turns)) then ((flat_quarter_k (Flat.mk s25.2.1 s25.2.2.1 s25.2.2.2.1 s25.2.2.2.2)).bind fun r33=>some (.inl ((iadd s25.1 1),r33.Rects,r33.Cuts,r33.Forms,[]))) else (some (.inr (s25.2.1,s25.2.2.1,s25.2.2.2.1,s25.2.2.2.2)))
noncomputable def flat_Quarter_k_l2 (f : Flat) : Unit → Option (Unit ⊕ Unit):=fun s37 =>
  if (decide (0 < (f.Bends.length : Int))) then (none) else (some (.inr ()))
noncomputable def flat_Quarter_k (f : Flat) (turns : Int) : Option (Flat × Int):=
  (flat_check_k f).bind fun r4=>if (r4 != 0) then (none) else (if (decide (turns < 0)) then (none) else (if (decide (turns > 3)) then (none) else ((iterT (flat_Quarter_k_l1 turns) 1000 (0,f.Rects,f.Cuts,f.Forms,f.Bends)).bind fun x34=>(iterT (flat_Quarter_k_l2 f) 1000 ()).bind fun x38=>(flat_settled_k (Flat.mk x34.1 x34.2.1 x34.2.2.1 x34.2.2.2)).bind fun r40=>some ((Flat.mk r40.1.Rects r40.1.Cuts r40.1.Forms []),r40.2))))
noncomputable def nest_moved_k_l1 (l : (List Rect)) (x1 : Int) (y : Int) (l2 : (List Rect)) : Int × (List Rect) → Option (Int × (List Rect) ⊕ (List Rect)):=fun s71 =>
  if (decide (s71.1 < ((cpy l2 (0) (List.take (min l.length (l2.length)) l)).length : Int))) then ((idx s71.2 s71.1).bind fun x98=>(idx s71.2 s71.1).bind fun x99=>(idx (List.set s71.2 (Int.toNat s71.1) (Rect.mk (iadd x98.X x1) x99.Y x99.W x99.H)) s71.1).bind fun x102=>(idx (List.set s71.2 (Int.toNat s71.1) (Rect.mk (iadd x98.X x1) x99.Y x99.W x99.H)) s71.1).bind fun x103=>some (.inl ((iadd s71.1 1),(List.set (List.set s71.2 (Int.toNat s71.1) (Rect.mk (iadd x98.X x1) x99.Y x99.W x99.H)) (Int.toNat s71.1) (Rect.mk x103.X (iadd x102.Y y) x103.W x103.H))))) else (some (.inr s71.2))
noncomputable def nest_moved_k (l : (List Rect)) (x1 : Int) (y : Int) : Option ((List Rect)):=
  (mk (l.length : Int) (Rect.mk 0 0 0 0)).bind fun l2=>(iterT (nest_moved_k_l1 l x1 y l2) 1000 (0,(cpy l2 (0) (List.take (min l.length (l2.length)) l)))).bind fun x104=>some x104
noncomputable def nest_put_k (x0 : Piece) (at1 : Placement) : Option (Piece × Int):=
  (flat_Quarter_k (Flat.mk x0.Rects x0.Cuts x0.Forms []) at1.Turn).bind fun r2=>if (r2.2 != 0) then (none) else ((nest_moved_k r2.1.Rects at1.X at1.Y).bind fun r9=>(nest_moved_k r2.1.Cuts at1.X at1.Y).bind fun r10=>(nest_moved_k r2.1.Forms at1.X at1.Y).bind fun r11=>(nest_valid_k r9).bind fun r21=>if r21 then ((nest_valid_k r10).bind fun r22=>if r22 then ((nest_valid_k r11).bind fun r23=>if (!r23) then (none) else (some ((Piece.mk x0.Name x0.Material x0.Gauge x0.Grain r9 r10 r11),0))) else (none)) else (none))
noncomputable def bits_Len64_k (x0 : Int) : Option (Int):=
  if (decide (x0 ≥ 4294967296)) then (none) else (if (decide (x0 ≥ 65536)) then (none) else (if (decide (x0 ≥ 256)) then (none) else ((sidx (ByteArray.mk #[0,1,2,2,3,3,3,3,4,4,4,4,4,4,4,4,5,5,5,5,5,5,5,5,5,5,5,5,5,5,5,5,6,6,6,6,6,6,6,6,6,6,6,6,6,6,6,6,6,6,6,6,6,6,6,6,6,6,6,6,6,6,6,6,7,7,7,7,7,7,7,7,7,7,7,7,7,7,7,7,7,7,7,7,7,7,7,7,7,7,7,7,7,7,7,7,7,7,7,7,7,7,7,7,7,7,7,7,7,7,7,7,7,7,7,7,7,7,7,7,7,7,7,7,7,7,7,7,8,8,8,8,8,8,8,8,8,8,8,8,8,8,8,8,8,8,8,8,8,8,8,8,8,8,8,8,8,8,8,8,8,8,8,8,8,8,8,8,8,8,8,8,8,8,8,8,8,8,8,8,8,8,8,8,8,8,8,8,8,8,8,8,8,8,8,8,8,8,8,8,8,8,8,8,8,8,8,8,8,8,8,8,8,8,8,8,8,8,8,8,8,8,8,8,8,8,8,8,8,8,8,8,8,8,8,8,8,8,8,8,8,8,8,8,8,8,8,8,8,8,8,8,8,8,8,8]) (IntKind.wrap .u8 x0)).bind fun x2=>some (iadd 0 (IntKind.wrap .i64 x2)))))
noncomputable def bits_Len_k (x0 : Int) : Option (Int):=
  (bits_Len64_k x0).bind fun r2=>some r2
noncomputable def cmp_isNaN_int_k (x0 : Int) : Option (Bool):=
  some (x0 != x0)
noncomputable def cmp_Less_int_k (x0 : Int) (y : Int) : Option (Bool):=
  (cmp_isNaN_int_k x0).bind fun r2=>if r2 then (none) else (some (decide (x0 < y)))
noncomputable def slices_insertionSortOrdered_int_k_l1 (a : Int) : Int × (List Int) → Option (Int × (List Int) ⊕ (List Int)):=fun s723 =>
  (if (decide (s723.1 > a)) then ((idx s723.2 s723.1).bind fun x785=>(idx s723.2 (isub s723.1 1)).bind fun x786=>(cmp_Less_int_k x785 x786).bind fun r787=>some r787) else (some false)).bind fun j784=>if j784 then ((idx s723.2 (isub s723.1 1)).bind fun x808=>(idx s723.2 s723.1).bind fun x809=>(idx s723.2 s723.1).bind fun x810=>(idx (List.set s723.2 (Int.toNat s723.1) x808) (isub s723.1 1)).bind fun x811=>some (.inl ((isub s723.1 1),(List.set (List.set s723.2 (Int.toNat s723.1) x808) (Int.toNat (isub s723.1 1)) x809)))) else (some (.inr s723.2))
noncomputable def slices_insertionSortOrdered_int_k_l2 (a : Int) (b : Int) : Int × (List Int) → Option (Int × (List Int) ⊕ (List Int)):=fun s272 =>
  if (decide (s272.1 < b)) then ((iterT (slices_insertionSortOrdered_int_k_l1 a) 1000 (s272.1,s272.2)).bind fun x812=>some (.inl ((iadd s272.1 1),x812))) else (some (.inr s272.2))
noncomputable def slices_insertionSortOrdered_int_k (a : Int) (b : Int) (h0 : (List Int)) : Option ((List Int)):=
  (iterT (slices_insertionSortOrdered_int_k_l2 a b) 1000 ((iadd a 1),h0)).bind fun x813=>some x813
noncomputable def slices_pdqsortOrdered_int_k_l1 (a : Int) (b : Int) (h0 : (List Int)) : Unit → Option (Unit ⊕ (List Int)):=fun s1 =>
  if (decide ((isub b a) ≤ 12)) then ((slices_insertionSortOrdered_int_k a b h0).bind fun r9=>some (.inr r9)) else (none)
noncomputable def slices_pdqsortOrdered_int_k (a : Int) (b : Int) (limit : Int) (h0 : (List Int)) : Option ((List Int)):=
  (iterT (slices_pdqsortOrdered_int_k_l1 a b h0) 1000 ()).bind fun x10=>some x10
noncomputable def slices_Sort_Lint_int_k (h0 : (List Int)) : Option ((List Int)):=
  (bits_Len_k (IntKind.wrap .u64 (h0.length : Int))).bind fun r3=>(slices_pdqsortOrdered_int_k 0 (h0.length : Int) r3 h0).bind fun r4=>some r4
noncomputable def slices_Compact_Lint_int_k_l1 (h0 : (List Int)) : Int → Option (Int ⊕ Unit):=fun s53 =>
  if (decide (s53 < (h0.length : Int))) then ((idx h0 s53).bind fun x76=>(idx h0 (isub s53 1)).bind fun x77=>if (x76 == x77) then (none) else (some (.inl (iadd s53 1)))) else (some (.inr ()))
noncomputable def slices_Compact_Lint_int_k (h0 : (List Int)) : Option ((List Int)):=
  if (decide ((h0.length : Int) < 2)) then (some h0) else ((iterT (slices_Compact_Lint_int_k_l1 h0) 1000 1).bind fun x78=>some h0)
noncomputable def nest_search_heights_1_k (y : Int) (a_0 : (List Rect)) (a_1 : (List nest_obstacle)) (a_2 : Int) (a_3 : Int) (a_4 : Int) (a_5 : Int) (a_6 : Int) (a_7 : Int) : Option (Bool):=
  (if (decide (y < a_3)) then (some true) else (some (decide (y > (isub (iadd a_3 a_5) a_7))))).bind fun j1=>some j1
noncomputable def slices_IndexFunc_Lint_int__nest_search_heights_1_k_l1 (s0 : (List Int)) (f_0_0 : (List Rect)) (f_0_1 : (List nest_obstacle)) (f_0_2 : Int) (f_0_3 : Int) (f_0_4 : Int) (f_0_5 : Int) (f_0_6 : Int) (f_0_7 : Int) : Int → Option (Int ⊕ (Int ⊕ Unit)):=fun s39 =>
  if (decide (s39 < (s0.length : Int))) then ((idx s0 s39).bind fun x54=>(nest_search_heights_1_k x54 f_0_0 f_0_1 f_0_2 f_0_3 f_0_4 f_0_5 f_0_6 f_0_7).bind fun r55=>if r55 then (some (.inr (.inl s39))) else (some (.inl (iadd s39 1)))) else (some (.inr (.inr (()))))
noncomputable def slices_IndexFunc_Lint_int__nest_search_heights_1_k (s0 : (List Int)) (f_0_0 : (List Rect)) (f_0_1 : (List nest_obstacle)) (f_0_2 : Int) (f_0_3 : Int) (f_0_4 : Int) (f_0_5 : Int) (f_0_6 : Int) (f_0_7 : Int) : Option (Int):=
  (iterT (slices_IndexFunc_Lint_int__nest_search_heights_1_k_l1 s0 f_0_0 f_0_1 f_0_2 f_0_3 f_0_4 f_0_5 f_0_6 f_0_7) 1000 0).bind fun x56=>match x56 with | .inl j57=>some j57 | .inr j58=>some (-1)
noncomputable def slices_DeleteFunc_Lint_int__nest_search_heights_1_k_k1 (s59 : Int × Int × (List Int)) : Int × (List Int) → Option (Int × Int × (List Int) ⊕ Int × (List Int)):=fun j79 =>
  some (.inl (j79.1,(iadd s59.2.1 1),j79.2))
noncomputable def slices_DeleteFunc_Lint_int__nest_search_heights_1_k_l2 (del_0_0 : (List Rect)) (del_0_1 : (List nest_obstacle)) (del_0_2 : Int) (del_0_3 : Int) (del_0_4 : Int) (del_0_5 : Int) (del_0_6 : Int) (del_0_7 : Int) : Int × Int × (List Int) → Option (Int × Int × (List Int) ⊕ Int × (List Int)):=fun s59 =>
  if (decide (s59.2.1 < (s59.2.2.length : Int))) then ((idx s59.2.2 s59.2.1).bind fun x81=>(nest_search_heights_1_k x81 del_0_0 del_0_1 del_0_2 del_0_3 del_0_4 del_0_5 del_0_6 del_0_7).bind fun r83=>if (!r83) then ((idx s59.2.2 s59.1).bind fun x85=>slices_DeleteFunc_Lint_int__nest_search_heights_1_k_k1 s59 ((iadd s59.1 1),(List.set s59.2.2 (Int.toNat s59.1) x81))) else (slices_DeleteFunc_Lint_int__nest_search_heights_1_k_k1 s59 (s59.1,s59.2.2))) else (some (.inr (s59.1,s59.2.2)))
noncomputable def slices_DeleteFunc_Lint_int__nest_search_heights_1_k (del_0_0 : (List Rect)) (del_0_1 : (List nest_obstacle)) (del_0_2 : Int) (del_0_3 : Int) (del_0_4 : Int) (del_0_5 : Int) (del_0_6 : Int) (del_0_7 : Int) (h0 : (List Int)) : Option ((List Int)):=
  (slices_IndexFunc_Lint_int__nest_search_heights_1_k h0 del_0_0 del_0_1 del_0_2 del_0_3 del_0_4 del_0_5 del_0_6 del_0_7).bind fun r2=>if (r2 == (-1)) then (some h0) else ((iterT (slices_DeleteFunc_Lint_int__nest_search_heights_1_k_l2 del_0_0 del_0_1 del_0_2 del_0_3 del_0_4 del_0_5 del_0_6 del_0_7) 1000 (r2,(iadd r2 1),h0)).bind fun x86=>if (decide ((0 : Int) ≤ x86.1) && (decide (x86.1 ≤ (x86.2.length : Int)) && decide ((x86.2.length : Int) ≤ (x86.2.length : Int)))) then ((slc (cpy x86.2 (Int.toNat x86.1) (List.replicate (Int.toNat (x86.2.length : Int) - Int.toNat x86.1) 0)) 0 x86.1).bind fun l88=>some l88) else none)
noncomputable def nest_search_heights_k_l1 (x1976 : nest_obstacle) (x2125 : Rect) : Int × (List Int) → Option (Int × (List Int) ⊕ (List Int)):=fun s2135 =>
  if (decide (s2135.1 < ([0,x1976.gap].length : Int))) then ((idx [0,x1976.gap] s2135.1).bind fun x2149=>(app s2135.2 [(isub (iadd (iadd x1976.Rect.Y x1976.Rect.H) x2149) x2125.Y),(isub (isub (isub x1976.Rect.Y x2149) x2125.Y) x2125.H)]).bind fun l2151=>some (.inl ((iadd s2135.1 1),l2151))) else (some (.inr s2135.2))
noncomputable def nest_search_heights_k_l2 (s0 : nest_search) (x1976 : nest_obstacle) : Int × (List Int) → Option (Int × (List Int) ⊕ (List Int)):=fun s2036 =>
  if (decide (s2036.1 < (s0.rects.length : Int))) then ((idx s0.rects s2036.1).bind fun x2125=>(iterT (nest_search_heights_k_l1 x1976 x2125) 1000 (0,s2036.2)).bind fun x2152=>some (.inl ((iadd s2036.1 1),x2152))) else (some (.inr s2036.2))
noncomputable def nest_search_heights_k_l3 (s0 : nest_search) : Int × (List Int) → Option (Int × (List Int) ⊕ (List Int)):=fun s1437 =>
  if (decide (s1437.1 < (s0.obstacles.length : Int))) then ((idx s0.obstacles s1437.1).bind fun x1976=>(iterT (nest_search_heights_k_l2 s0 x1976) 1000 (0,s1437.2)).bind fun x2153=>some (.inl ((iadd s1437.1 1),x2153))) else (some (.inr s1437.2))
noncomputable def nest_search_heights_k (s0 : nest_search) : Option ((List Int)):=
  (iterT (nest_search_heights_k_l3 s0) 1000 (0,[s0.area.Y])).bind fun x2154=>(slices_Sort_Lint_int_k x2154).bind fun r2156=>(slices_Compact_Lint_int_k r2156).bind fun r2158=>(slices_DeleteFunc_Lint_int__nest_search_heights_1_k s0.rects s0.obstacles s0.area.X s0.area.Y s0.area.W s0.area.H s0.w s0.h r2158).bind fun r2160=>some r2160
noncomputable def nest_split_1_k (a : nest_span) : Option (Bool):=
  some (decide ((isub a.hi a.lo) < 2))
noncomputable def slices_IndexFunc_Lnest_span_nest_span__nest_split_1_k_l1 (s0 : (List nest_span)) : Int → Option (Int ⊕ Unit):=fun s37 =>
  if (decide (s37 < (s0.length : Int))) then ((idx s0 s37).bind fun x52=>(nest_split_1_k x52).bind fun r53=>if r53 then (none) else (some (.inl (iadd s37 1)))) else (some (.inr ()))
noncomputable def slices_IndexFunc_Lnest_span_nest_span__nest_split_1_k (s0 : (List nest_span)) : Option (Int):=
  (iterT (slices_IndexFunc_Lnest_span_nest_span__nest_split_1_k_l1 s0) 1000 0).bind fun x54=>some (-1)
noncomputable def slices_DeleteFunc_Lnest_span_nest_span__nest_split_1_k (s0 : (List nest_span)) : Option ((List nest_span)):=
  (slices_IndexFunc_Lnest_span_nest_span__nest_split_1_k s0).bind fun r2=>if (r2 == (-1)) then (some s0) else (none)
noncomputable def nest_split_k (l : (List nest_span)) : Option ((List nest_span)):=
  (slices_DeleteFunc_Lnest_span_nest_span__nest_split_1_k l).bind fun r2=>some r2
noncomputable def nest_obstacle_spans_k (o : nest_obstacle) (r1 : Rect) (y : Int) : Option ((List nest_span)):=
  if (decide ((iadd r1.Y y) < (iadd o.Rect.Y o.Rect.H))) then (if (decide ((imax (imax 0 (isub (isub (isub o.Rect.Y r1.Y) y) r1.H)) (isub (isub (iadd r1.Y y) o.Rect.Y) o.Rect.H)) ≥ o.gap)) then (none) else (if o.common then (none) else (if ((imax (imax 0 (isub (isub (isub o.Rect.Y r1.Y) y) r1.H)) (isub (isub (iadd r1.Y y) o.Rect.Y) o.Rect.H)) == 0) then (if (o.gap == 0) then (none) else ((nest_split_k [(nest_span.mk (isub (isub (isub o.Rect.X r1.X) r1.W) o.gap) (iadd (isub (iadd o.Rect.X o.Rect.W) r1.X) o.gap))]).bind fun r2=>some r2)) else (none)))) else (none)
noncomputable def slices_insertionSortCmpFunc_nest_span__nest_byPlace_compare_k_l1 (a : Int) (b : Int) : Unit → Option (Unit ⊕ Unit):=fun s1 =>
  if (decide ((iadd a 1) < b)) then (none) else (some (.inr ()))
noncomputable def slices_insertionSortCmpFunc_nest_span__nest_byPlace_compare_k (a : Int) (b : Int) (h0 : (List nest_span)) : Option (Unit):=
  (iterT (slices_insertionSortCmpFunc_nest_span__nest_byPlace_compare_k_l1 a b) 1000 ()).bind fun x2=>some ()
noncomputable def slices_pdqsortCmpFunc_nest_span__nest_byPlace_compare_k_l1 (a : Int) (b : Int) (h0 : (List nest_span)) : Unit → Option (Unit ⊕ Unit):=fun s1 =>
  if (decide ((isub b a) ≤ 12)) then ((slices_insertionSortCmpFunc_nest_span__nest_byPlace_compare_k a b h0).bind fun r9=>some (.inr ())) else (none)
noncomputable def slices_pdqsortCmpFunc_nest_span__nest_byPlace_compare_k (a : Int) (b : Int) (limit : Int) (h0 : (List nest_span)) : Option (Unit):=
  (iterT (slices_pdqsortCmpFunc_nest_span__nest_byPlace_compare_k_l1 a b h0) 1000 ()).bind fun x10=>some ()
noncomputable def slices_SortFunc_Lnest_span_nest_span__nest_byPlace_compare_k (h0 : (List nest_span)) : Option (Unit):=
  (bits_Len_k (IntKind.wrap .u64 (h0.length : Int))).bind fun r3=>(slices_pdqsortCmpFunc_nest_span__nest_byPlace_compare_k 0 (h0.length : Int) r3 h0).bind fun r4=>some ()
noncomputable def nest_search_blocked_k_l1 (s0 : nest_search) (y : Int) (x458 : nest_obstacle) : Int × (List nest_span) → Option (Int × (List nest_span) ⊕ (List nest_span)):=fun s472 =>
  if (decide (s472.1 < (s0.rects.length : Int))) then ((idx s0.rects s472.1).bind fun x492=>(nest_obstacle_spans_k x458 x492 y).bind fun r495=>(app s472.2 r495).bind fun l496=>some (.inl ((iadd s472.1 1),l496))) else (some (.inr s472.2))
noncomputable def nest_search_blocked_k_l2 (s0 : nest_search) (y : Int) : Int × (List nest_span) → Option (Int × (List nest_span) ⊕ (List nest_span)):=fun s333 =>
  if (decide (s333.1 < (s0.obstacles.length : Int))) then ((idx s0.obstacles s333.1).bind fun x458=>(iterT (nest_search_blocked_k_l1 s0 y x458) 1000 (0,s333.2)).bind fun x497=>some (.inl ((iadd s333.1 1),x497))) else (some (.inr s333.2))
noncomputable def nest_search_blocked_k (s0 : nest_search) (y : Int) : Option ((List nest_span)):=
  (iterT (nest_search_blocked_k_l2 s0 y) 1000 (0,[])).bind fun x498=>(slices_SortFunc_Lnest_span_nest_span__nest_byPlace_compare_k x498).bind fun r500=>some x498
noncomputable def nest_first_k_k1 (s102 : Int × Bool × Int) : (Int × Bool) → Option ((Int × Bool × Int) ⊕ (Int × Bool)):=fun j110 =>
  some (.inl (j110.1,j110.2,(iadd s102.2.2 1)))
noncomputable def nest_first_k_l2 (l : (List nest_span)) (lo : Int) (hi : Int) : (Int × Bool × Int) → Option ((Int × Bool × Int) ⊕ (Int × Bool)):=fun s102 =>
  if (decide (s102.2.2 < (l.length : Int))) then ((idx l s102.2.2).bind fun x112=>if (decide (x112.lo < s102.1)) then (if (decide (s102.1 < x112.hi)) then (nest_first_k_k1 s102 (x112.hi,true)) else (nest_first_k_k1 s102 (s102.1,s102.2.1))) else (none)) else (some (.inr (s102.1,s102.2.1)))
noncomputable def nest_first_k_l3 (l : (List nest_span)) (lo : Int) (hi : Int) : (Int × Bool) → Option ((Int × Bool) ⊕ Int):=fun s77 =>
  if s77.2 then ((iterT (nest_first_k_l2 l lo hi) 1000 (s77.1,false,0)).bind fun x113=>some (.inl (x113.1,x113.2))) else (some (.inr s77.1))
noncomputable def nest_first_k (l : (List nest_span)) (lo : Int) (hi : Int) : Option (Int × Bool):=
  (iterT (nest_first_k_l3 l lo hi) 1000 (lo,true)).bind fun x114=>some (x114,(decide (x114 ≤ hi)))
noncomputable def nest_search_place_k_l1 (s0 : nest_search) (r38 : (List Int)) : Unit → Option (Unit ⊕ (Int × Int)):=fun s39 =>
  if (decide (0 < (r38.length : Int))) then ((idx r38 0).bind fun x65=>(nest_search_blocked_k s0 x65).bind fun r70=>(nest_first_k r70 s0.area.X (isub (iadd s0.area.X s0.area.W) s0.w)).bind fun r71=>if r71.2 then (some (.inr (r71.1,x65))) else (none)) else (none)
noncomputable def nest_search_place_k (s0 : nest_search) : Option (Int × Int × Bool):=
  if (decide (s0.w > s0.area.W)) then (none) else (if (decide (s0.h > s0.area.H)) then (none) else ((nest_search_heights_k s0).bind fun r38=>(iterT (nest_search_place_k_l1 s0 r38) 1000 ()).bind fun x72=>some (x72.1,x72.2,true)))
noncomputable def nest_Fit_k_k1 (s501 : Bool × Int × Int × Int × Int) : (Bool × Int × Int × Int) → Option ((Bool × Int × Int × Int × Int) ⊕ (Bool × Int × Int × Int)):=fun j620 =>
  some (.inl (j620.1,(iadd s501.2.1 1),j620.2.1,j620.2.2.1,j620.2.2.2))
noncomputable def nest_Fit_k_l2 (r626 : Piece × Int) : (Int × Int × Int) → Option ((Int × Int × Int) ⊕ (Int × Int)):=fun s647 =>
  if (decide (s647.1 < (r626.1.Rects.length : Int))) then ((idx r626.1.Rects s647.1).bind fun x655=>some (.inl ((iadd s647.1 1),(imax s647.2.1 (iadd x655.X x655.W)),(imax s647.2.2 (iadd x655.Y x655.H))))) else (some (.inr (s647.2.1,s647.2.2)))
noncomputable def nest_Fit_k_l3 (s0 : Sheet) (x2 : Piece) (r18 : Rect × Bool) (r20 : (List nest_obstacle)) : (Bool × Int × Int × Int × Int) → Option ((Bool × Int × Int × Int × Int) ⊕ (Bool × Int × Int × Int)):=fun s501 =>
  if (decide (s501.2.1 < 4)) then ((nest_Allowed_k x2 s0 s501.2.1).bind fun r624=>if (!r624) then (none) else ((nest_put_k x2 (Placement.mk 0 0 0 0 s501.2.1)).bind fun r626=>if (r626.2 != 0) then (none) else ((iterT (nest_Fit_k_l2 r626) 1000 (0,0,0)).bind fun x656=>(nest_search_place_k (nest_search.mk r626.1.Rects r20 r18.1 x656.1 x656.2)).bind fun r658=>(if r658.2.2 then (if s501.1 then (if (decide (r658.2.1 < s501.2.2.2.1)) then (some (true,true)) else (if (r658.2.1 == s501.2.2.2.1) then (some (true,(decide (r658.1 < s501.2.2.1)))) else (some (true,false)))) else (some (false,true))) else (none)).bind fun j659=>if j659.2 then (nest_Fit_k_k1 s501 (true,r658.1,r658.2.1,s501.2.1)) else (nest_Fit_k_k1 s501 (j659.1,s501.2.2.1,s501.2.2.2.1,s501.2.2.2.2))))) else (some (.inr (s501.1,s501.2.2.1,s501.2.2.2.1,s501.2.2.2.2)))
noncomputable def nest_Fit_k (s0 : Sheet) (taken : (List (List Rect))) (x2 : Piece) (set3 : Settings) : Option (Placement × Bool × Int × Int × Int × Int):=
  (nest_ValidateSheet_k s0).bind fun r4=>if (r4 != 0) then (none) else ((nest_takenError_k taken).bind fun r8=>if (r8 != 0) then (none) else ((nest_ValidatePiece_k x2).bind fun r12=>if (r12 != 0) then (none) else ((nest_ValidSettings_k set3).bind fun r16=>if (!r16) then (none) else ((nest_inner_k s0 set3.Margin).bind fun r18=>if (!r18.2) then (none) else ((nest_obstaclesOf_k s0 taken set3).bind fun r20=>(iterT (nest_Fit_k_l3 s0 x2 r18 r20) 1000 (false,0,0,0,0)).bind fun x660=>some ((Placement.mk 0 0 x660.2.1 x660.2.2.1 x660.2.2.2),x660.1,0,x660.2.1,x660.2.2.1,x660.2.2.2))))))
noncomputable def nest_lists_k_l1 (sheets : (List Sheet)) : Int → Option (Int ⊕ Unit):=fun s37 =>
  if (decide (s37 < (sheets.length : Int))) then ((idx sheets s37).bind fun x51=>(nest_ValidateSheet_k x51).bind fun r53=>if (r53 != 0) then (none) else (some (.inl (iadd s37 1)))) else (some (.inr ()))
noncomputable def nest_lists_k_l2 (pieces : (List Piece)) : Int → Option (Int ⊕ Unit):=fun s91 =>
  if (decide (s91 < (pieces.length : Int))) then ((idx pieces s91).bind fun x105=>(nest_ValidatePiece_k x105).bind fun r107=>if (r107 != 0) then (none) else (some (.inl (iadd s91 1)))) else (some (.inr ()))
noncomputable def nest_lists_k (sheets : (List Sheet)) (pieces : (List Piece)) : Option (Int):=
  if (decide ((sheets.length : Int) > 4)) then (none) else (if (decide ((pieces.length : Int) > 8)) then (none) else ((iterT (nest_lists_k_l1 sheets) 1000 0).bind fun x54=>(iterT (nest_lists_k_l2 pieces) 1000 0).bind fun x108=>some 0))
noncomputable def nest_Nest_k_l1 (sheets : (List Sheet)) (set2 : Settings) (s1471 : Int × (List (List (List Rect))) × (List Placement)) (x2019 : Piece) : Unit → Option (Unit ⊕ ((List (List (List Rect))) × (List Placement))):=fun s2110 =>
  if (decide (0 < (sheets.length : Int))) then ((idx sheets 0).bind fun x2178=>(idx s1471.2.1 0).bind fun x2183=>(nest_Fit_k x2178 x2183 x2019 set2).bind fun r2184=>if (r2184.2.2.1 != 0) then (none) else (if (!r2184.2.1) then (none) else ((nest_put_k x2019 (Placement.mk s1471.1 0 r2184.1.X r2184.1.Y r2184.1.Turn)).bind fun r2186=>(idx s1471.2.1 0).bind fun x2194=>(app x2194 [r2186.1.Rects]).bind fun l2195=>(idx s1471.2.1 0).bind fun x2196=>(app s1471.2.2 [(Placement.mk s1471.1 0 r2184.1.X r2184.1.Y r2184.1.Turn)]).bind fun l2198=>some (.inr ((List.set s1471.2.1 (Int.toNat 0) l2195),l2198))))) else (none)
noncomputable def nest_Nest_k_l2 (sheets : (List Sheet)) (pieces : (List Piece)) (set2 : Settings) : (Int × (List (List (List Rect))) × (List Placement)) → Option ((Int × (List (List (List Rect))) × (List Placement)) ⊕ (List Placement)):=fun s1471 =>
  if (decide (s1471.1 < (pieces.length : Int))) then ((idx pieces s1471.1).bind fun x2019=>(iterT (nest_Nest_k_l1 sheets set2 s1471 x2019) 1000 ()).bind fun x2199=>some (.inl ((iadd s1471.1 1),x2199.1,x2199.2))) else (some (.inr s1471.2.2))
noncomputable def nest_Nest_k (sheets : (List Sheet)) (pieces : (List Piece)) (set2 : Settings) : Option ((List Placement) × (List Int) × Int):=
  (nest_lists_k sheets pieces).bind fun r4=>if (r4 != 0) then (none) else ((nest_ValidSettings_k set2).bind fun r8=>if (!r8) then (none) else ((mk (sheets.length : Int) []).bind fun l10=>(iterT (nest_Nest_k_l2 sheets pieces set2) 1000 (0,l10,[])).bind fun x2200=>some (x2200,[],0)))
noncomputable def sheetmetalref06_SamePlacements_k_l1 (a : (List Placement)) (b : (List Placement)) : Int → Option (Int ⊕ Unit):=fun s53 =>
  if (decide (s53 < (a.length : Int))) then ((idx a s53).bind fun x76=>(idx b s53).bind fun x77=>if (!((x76.Piece == x77.Piece) && ((x76.Sheet == x77.Sheet) && ((x76.X == x77.X) && ((x76.Y == x77.Y) && ((x76.Turn == x77.Turn) && true)))))) then (none) else (some (.inl (iadd s53 1)))) else (some (.inr ()))
noncomputable def sheetmetalref06_SamePlacements_k (a : (List Placement)) (b : (List Placement)) : Option (Bool):=
  if ((a.length : Int) != (b.length : Int)) then (none) else ((iterT (sheetmetalref06_SamePlacements_k_l1 a b) 1000 0).bind fun x78=>some true)
noncomputable def sheetmetallaw06_known_k : Option (Bool):=
  (nest_Fit_k (Sheet.mk (ByteArray.mk #[115]) (ByteArray.mk #[115,116,101,101,108]) 10 0 1000 1000 [] []) [] (Piece.mk (ByteArray.mk #[112]) (ByteArray.mk #[115,116,101,101,108]) 10 0 [(Rect.mk 0 0 100 50)] [] []) (Settings.mk 0 10 false)).bind fun r2=>(nest_Nest_k [(Sheet.mk (ByteArray.mk #[115]) (ByteArray.mk #[115,116,101,101,108]) 10 0 1000 1000 [] [])] [(Piece.mk (ByteArray.mk #[112]) (ByteArray.mk #[115,116,101,101,108]) 10 0 [(Rect.mk 0 0 100 50)] [] []),(Piece.mk (ByteArray.mk #[112]) (ByteArray.mk #[115,116,101,101,108]) 10 0 [(Rect.mk 0 0 100 50)] [] [])] (Settings.mk 5 10 false)).bind fun r4=>if (r2.2.2.1 == 0) then (if r2.2.1 then (if ((r2.1.Piece == 0) && ((r2.1.Sheet == 0) && ((r2.1.X == 10) && ((r2.1.Y == 10) && ((r2.1.Turn == 0) && true))))) then (if (r4.2.2 == 0) then (if ((r4.2.1.length : Int) == 0) then ((sheetmetalref06_SamePlacements_k r4.1 [(Placement.mk 0 0 10 10 0),(Placement.mk 1 0 115 10 0)]).bind fun r6=>some r6) else (none)) else (none)) else (none)) else (none)) else (none)
end Go.SM
