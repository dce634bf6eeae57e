/- The Go functions as plain functions; written by a program out of the translation. -/
import Derived.Test.YtgfjbgoehhnaeaaCaTypes
set_option linter.unusedVariables false
set_option linter.unusedSimpArgs false
set_option linter.unusedSectionVars false
namespace Go.SM
open Go Go.VI
def strings_Contains (s sub : ByteArray) : Option Bool := if s.size < 4294967281 then some (Go.Lib.contains s.data.toList sub.data.toList) else none
noncomputable def part_ValidName_k_l1 (s0 : ByteArray) : Int → Option (Int ⊕ Unit) := fun s29 =>
  if (decide (s29 < (s0.size : Int))) then ((sidx s0 s29).bind fun x37 => if (decide (x37 < 97)) then (none) else (if (decide (x37 > 122)) then (none) else (some (.inl (iadd s29 1))))) else (some (.inr ()))
noncomputable def part_ValidName_k (s0 : ByteArray) : Option (Bool) :=
  if (decide ((s0.size : Int) < 1)) then (none) else (if (decide ((s0.size : Int) > 8)) then (none) else ((sidx s0 0).bind fun x7 => if (decide (x7 < 97)) then (none) else ((sidx s0 0).bind fun x8 => if (decide (x8 > 122)) then (none) else ((iterT (part_ValidName_k_l1 s0) 1000 0).bind fun x38 => (scat (ByteArray.mk #[32]) s0).bind fun s42 => (scat s42 (ByteArray.mk #[32])).bind fun s43 => (strings_Contains (ByteArray.mk #[32, 112, 97, 114, 116, 32, 109, 97, 116, 101, 114, 105, 97, 108, 32, 98, 97, 115, 101, 32, 102, 108, 97, 110, 103, 101, 32, 104, 111, 108, 101, 32, 99, 117, 116, 32, 102, 111, 114, 109, 32, 101, 97, 115, 116, 32, 115, 111, 117, 116, 104, 32, 119, 101, 115, 116, 32, 110, 111, 114, 116, 104, 32, 117, 112, 32, 100, 111, 119, 110, 32, 99, 108, 111, 115, 101, 117, 112, 32, 99, 108, 111, 115, 101, 100, 111, 119, 110, 32, 103, 114, 97, 105, 110, 32, 120, 32, 121, 32, 116, 97, 98, 108, 101, 32, 97, 110, 103, 108, 101, 32, 109, 97, 99, 104, 105, 110, 101, 32, 112, 117, 110, 99, 104, 32, 100, 105, 101, 32, 102, 114, 97, 109, 101, 32, 103, 97, 117, 103, 101, 32, 112, 111, 108, 121, 32, 115, 116, 97, 116, 105, 111, 110, 115, 32]) s43).bind fun r44 => some (!r44)))))
noncomputable def nest_from_k (n : Int) (lo : Int) (hi : Int) : Option (Bool) :=
  if (decide (lo ≤ n)) then (some (decide (n ≤ hi))) else (none)
noncomputable def nest_plain_k (gauge : Int) (grain : Int) : Option (Bool) :=
  (nest_from_k gauge 1 60).bind fun r3 => if r3 then ((nest_from_k grain 0 2).bind fun r4 => some r4) else (none)
noncomputable def geom_within_k (n : Int) (most : Int) : Option (Bool) :=
  if (decide ((ineg most) ≤ n)) then (some (decide (n ≤ most))) else (none)
noncomputable def geom_ValidRect_1_k (x0 : Int) (w : Int) : Option (Bool) :=
  (geom_within_k x0 1048576).bind fun r2 => if r2 then (if (decide (w > 0)) then (if (decide (w ≤ 2097152)) then (some (decide ((iadd x0 w) ≤ 1048576))) else (none)) else (none)) else (none)
noncomputable def geom_ValidRect_k (r0 : Rect) : Option (Bool) :=
  (geom_ValidRect_1_k r0.X r0.W).bind fun r3 => if r3 then ((geom_ValidRect_1_k r0.Y r0.H).bind fun r4 => some r4) else (none)
noncomputable def nest_valid_k_l1 (l : (List Rect)) : Int → Option (Int ⊕ Unit) := fun s37 =>
  if (decide (s37 < (l.length : Int))) then ((idx l s37).bind fun x51 => (geom_ValidRect_k x51).bind fun r53 => if (!r53) then (none) else (some (.inl (iadd s37 1)))) else (some (.inr ()))
noncomputable def nest_valid_k (l : (List Rect)) : Option (Bool) :=
  (iterT (nest_valid_k_l1 l) 1000 0).bind fun x54 => some true
noncomputable def nest_inner_k (s0 : Sheet) (margin : Int) : Option (Rect × Bool) :=
  (geom_ValidRect_k (Rect.mk margin margin (isub s0.Width (imul 2 margin)) (isub s0.Height (imul 2 margin)))).bind fun r3 => some ((Rect.mk margin margin (isub s0.Width (imul 2 margin)) (isub s0.Height (imul 2 margin))), r3)
noncomputable def nest_ValidateSheet_k_l1 (x81 : (List Rect)) : Unit → Option (Unit ⊕ Unit) := fun s82 =>
  if (decide (0 < (x81.length : Int))) then (none) else (some (.inr ()))
noncomputable def nest_ValidateSheet_k_l2 (s0 : Sheet) : Int → Option (Int ⊕ Unit) := fun s67 =>
  if (decide (s67 < ([s0.Clamps, s0.Used].length : Int))) then ((idx [s0.Clamps, s0.Used] s67).bind fun x81 => (iterT (nest_ValidateSheet_k_l1 x81) 1000 ()).bind fun x83 => some (.inl (iadd s67 1))) else (some (.inr ()))
noncomputable def nest_ValidateSheet_k (s0 : Sheet) : Option (Int) :=
  (part_ValidName_k s0.Name).bind fun r17 => if r17 then ((part_ValidName_k s0.Material).bind fun r18 => if (!r18) then (none) else ((nest_plain_k s0.Gauge s0.Grain).bind fun r22 => if r22 then ((nest_from_k s0.Width 1 1048576).bind fun r23 => if r23 then ((nest_from_k s0.Height 1 1048576).bind fun r24 => if (!r24) then (none) else (if (decide ((s0.Clamps.length : Int) > 4)) then (none) else (if (decide ((s0.Used.length : Int) > 48)) then (none) else ((nest_valid_k s0.Clamps).bind fun r27 => if r27 then ((nest_valid_k s0.Used).bind fun r28 => if (!r28) then (none) else ((nest_inner_k s0 0).bind fun r30 => (iterT (nest_ValidateSheet_k_l2 s0) 1000 0).bind fun x84 => some 0)) else (none))))) else (none)) else (none))) else (none)
noncomputable def slices_Clone_Lapi_Rect_api_Rect (s : (List Rect)) : Option (List Rect) := app [] s
noncomputable def cut_back_k_l1 (x1 : Int) (y : Int) (r2 : (List Rect)) : Int × (List Rect) → Option (Int × (List Rect) ⊕ (List Rect)) := fun s23 =>
  if (decide (s23.1 < (r2.length : Int))) then ((idx s23.2 s23.1).bind fun x31 => if (decide (x31.X < (-4194304))) then (none) else (if (decide (x31.X > 4194304)) then (none) else (if (decide (x31.Y < (-4194304))) then (none) else (if (decide (x31.Y > 4194304)) then (none) else (some (.inl ((iadd s23.1 1), (List.set (List.set s23.2 (Int.toNat s23.1) (Rect.mk (isub x31.X x1) x31.Y x31.W x31.H)) (Int.toNat s23.1) (Rect.mk (((Rect.mk (isub x31.X x1) x31.Y x31.W x31.H)).X) (isub (((Rect.mk (isub x31.X x1) x31.Y x31.W x31.H)).Y) y) (((Rect.mk (isub x31.X x1) x31.Y x31.W x31.H)).W) (((Rect.mk (isub x31.X x1) x31.Y x31.W x31.H)).H)))))))))) else (some (.inr s23.2))
noncomputable def cut_back_k (l : (List Rect)) (x1 : Int) (y : Int) : Option ((List Rect)) :=
  (slices_Clone_Lapi_Rect_api_Rect l).bind fun r2 => (iterT (cut_back_k_l1 x1 y r2) 1000 (0, r2)).bind fun x32 => some x32
noncomputable def nest_connected_k_l1 (l : (List Rect)) (l2 : (List Bool)) : Int → Option (Int ⊕ Unit) := fun s134 =>
  if (decide (s134 < (l.length : Int))) then ((idx (List.set l2 (Int.toNat 0) true) s134).bind fun x146 => if x146 then (some (.inl (iadd s134 1))) else (none)) else (some (.inr ()))
noncomputable def nest_connected_k_l2 (l : (List Rect)) (l2 : (List Bool)) : (List Int) → Option ((List Int) ⊕ Unit) := fun s101 =>
  if (decide ((s101.length : Int) > 0)) then ((idx s101 0).bind fun x126 => if (decide (1 ≤ s101.length)) then ((iterT (nest_connected_k_l1 l l2) 1000 0).bind fun x147 => some (.inl (List.drop 1 s101))) else none) else (some (.inr ()))
noncomputable def nest_connected_k_l3 (l2 : (List Bool)) : Int → Option (Int ⊕ Unit) := fun s169 =>
  if (decide (s169 < ((List.set l2 (Int.toNat 0) true).length : Int))) then ((idx (List.set l2 (Int.toNat 0) true) s169).bind fun x177 => if (!x177) then (none) else (some (.inl (iadd s169 1)))) else (some (.inr ()))
noncomputable def nest_connected_k (l : (List Rect)) : Option (Bool) :=
  (mk (l.length : Int) false).bind fun l2 => (idx l2 0).bind fun x4 => (iterT (nest_connected_k_l2 l l2) 1000 [0]).bind fun x148 => (iterT (nest_connected_k_l3 l2) 1000 0).bind fun x178 => some true
noncomputable def nest_inside_k_l1 (l6 : (List Rect)) : Unit → Option (Unit ⊕ Unit) := fun s9 =>
  if (decide (0 < (l6.length : Int))) then (none) else (some (.inr ()))
noncomputable def nest_inside_k_l2 (l6 : (List Rect)) : Unit → Option (Unit ⊕ Unit) := fun s13 =>
  if (decide (0 < (l6.length : Int))) then (none) else (some (.inr ()))
noncomputable def nest_inside_k (x0 : Piece) : Option (Int) :=
  (app [] x0.Cuts).bind fun l5 => (app l5 x0.Forms).bind fun l6 => (iterT (nest_inside_k_l1 l6) 1000 ()).bind fun x10 => (iterT (nest_inside_k_l2 l6) 1000 ()).bind fun x14 => some 0
noncomputable def nest_ValidatePiece_k_l1 (x0 : Piece) : (Int × Int × Int) → Option ((Int × Int × Int) ⊕ (Int × Int)) := fun s51 =>
  if (decide (s51.2.2 < (x0.Rects.length : Int))) then ((idx x0.Rects s51.2.2).bind fun x59 => some (.inl ((imin s51.1 x59.X), (imin s51.2.1 x59.Y), (iadd s51.2.2 1)))) else (some (.inr (s51.1, s51.2.1)))
noncomputable def nest_ValidatePiece_k_l2 (l135 : (List Rect)) : Unit → Option (Unit ⊕ Unit) := fun s136 =>
  if (decide (0 < (l135.length : Int))) then (none) else (some (.inr ()))
noncomputable def nest_ValidatePiece_k_l3 (x0 : Piece) : Int → Option (Int ⊕ Unit) := fun s113 =>
  if (decide (s113 < (x0.Rects.length : Int))) then ((idx x0.Rects s113).bind fun x133 => (slc x0.Rects 0 s113).bind fun l135 => (iterT (nest_ValidatePiece_k_l2 l135) 1000 ()).bind fun x137 => some (.inl (iadd s113 1))) else (some (.inr ()))
noncomputable def nest_ValidatePiece_k (x0 : Piece) : Option (Int) :=
  (part_ValidName_k x0.Name).bind fun r15 => if r15 then ((part_ValidName_k x0.Material).bind fun r16 => if (!r16) then (none) else ((nest_plain_k x0.Gauge x0.Grain).bind fun r18 => if (!r18) then (none) else (if (decide ((x0.Rects.length : Int) > 12)) then (none) else (if (decide ((x0.Cuts.length : Int) > 12)) then (none) else (if (decide ((x0.Forms.length : Int) > 12)) then (none) else (if ((x0.Rects.length : Int) == 0) then (none) else ((nest_valid_k x0.Rects).bind fun r22 => if r22 then ((nest_valid_k x0.Cuts).bind fun r23 => if r23 then ((nest_valid_k x0.Forms).bind fun r24 => if (!r24) then (none) else ((idx x0.Rects 0).bind fun x29 => (idx x0.Rects 0).bind fun x30 => (iterT (nest_ValidatePiece_k_l1 x0) 1000 (x29.X, x30.Y, 0)).bind fun x60 => if (x60.1 != 0) then (none) else (if (x60.2 != 0) then (none) else ((iterT (nest_ValidatePiece_k_l3 x0) 1000 0).bind fun x138 => (nest_connected_k x0.Rects).bind fun r142 => if (!r142) then (none) else ((nest_inside_k x0).bind fun r144 => some r144))))) else (none)) else (none)))))))) else (none)
noncomputable def cut_pieceError_k_l1 (x0 : Piece) : Int → Option (Int ⊕ Unit) := fun s37 =>
  if (decide (s37 < (x0.Rects.length : Int))) then ((idx x0.Rects s37).bind fun x51 => (geom_ValidRect_k x51).bind fun r53 => if (!r53) then (none) else (some (.inl (iadd s37 1)))) else (some (.inr ()))
noncomputable def cut_pieceError_k_l2 (x0 : Piece) : (Int × Int × Int) → Option ((Int × Int × Int) ⊕ (Int × Int)) := fun s81 =>
  if (decide (s81.2.2 < (x0.Rects.length : Int))) then ((idx x0.Rects s81.2.2).bind fun x89 => some (.inl ((imin s81.1 x89.X), (imin s81.2.1 x89.Y), (iadd s81.2.2 1)))) else (some (.inr (s81.1, s81.2.1)))
noncomputable def cut_pieceError_k (x0 : Piece) : Option (Int) :=
  (iterT (cut_pieceError_k_l1 x0) 1000 0).bind fun x54 => if ((x0.Rects.length : Int) == 0) then (none) else ((idx x0.Rects 0).bind fun x59 => (idx x0.Rects 0).bind fun x60 => (iterT (cut_pieceError_k_l2 x0) 1000 (x59.X, x60.Y, 0)).bind fun x90 => (cut_back_k x0.Rects x90.1 x90.2).bind fun r97 => (cut_back_k x0.Cuts x90.1 x90.2).bind fun r98 => (cut_back_k x0.Forms x90.1 x90.2).bind fun r99 => (nest_ValidatePiece_k (Piece.mk x0.Name x0.Material x0.Gauge x0.Grain r97 r98 r99)).bind fun r101 => some r101)
noncomputable def geom_Inside_k (a : Rect) (b : Rect) : Option (Bool) :=
  ((geom_ValidRect_k a).bind fun r4 => if r4 then ((geom_ValidRect_k b).bind fun r5 => if r5 then (if (decide (b.X ≤ a.X)) then (if (decide ((iadd a.X a.W) ≤ (iadd b.X b.W))) then (if (decide (b.Y ≤ a.Y)) then (some (decide ((iadd a.Y a.H) ≤ (iadd b.Y b.H)))) else (some false)) else (some false)) else (some false)) else (none)) else (none)).bind fun j3 => some j3
noncomputable def geom_Overlap_k (a : Rect) (b : Rect) : Option (Bool) :=
  (geom_ValidRect_k a).bind fun r3 => if r3 then ((geom_ValidRect_k b).bind fun r4 => if r4 then (if (decide (a.X < (iadd b.X b.W))) then (none) else (some false)) else (none)) else (none)
noncomputable def cut_meets_1_k (x0 : Rect) (a_0 : Int) (a_1 : Int) (a_2 : Int) (a_3 : Int) : Option (Bool) :=
  (geom_Overlap_k (Rect.mk a_0 a_1 a_2 a_3) x0).bind fun r2 => some r2
noncomputable def slices_IndexFunc_Lapi_Rect_api_Rect__cut_meets_1_k_l1 (s0 : (List Rect)) (f_0_0 : Int) (f_0_1 : Int) (f_0_2 : Int) (f_0_3 : Int) : Int → Option (Int ⊕ Unit) := fun s37 =>
  if (decide (s37 < (s0.length : Int))) then ((idx s0 s37).bind fun x52 => (cut_meets_1_k x52 f_0_0 f_0_1 f_0_2 f_0_3).bind fun r53 => if r53 then (none) else (some (.inl (iadd s37 1)))) else (some (.inr ()))
noncomputable def slices_IndexFunc_Lapi_Rect_api_Rect__cut_meets_1_k (s0 : (List Rect)) (f_0_0 : Int) (f_0_1 : Int) (f_0_2 : Int) (f_0_3 : Int) : Option (Int) :=
  (iterT (slices_IndexFunc_Lapi_Rect_api_Rect__cut_meets_1_k_l1 s0 f_0_0 f_0_1 f_0_2 f_0_3) 1000 0).bind fun x54 => some (-1)
noncomputable def slices_ContainsFunc_Lapi_Rect_api_Rect__cut_meets_1_k (s0 : (List Rect)) (f_0_0 : Int) (f_0_1 : Int) (f_0_2 : Int) (f_0_3 : Int) : Option (Bool) :=
  (slices_IndexFunc_Lapi_Rect_api_Rect__cut_meets_1_k s0 f_0_0 f_0_1 f_0_2 f_0_3).bind fun r2 => some (decide (r2 ≥ 0))
noncomputable def cut_meets_k (r0 : Rect) (l : (List Rect)) : Option (Bool) :=
  (slices_ContainsFunc_Lapi_Rect_api_Rect__cut_meets_1_k l r0.X r0.Y r0.W r0.H).bind fun r2 => some r2
noncomputable def cut_Validate_k_l1 (l : LayoutT) : Int → Option (Int ⊕ Unit) := fun s41 =>
  if (decide (s41 < (l.Pieces.length : Int))) then ((idx l.Pieces s41).bind fun x55 => (cut_pieceError_k x55).bind fun r57 => if (r57 != 0) then (none) else (some (.inl (iadd s41 1)))) else (some (.inr ()))
noncomputable def cut_Validate_k_l2 (l : LayoutT) (x648 : Piece) : Int → Option (Int ⊕ Unit) := fun s666 =>
  if (decide (s666 < (x648.Rects.length : Int))) then ((idx x648.Rects s666).bind fun x692 => (geom_Inside_k x692 (Rect.mk 0 0 l.Sheet.Width l.Sheet.Height)).bind fun r696 => if r696 then ((cut_meets_k x692 l.Sheet.Clamps).bind fun r697 => if r697 then (none) else ((cut_meets_k x692 l.Sheet.Used).bind fun r698 => if r698 then (none) else (some (.inl (iadd s666 1))))) else (none)) else (some (.inr ()))
noncomputable def cut_Validate_k_l3 (l : LayoutT) : Int → Option (Int ⊕ Unit) := fun s487 =>
  if (decide (s487 < (l.Pieces.length : Int))) then ((idx l.Pieces s487).bind fun x648 => (iterT (cut_Validate_k_l2 l x648) 1000 0).bind fun x699 => some (.inl (iadd s487 1))) else (some (.inr ()))
noncomputable def cut_Validate_k_l4 (x2698 : Piece) (x2849 : Piece) : Int → Option (Int ⊕ Unit) := fun s2859 =>
  if (decide (s2859 < (x2698.Rects.length : Int))) then ((idx x2698.Rects s2859).bind fun x2873 => (cut_meets_k x2873 x2849.Rects).bind fun r2875 => if r2875 then (none) else (some (.inl (iadd s2859 1)))) else (some (.inr ()))
noncomputable def cut_Validate_k_l5 (x2698 : Piece) (l2700 : (List Piece)) : Int → Option (Int ⊕ Unit) := fun s2760 =>
  if (decide (s2760 < (l2700.length : Int))) then ((idx l2700 s2760).bind fun x2849 => (iterT (cut_Validate_k_l4 x2698 x2849) 1000 0).bind fun x2876 => some (.inl (iadd s2760 1))) else (some (.inr ()))
noncomputable def cut_Validate_k_l6 (l : LayoutT) : Int → Option (Int ⊕ Unit) := fun s2153 =>
  if (decide (s2153 < (l.Pieces.length : Int))) then ((idx l.Pieces s2153).bind fun x2698 => (slc l.Pieces 0 s2153).bind fun l2700 => (iterT (cut_Validate_k_l5 x2698 l2700) 1000 0).bind fun x2877 => some (.inl (iadd s2153 1))) else (some (.inr ()))
noncomputable def cut_Validate_k (l : LayoutT) : Option (Int) :=
  (nest_ValidateSheet_k l.Sheet).bind fun r4 => if (r4 != 0) then (none) else (if (decide ((l.Pieces.length : Int) > 8)) then (none) else ((iterT (cut_Validate_k_l1 l) 1000 0).bind fun x58 => (iterT (cut_Validate_k_l3 l) 1000 0).bind fun x700 => (iterT (cut_Validate_k_l6 l) 1000 0).bind fun x2878 => some 0))
noncomputable def bits_Len64_k (x0 : Int) : Option (Int) :=
  if (decide (x0 ≥ 4294967296)) then (none) else (if (decide (x0 ≥ 65536)) then (none) else (if (decide (x0 ≥ 256)) then (none) else ((sidx (ByteArray.mk #[0, 1, 2, 2, 3, 3, 3, 3, 4, 4, 4, 4, 4, 4, 4, 4, 5, 5, 5, 5, 5, 5, 5, 5, 5, 5, 5, 5, 5, 5, 5, 5, 6, 6, 6, 6, 6, 6, 6, 6, 6, 6, 6, 6, 6, 6, 6, 6, 6, 6, 6, 6, 6, 6, 6, 6, 6, 6, 6, 6, 6, 6, 6, 6, 7, 7, 7, 7, 7, 7, 7, 7, 7, 7, 7, 7, 7, 7, 7, 7, 7, 7, 7, 7, 7, 7, 7, 7, 7, 7, 7, 7, 7, 7, 7, 7, 7, 7, 7, 7, 7, 7, 7, 7, 7, 7, 7, 7, 7, 7, 7, 7, 7, 7, 7, 7, 7, 7, 7, 7, 7, 7, 7, 7, 7, 7, 7, 7, 8, 8, 8, 8, 8, 8, 8, 8, 8, 8, 8, 8, 8, 8, 8, 8, 8, 8, 8, 8, 8, 8, 8, 8, 8, 8, 8, 8, 8, 8, 8, 8, 8, 8, 8, 8, 8, 8, 8, 8, 8, 8, 8, 8, 8, 8, 8, 8, 8, 8, 8, 8, 8, 8, 8, 8, 8, 8, 8, 8, 8, 8, 8, 8, 8, 8, 8, 8, 8, 8, 8, 8, 8, 8, 8, 8, 8, 8, 8, 8, 8, 8, 8, 8, 8, 8, 8, 8, 8, 8, 8, 8, 8, 8, 8, 8, 8, 8, 8, 8, 8, 8, 8, 8, 8, 8, 8, 8, 8, 8, 8, 8, 8, 8, 8, 8, 8, 8, 8, 8, 8, 8, 8, 8, 8, 8, 8, 8]) (IntKind.wrap .u8 x0)).bind fun x2 => some (iadd 0 (IntKind.wrap .i64 x2)))))
noncomputable def bits_Len_k (x0 : Int) : Option (Int) :=
  (bits_Len64_k x0).bind fun r2 => some r2
noncomputable def cmp_isNaN_int_k (x0 : Int) : Option (Bool) :=
  some (x0 != x0)
noncomputable def cmp_Compare_int_k (x0 : Int) (y : Int) : Option (Int) :=
  (cmp_isNaN_int_k x0).bind fun r2 => (cmp_isNaN_int_k y).bind fun r4 => if r2 then (none) else (if r4 then (none) else (if (decide (x0 < y)) then (some (-1)) else (if (decide (x0 > y)) then (some 1) else (some 0))))
noncomputable def slices_insertionSortCmpFunc_int__cmp_Compare_int_k_l1 (a : Int) : Int × (List Int) → Option (Int × (List Int) ⊕ Int × Int × Int × Int × Int × Int × Bool × (List Int)) := fun s691 =>
  if (decide (s691.1 > a)) then ((idx s691.2 s691.1).bind fun x749 => (idx s691.2 (isub s691.1 1)).bind fun x750 => (cmp_Compare_int_k x749 x750).bind fun r751 => if (decide (r751 < 0)) then ((idx s691.2 (isub s691.1 1)).bind fun x772 => (idx s691.2 s691.1).bind fun x773 => (idx s691.2 s691.1).bind fun x774 => (idx (List.set s691.2 (Int.toNat s691.1) x772) (isub s691.1 1)).bind fun x775 => some (.inl ((isub s691.1 1), (List.set (List.set s691.2 (Int.toNat s691.1) x772) (Int.toNat (isub s691.1 1)) x773)))) else (some (.inr (s691.1, x749, s691.1, (isub s691.1 1), x750, r751, (decide (r751 < 0)), s691.2)))) else (none)
noncomputable def slices_insertionSortCmpFunc_int__cmp_Compare_int_k_l2 (a : Int) (b : Int) : Int × (List Int) → Option (Int × (List Int) ⊕ (List Int)) := fun s260 =>
  if (decide (s260.1 < b)) then ((iterT (slices_insertionSortCmpFunc_int__cmp_Compare_int_k_l1 a) 1000 (s260.1, s260.2)).bind fun x776 => some (.inl ((iadd s260.1 1), x776.2.2.2.2.2.2.2))) else (some (.inr s260.2))
noncomputable def slices_insertionSortCmpFunc_int__cmp_Compare_int_k (a : Int) (b : Int) (h0 : (List Int)) : Option ((List Int)) :=
  (iterT (slices_insertionSortCmpFunc_int__cmp_Compare_int_k_l2 a b) 1000 ((iadd a 1), h0)).bind fun x777 => some x777
noncomputable def slices_pdqsortCmpFunc_int__cmp_Compare_int_k_l1 (a : Int) (b : Int) (h0 : (List Int)) : Unit → Option (Unit ⊕ (List Int)) := fun s1 =>
  if (decide ((isub b a) ≤ 12)) then ((slices_insertionSortCmpFunc_int__cmp_Compare_int_k a b h0).bind fun r9 => some (.inr r9)) else (none)
noncomputable def slices_pdqsortCmpFunc_int__cmp_Compare_int_k (a : Int) (b : Int) (limit : Int) (h0 : (List Int)) : Option ((List Int)) :=
  (iterT (slices_pdqsortCmpFunc_int__cmp_Compare_int_k_l1 a b h0) 1000 ()).bind fun x10 => some x10
noncomputable def slices_SortFunc_Lint_int__cmp_Compare_int_k (h0 : (List Int)) : Option ((List Int)) :=
  (bits_Len_k (IntKind.wrap .u64 (h0.length : Int))).bind fun r3 => (slices_pdqsortCmpFunc_int__cmp_Compare_int_k 0 (h0.length : Int) r3 h0).bind fun r4 => some r4
noncomputable def slices_Compact_Lint_int_k_k1 (s1640 : Int × Int × (List Int)) : Int × (List Int) → Option (Int × Int × (List Int) ⊕ Int × (List Int)) := fun j1672 =>
  some (.inl (j1672.1, (iadd s1640.2.1 1), j1672.2))
noncomputable def slices_Compact_Lint_int_k_l2 (h0 : (List Int)) (s1125 : Int) : Int × Int × (List Int) → Option (Int × Int × (List Int) ⊕ Int × (List Int)) := fun s1640 =>
  if (decide (s1640.2.1 < ((Int.toNat (h0.length : Int) - Int.toNat s1125 : Nat) : Int))) then ((idx (List.take (Int.toNat (h0.length : Int) - Int.toNat s1125) (List.drop (Int.toNat s1125) s1640.2.2)) s1640.2.1).bind fun x1677 => (idx (List.take (Int.toNat (h0.length : Int) - Int.toNat s1125) (List.drop (Int.toNat s1125) s1640.2.2)) (isub s1640.2.1 1)).bind fun x1678 => if (x1677 != x1678) then ((idx (List.take (Int.toNat (h0.length : Int) - Int.toNat s1125) (List.drop (Int.toNat s1125) s1640.2.2)) s1640.2.1).bind fun x1681 => (idx s1640.2.2 s1640.1).bind fun x1682 => slices_Compact_Lint_int_k_k1 s1640 ((iadd s1640.1 1), (List.set s1640.2.2 (Int.toNat s1640.1) x1681))) else (slices_Compact_Lint_int_k_k1 s1640 (s1640.1, s1640.2.2))) else (some (.inr (s1640.1, s1640.2.2)))
noncomputable def slices_Compact_Lint_int_k_l3 (h0 : (List Int)) : Int → Option (Int ⊕ (List Int)) := fun s1125 =>
  if (decide (s1125 < (h0.length : Int))) then ((idx h0 s1125).bind fun x1550 => (idx h0 (isub s1125 1)).bind fun x1551 => if (x1550 == x1551) then (if (decide ((0 : Int) ≤ s1125) && (decide (s1125 ≤ (h0.length : Int)) && decide ((h0.length : Int) ≤ (h0.length : Int)))) then ((iterT (slices_Compact_Lint_int_k_l2 h0 s1125) 1000 (s1125, 1, h0)).bind fun x1683 => if (decide ((0 : Int) ≤ x1683.1) && (decide (x1683.1 ≤ (x1683.2.length : Int)) && decide ((x1683.2.length : Int) ≤ (x1683.2.length : Int)))) then ((slc (cpy x1683.2 (Int.toNat x1683.1) (List.replicate (Int.toNat (x1683.2.length : Int) - Int.toNat x1683.1) 0)) 0 x1683.1).bind fun l1685 => some (.inr l1685)) else none) else none) else (some (.inl (iadd s1125 1)))) else (none)
noncomputable def slices_Compact_Lint_int_k (h0 : (List Int)) : Option ((List Int)) :=
  if (decide ((h0.length : Int) < 2)) then (none) else ((iterT (slices_Compact_Lint_int_k_l3 h0) 1000 1).bind fun x1686 => some x1686)
noncomputable def cut_set_k (h0 : (List Int)) : Option ((List Int)) :=
  (slices_SortFunc_Lint_int__cmp_Compare_int_k h0).bind fun r2 => (slices_Compact_Lint_int_k r2).bind fun r4 => some r4
noncomputable def cut_at_k_l1 (x1 : Int) (y : Int) (x284 : Piece) : Int → Option (Int ⊕ (Unit ⊕ Unit)) := fun s292 =>
  if (decide (s292 < (x284.Rects.length : Int))) then ((idx x284.Rects s292).bind fun x303 => (if (decide (x303.X ≤ x1)) then (if (decide (x1 < (iadd x303.X x303.W))) then (if (decide (x303.Y ≤ y)) then (some (decide (y < (iadd x303.Y x303.H)))) else (some false)) else (some false)) else (some false)).bind fun j304 => if j304 then (some (.inr (.inl ()))) else (some (.inl (iadd s292 1)))) else (some (.inr (.inr (()))))
noncomputable def cut_at_k_l2 (l : LayoutT) (x1 : Int) (y : Int) : Int → Option (Int ⊕ ((Option Int) ⊕ Unit)) := fun s207 =>
  if (decide (s207 < (l.Pieces.length : Int))) then ((idx l.Pieces s207).bind fun x284 => (iterT (cut_at_k_l1 x1 y x284) 1000 0).bind fun x305 => match x305 with | .inl j306 => some (.inr (.inl (some s207))) | .inr j307 => some (.inl (iadd s207 1))) else (some (.inr (.inr (()))))
noncomputable def cut_at_k (l : LayoutT) (x1 : Int) (y : Int) : Option ((Option Int)) :=
  (iterT (cut_at_k_l2 l x1 y) 1000 0).bind fun x308 => match x308 with | .inl j309 => some j309 | .inr j310 => some none
noncomputable def cut_edges_1_k (x0 : Int) (a_0 : ByteArray) (a_1 : ByteArray) (a_2 : Int) (a_3 : Int) (a_4 : Int) (a_5 : Int) (a_6 : (List Rect)) (a_7 : (List Rect)) (a_8 : (List Piece)) (a2_0 : Int) : Option ((Option Int) × (Option Int)) :=
  (cut_at_k (LayoutT.mk (Sheet.mk a_0 a_1 a_2 a_3 a_4 a_5 a_6 a_7) a_8) x0 a2_0).bind fun r5 => (cut_at_k (LayoutT.mk (Sheet.mk a_0 a_1 a_2 a_3 a_4 a_5 a_6 a_7) a_8) x0 (isub a2_0 1)).bind fun r6 => some (r5, r6)
noncomputable def cut_pieceNo_solid_k (a : Int) : Option (Bool) :=
  some true
noncomputable def cut_nothing_solid_k (a : cut_nothing) : Option (Bool) :=
  some false
noncomputable def cut_edges_2_k (from0 : Int) (to1 : Int) (a_0 : Int) : Option (Segment) :=
  some (Segment.mk from0 a_0 to1 a_0)
noncomputable def cut_number_k (t : (Option Int)) : Option (Int) :=
  if (Option.isSome t) then (some (Option.getD t 0)) else (some (-1))
noncomputable def cut_edge_k_k1 (s0 : Segment) : (Int × Int) → Option (EdgeT × Int × Int) := fun j2 =>
  some ((EdgeT.mk s0 j2.1 j2.2), j2.1, j2.2)
noncomputable def cut_edge_k (s0 : Segment) (a : Int) (b : Int) : Option (EdgeT × Int × Int) :=
  (if (decide (a < 0)) then (some true) else (if (decide (b ≥ 0)) then (some (decide (b < a))) else (some false))).bind fun j3 => if j3 then (cut_edge_k_k1 s0 (b, a)) else (cut_edge_k_k1 s0 (a, b))
noncomputable def cut_along__cut_edges_1__cut_edges_2_k_k1 (s325 : Int × (Option Int) × (Option Int) × Int × (List EdgeT)) (x447 : Int) (j450 : (Option Int) × (Option Int)) : (List EdgeT) → Option ((Int × (Option Int) × (Option Int) × Int × (List EdgeT)) ⊕ (List EdgeT)) := fun j468 =>
  some (.inl (x447, j450.1, j450.2, (iadd s325.2.2.2.1 1), j468))
noncomputable def cut_along__cut_edges_1__cut_edges_2_k_k2 (line_0_0 : Int) (s325 : Int × (Option Int) × (Option Int) × Int × (List EdgeT)) (x447 : Int) : ((Option Int) × (Option Int)) → Option ((Int × (Option Int) × (Option Int) × Int × (List EdgeT)) ⊕ (List EdgeT)) := fun j450 =>
  (if (j450.1 == s325.2.1) then (some (j450.2 == s325.2.2.1)) else (some false)).bind fun j452 => if j452 then (none) else ((if (s325.2.1 == s325.2.2.1) then (some false) else ((match s325.2.1 with | some n => cut_pieceNo_solid_k n | none => cut_nothing_solid_k (cut_nothing.mk )).bind fun b472 => if b472 then (some true) else ((match s325.2.2.1 with | some n => cut_pieceNo_solid_k n | none => cut_nothing_solid_k (cut_nothing.mk )).bind fun b473 => some b473))).bind fun j471 => if j471 then ((cut_edges_2_k s325.1 x447 line_0_0).bind fun r479 => (cut_number_k s325.2.1).bind fun r480 => (cut_number_k s325.2.2.1).bind fun r481 => (cut_edge_k r479 r480 r481).bind fun r482 => (app s325.2.2.2.2 [(EdgeT.mk (Segment.mk r482.1.Line.X1 r482.1.Line.Y1 r482.1.Line.X2 r482.1.Line.Y2) r482.1.A r482.1.B)]).bind fun l483 => cut_along__cut_edges_1__cut_edges_2_k_k1 s325 x447 j450 l483) else (cut_along__cut_edges_1__cut_edges_2_k_k1 s325 x447 j450 s325.2.2.2.2))
noncomputable def cut_along__cut_edges_1__cut_edges_2_k_l3 (ends : (List Int)) (sides_0_0 : ByteArray) (sides_0_1 : ByteArray) (sides_0_2 : Int) (sides_0_3 : Int) (sides_0_4 : Int) (sides_0_5 : Int) (sides_0_6 : (List Rect)) (sides_0_7 : (List Rect)) (sides_0_8 : (List Piece)) (sides_1_0 : Int) (line_0_0 : Int) : (Int × (Option Int) × (Option Int) × Int × (List EdgeT)) → Option ((Int × (Option Int) × (Option Int) × Int × (List EdgeT)) ⊕ (List EdgeT)) := fun s325 =>
  if (decide (s325.2.2.2.1 < (ends.length : Int))) then ((idx ends s325.2.2.2.1).bind fun x447 => if (decide ((iadd s325.2.2.2.1 1) < (ends.length : Int))) then ((cut_edges_1_k x447 sides_0_0 sides_0_1 sides_0_2 sides_0_3 sides_0_4 sides_0_5 sides_0_6 sides_0_7 sides_0_8 sides_1_0).bind fun r485 => cut_along__cut_edges_1__cut_edges_2_k_k2 line_0_0 s325 x447 (r485.1, r485.2)) else (cut_along__cut_edges_1__cut_edges_2_k_k2 line_0_0 s325 x447 (none, none))) else (some (.inr s325.2.2.2.2))
noncomputable def cut_along__cut_edges_1__cut_edges_2_k (ends : (List Int)) (sides_0_0 : ByteArray) (sides_0_1 : ByteArray) (sides_0_2 : Int) (sides_0_3 : Int) (sides_0_4 : Int) (sides_0_5 : Int) (sides_0_6 : (List Rect)) (sides_0_7 : (List Rect)) (sides_0_8 : (List Piece)) (sides_1_0 : Int) (line_0_0 : Int) : Option ((List EdgeT)) :=
  (iterT (cut_along__cut_edges_1__cut_edges_2_k_l3 ends sides_0_0 sides_0_1 sides_0_2 sides_0_3 sides_0_4 sides_0_5 sides_0_6 sides_0_7 sides_0_8 sides_1_0 line_0_0) 1000 (0, none, none, 0, [])).bind fun x486 => some x486
noncomputable def cut_edges_3_k (y : Int) (a_0 : ByteArray) (a_1 : ByteArray) (a_2 : Int) (a_3 : Int) (a_4 : Int) (a_5 : Int) (a_6 : (List Rect)) (a_7 : (List Rect)) (a_8 : (List Piece)) (a2_0 : Int) : Option ((Option Int) × (Option Int)) :=
  (cut_at_k (LayoutT.mk (Sheet.mk a_0 a_1 a_2 a_3 a_4 a_5 a_6 a_7) a_8) a2_0 y).bind fun r5 => (cut_at_k (LayoutT.mk (Sheet.mk a_0 a_1 a_2 a_3 a_4 a_5 a_6 a_7) a_8) (isub a2_0 1) y).bind fun r6 => some (r5, r6)
noncomputable def cut_edges_4_k (from0 : Int) (to1 : Int) (a_0 : Int) : Option (Segment) :=
  some (Segment.mk a_0 from0 a_0 to1)
noncomputable def cut_along__cut_edges_3__cut_edges_4_k_k1 (s325 : Int × (Option Int) × (Option Int) × Int × (List EdgeT)) (x447 : Int) (j450 : (Option Int) × (Option Int)) : (List EdgeT) → Option ((Int × (Option Int) × (Option Int) × Int × (List EdgeT)) ⊕ (List EdgeT)) := fun j468 =>
  some (.inl (x447, j450.1, j450.2, (iadd s325.2.2.2.1 1), j468))
noncomputable def cut_along__cut_edges_3__cut_edges_4_k_k2 (line_0_0 : Int) (s325 : Int × (Option Int) × (Option Int) × Int × (List EdgeT)) (x447 : Int) : ((Option Int) × (Option Int)) → Option ((Int × (Option Int) × (Option Int) × Int × (List EdgeT)) ⊕ (List EdgeT)) := fun j450 =>
  (if (j450.1 == s325.2.1) then (some (j450.2 == s325.2.2.1)) else (some false)).bind fun j452 => if j452 then (none) else ((if (s325.2.1 == s325.2.2.1) then (some false) else ((match s325.2.1 with | some n => cut_pieceNo_solid_k n | none => cut_nothing_solid_k (cut_nothing.mk )).bind fun b472 => if b472 then (some true) else ((match s325.2.2.1 with | some n => cut_pieceNo_solid_k n | none => cut_nothing_solid_k (cut_nothing.mk )).bind fun b473 => some b473))).bind fun j471 => if j471 then ((cut_edges_4_k s325.1 x447 line_0_0).bind fun r479 => (cut_number_k s325.2.1).bind fun r480 => (cut_number_k s325.2.2.1).bind fun r481 => (cut_edge_k r479 r480 r481).bind fun r482 => (app s325.2.2.2.2 [(EdgeT.mk (Segment.mk r482.1.Line.X1 r482.1.Line.Y1 r482.1.Line.X2 r482.1.Line.Y2) r482.1.A r482.1.B)]).bind fun l483 => cut_along__cut_edges_3__cut_edges_4_k_k1 s325 x447 j450 l483) else (cut_along__cut_edges_3__cut_edges_4_k_k1 s325 x447 j450 s325.2.2.2.2))
noncomputable def cut_along__cut_edges_3__cut_edges_4_k_l3 (ends : (List Int)) (sides_0_0 : ByteArray) (sides_0_1 : ByteArray) (sides_0_2 : Int) (sides_0_3 : Int) (sides_0_4 : Int) (sides_0_5 : Int) (sides_0_6 : (List Rect)) (sides_0_7 : (List Rect)) (sides_0_8 : (List Piece)) (sides_1_0 : Int) (line_0_0 : Int) : (Int × (Option Int) × (Option Int) × Int × (List EdgeT)) → Option ((Int × (Option Int) × (Option Int) × Int × (List EdgeT)) ⊕ (List EdgeT)) := fun s325 =>
  if (decide (s325.2.2.2.1 < (ends.length : Int))) then ((idx ends s325.2.2.2.1).bind fun x447 => if (decide ((iadd s325.2.2.2.1 1) < (ends.length : Int))) then ((cut_edges_3_k x447 sides_0_0 sides_0_1 sides_0_2 sides_0_3 sides_0_4 sides_0_5 sides_0_6 sides_0_7 sides_0_8 sides_1_0).bind fun r485 => cut_along__cut_edges_3__cut_edges_4_k_k2 line_0_0 s325 x447 (r485.1, r485.2)) else (cut_along__cut_edges_3__cut_edges_4_k_k2 line_0_0 s325 x447 (none, none))) else (some (.inr s325.2.2.2.2))
noncomputable def cut_along__cut_edges_3__cut_edges_4_k (ends : (List Int)) (sides_0_0 : ByteArray) (sides_0_1 : ByteArray) (sides_0_2 : Int) (sides_0_3 : Int) (sides_0_4 : Int) (sides_0_5 : Int) (sides_0_6 : (List Rect)) (sides_0_7 : (List Rect)) (sides_0_8 : (List Piece)) (sides_1_0 : Int) (line_0_0 : Int) : Option ((List EdgeT)) :=
  (iterT (cut_along__cut_edges_3__cut_edges_4_k_l3 ends sides_0_0 sides_0_1 sides_0_2 sides_0_3 sides_0_4 sides_0_5 sides_0_6 sides_0_7 sides_0_8 sides_1_0 line_0_0) 1000 (0, none, none, 0, [])).bind fun x486 => some x486
noncomputable def cut_edges_k_l1 (x458 : Piece) : (Int × (List Int) × (List Int)) → Option ((Int × (List Int) × (List Int)) ⊕ ((List Int) × (List Int))) := fun s472 =>
  if (decide (s472.1 < (x458.Rects.length : Int))) then ((idx x458.Rects s472.1).bind fun x492 => (app s472.2.1 [x492.X, (iadd x492.X x492.W)]).bind fun l494 => (app s472.2.2 [x492.Y, (iadd x492.Y x492.H)]).bind fun l496 => some (.inl ((iadd s472.1 1), l494, l496))) else (some (.inr (s472.2.1, s472.2.2)))
noncomputable def cut_edges_k_l2 (l : LayoutT) : (Int × (List Int) × (List Int)) → Option ((Int × (List Int) × (List Int)) ⊕ ((List Int) × (List Int))) := fun s333 =>
  if (decide (s333.1 < (l.Pieces.length : Int))) then ((idx l.Pieces s333.1).bind fun x458 => (iterT (cut_edges_k_l1 x458) 1000 (0, s333.2.1, s333.2.2)).bind fun x497 => some (.inl ((iadd s333.1 1), x497.1, x497.2))) else (some (.inr (s333.2.1, s333.2.2)))
noncomputable def cut_edges_k_l3 (l : LayoutT) (r501 : (List Int)) (r502 : (List Int)) : Int × (List EdgeT) → Option (Int × (List EdgeT) ⊕ (List EdgeT)) := fun s555 =>
  if (decide (s555.1 < (r502.length : Int))) then ((idx r502 s555.1).bind fun x575 => (cut_along__cut_edges_1__cut_edges_2_k r501 l.Sheet.Name l.Sheet.Material l.Sheet.Gauge l.Sheet.Grain l.Sheet.Width l.Sheet.Height l.Sheet.Clamps l.Sheet.Used l.Pieces x575 x575).bind fun r578 => (app s555.2 r578).bind fun l579 => some (.inl ((iadd s555.1 1), l579))) else (some (.inr s555.2))
noncomputable def cut_edges_k_l4 (l : LayoutT) (r501 : (List Int)) (r502 : (List Int)) : Int × (List EdgeT) → Option (Int × (List EdgeT) ⊕ (List EdgeT)) := fun s633 =>
  if (decide (s633.1 < (r501.length : Int))) then ((idx r501 s633.1).bind fun x653 => (cut_along__cut_edges_3__cut_edges_4_k r502 l.Sheet.Name l.Sheet.Material l.Sheet.Gauge l.Sheet.Grain l.Sheet.Width l.Sheet.Height l.Sheet.Clamps l.Sheet.Used l.Pieces x653 x653).bind fun r656 => (app s633.2 r656).bind fun l657 => some (.inl ((iadd s633.1 1), l657))) else (some (.inr s633.2))
noncomputable def cut_edges_k (l : LayoutT) : Option ((List EdgeT)) :=
  (iterT (cut_edges_k_l2 l) 1000 (0, [], [])).bind fun x498 => (cut_set_k x498.1).bind fun r501 => (cut_set_k x498.2).bind fun r502 => (iterT (cut_edges_k_l3 l r501 r502) 1000 (0, [])).bind fun x580 => (iterT (cut_edges_k_l4 l r501 r502) 1000 (0, x580)).bind fun x658 => some x658
noncomputable def cut_Edges_k (l : LayoutT) : Option ((List EdgeT) × Int) :=
  (cut_Validate_k l).bind fun r4 => if (r4 != 0) then (none) else ((cut_edges_k l).bind fun r6 => some (r6, 0))
noncomputable def cut_start_k_l1 (l : LayoutT) : Int × (List (List Bool)) → Option (Int × (List (List Bool)) ⊕ (List (List Bool))) := fun s81 =>
  if (decide (s81.1 < (l.Pieces.length : Int))) then ((idx l.Pieces s81.1).bind fun x107 => (mk (x107.Cuts.length : Int) false).bind fun l112 => (app s81.2 [l112]).bind fun l113 => some (.inl ((iadd s81.1 1), l113))) else (some (.inr s81.2))
noncomputable def cut_start_k (l : LayoutT) (edges : Int) : Option (cut_State) :=
  (mk edges false).bind fun l9 => (mk (l.Pieces.length : Int) false).bind fun l10 => (mk (l.Pieces.length : Int) 0).bind fun l11 => (mk (l.Pieces.length : Int) false).bind fun l12 => (iterT (cut_start_k_l1 l) 1000 (0, [])).bind fun x114 => some (cut_State.mk l9 x114 l10 l11 l12)
noncomputable def cut_State_fits_k_l1 (st : cut_State) (l : LayoutT) : Int → Option (Int ⊕ Unit) := fun s45 =>
  if (decide (s45 < (l.Pieces.length : Int))) then ((idx l.Pieces s45).bind fun x62 => (idx st.Holes s45).bind fun x65 => if ((x65.length : Int) != (x62.Cuts.length : Int)) then (none) else (some (.inl (iadd s45 1)))) else (some (.inr ()))
noncomputable def cut_State_fits_k (st : cut_State) (l : LayoutT) (edges : Int) : Option (Bool) :=
  if ((st.Cut.length : Int) != edges) then (none) else (if ((st.Holes.length : Int) != (l.Pieces.length : Int)) then (none) else (if ((st.Done.length : Int) != (l.Pieces.length : Int)) then (none) else (if ((st.Joints.length : Int) != (l.Pieces.length : Int)) then (none) else (if ((st.Fallen.length : Int) != (l.Pieces.length : Int)) then (none) else ((iterT (cut_State_fits_k_l1 st l) 1000 0).bind fun x66 => some true)))))
noncomputable def slices_Index_Lbool_bool_k_l1 (s0 : (List Bool)) : Unit → Option (Unit ⊕ Unit) := fun s3 =>
  if (decide (0 < (s0.length : Int))) then (none) else (some (.inr ()))
noncomputable def slices_Index_Lbool_bool_k (s0 : (List Bool)) (v : Bool) : Option (Int) :=
  (iterT (slices_Index_Lbool_bool_k_l1 s0) 1000 ()).bind fun x4 => some (-1)
noncomputable def slices_Contains_Lbool_bool_k (s0 : (List Bool)) (v : Bool) : Option (Bool) :=
  (slices_Index_Lbool_bool_k s0 v).bind fun r2 => some (decide (r2 ≥ 0))
noncomputable def cut_of_k (e : EdgeT) (piece : Int) : Option (Bool) :=
  (if (e.A == piece) then (some true) else (some (e.B == piece))).bind fun j1 => some j1
noncomputable def cut_State_free_k_l1 (st : cut_State) (all : (List EdgeT)) (piece : Int) : Int → Option (Int ⊕ (Unit ⊕ Unit)) := fun s63 =>
  if (decide (s63 < (all.length : Int))) then ((idx all s63).bind fun x86 => ((cut_of_k x86 piece).bind fun r90 => if r90 then ((idx st.Cut s63).bind fun x91 => some (!x91)) else (some false)).bind fun j89 => if j89 then (some (.inr (.inl ()))) else (some (.inl (iadd s63 1)))) else (some (.inr (.inr (()))))
noncomputable def cut_State_free_k (st : cut_State) (all : (List EdgeT)) (piece : Int) : Option (Bool) :=
  (iterT (cut_State_free_k_l1 st all piece) 1000 0).bind fun x92 => match x92 with | .inl j93 => some false | .inr j94 => some true
noncomputable def cut_State_order_k (st : cut_State) (all : (List EdgeT)) (x2 : ItemT) : Option (Bool) :=
  (idx st.Fallen x2.Piece).bind fun x4 => if x4 then (none) else (if (decide (x2.Hole ≥ 0)) then (none) else ((idx st.Done x2.Piece).bind fun x9 => if x9 then (none) else ((idx st.Holes x2.Piece).bind fun x10 => (slices_Contains_Lbool_bool_k x10 false).bind fun r11 => if r11 then (none) else ((cut_State_free_k st all x2.Piece).bind fun r12 => some (!r12)))))
noncomputable def cut_Small_k_l1 (x0 : Piece) : (Int × Int × Int × Int × Int) → Option ((Int × Int × Int × Int × Int) ⊕ (Int × Int × Int × Int)) := fun s37 =>
  if (decide (s37.1 < (x0.Rects.length : Int))) then ((idx x0.Rects s37.1).bind fun x51 => (geom_ValidRect_k x51).bind fun r53 => if (!r53) then (none) else (if (s37.2.2.2.1 == 0) then (some (.inl ((iadd s37.1 1), x51.X, x51.Y, x51.W, x51.H))) else (none))) else (some (.inr (s37.2.1, s37.2.2.1, s37.2.2.2.1, s37.2.2.2.2)))
noncomputable def cut_Small_k (x0 : Piece) : Option (Bool) :=
  (iterT (cut_Small_k_l1 x0) 1000 (0, 0, 0, 0, 0)).bind fun x54 => some (decide ((imin x54.2.2.1 x54.2.2.2) < 7200))
noncomputable def cut_InRegion_1_k (r0 : Rect) (a_0 : Int) (a_1 : Int) (a_2 : Int) (a_3 : Int) : Option (Bool) :=
  (geom_Inside_k (Rect.mk a_0 a_1 a_2 a_3) r0).bind fun r2 => some r2
noncomputable def slices_IndexFunc_Lapi_Rect_api_Rect__cut_InRegion_1_k_l1 (s0 : (List Rect)) (f_0_0 : Int) (f_0_1 : Int) (f_0_2 : Int) (f_0_3 : Int) : Int → Option (Int ⊕ Unit) := fun s37 =>
  if (decide (s37 < (s0.length : Int))) then ((idx s0 s37).bind fun x52 => (cut_InRegion_1_k x52 f_0_0 f_0_1 f_0_2 f_0_3).bind fun r53 => if r53 then (none) else (some (.inl (iadd s37 1)))) else (some (.inr ()))
noncomputable def slices_IndexFunc_Lapi_Rect_api_Rect__cut_InRegion_1_k (s0 : (List Rect)) (f_0_0 : Int) (f_0_1 : Int) (f_0_2 : Int) (f_0_3 : Int) : Option (Int) :=
  (iterT (slices_IndexFunc_Lapi_Rect_api_Rect__cut_InRegion_1_k_l1 s0 f_0_0 f_0_1 f_0_2 f_0_3) 1000 0).bind fun x54 => some (-1)
noncomputable def slices_ContainsFunc_Lapi_Rect_api_Rect__cut_InRegion_1_k (s0 : (List Rect)) (f_0_0 : Int) (f_0_1 : Int) (f_0_2 : Int) (f_0_3 : Int) : Option (Bool) :=
  (slices_IndexFunc_Lapi_Rect_api_Rect__cut_InRegion_1_k s0 f_0_0 f_0_1 f_0_2 f_0_3).bind fun r2 => some (decide (r2 ≥ 0))
noncomputable def cut_InRegion_k_l1 (l : (List Rect)) (s1 : Spot) : Unit → Option (Unit ⊕ Unit) := fun s19 =>
  if (decide (0 < ([(Rect.mk (isub s1.X 1) (isub s1.Y 1) 1 1), (Rect.mk s1.X (isub s1.Y 1) 1 1), (Rect.mk (isub s1.X 1) s1.Y 1 1), (Rect.mk s1.X s1.Y 1 1)].length : Int))) then ((idx [(Rect.mk (isub s1.X 1) (isub s1.Y 1) 1 1), (Rect.mk s1.X (isub s1.Y 1) 1 1), (Rect.mk (isub s1.X 1) s1.Y 1 1), (Rect.mk s1.X s1.Y 1 1)] 0).bind fun x33 => (slices_ContainsFunc_Lapi_Rect_api_Rect__cut_InRegion_1_k l x33.X x33.Y x33.W x33.H).bind fun r35 => if (!r35) then (some (.inr ())) else (none)) else (none)
noncomputable def cut_InRegion_k (l : (List Rect)) (s1 : Spot) : Option (Bool) :=
  if (decide (s1.X < (-4194304))) then (none) else (if (decide (s1.X > 4194304)) then (none) else (if (decide (s1.Y < (-4194304))) then (none) else (if (decide (s1.Y > 4194304)) then (none) else ((iterT (cut_InRegion_k_l1 l s1) 1000 ()).bind fun x36 => some false))))
noncomputable def cut_gap_k (s0 : Spot) (l : Segment) : Option (Int) :=
  some (imax (imax (imax (imax 0 (isub l.X1 s0.X)) (isub s0.X l.X2)) (isub l.Y1 s0.Y)) (isub s0.Y l.Y2))
noncomputable def cut_State_lead_k_l1 (l : LayoutT) (x3 : ItemT) : Int → Option (Int ⊕ Unit) := fun s41 =>
  if (decide (s41 < (l.Pieces.length : Int))) then ((idx l.Pieces s41).bind fun x55 => (cut_InRegion_k x55.Rects x3.Lead).bind fun r57 => if r57 then (none) else (some (.inl (iadd s41 1)))) else (some (.inr ()))
noncomputable def cut_State_lead_k_l2 (st : cut_State) (all : (List EdgeT)) (x3 : ItemT) : Int → Option (Int ⊕ Unit) := fun s135 =>
  if (decide (s135 < (all.length : Int))) then ((idx all s135).bind fun x164 => ((cut_of_k x164 x3.Piece).bind fun r169 => if r169 then ((idx st.Cut s135).bind fun x170 => if x170 then (some false) else ((cut_gap_k x3.Lead x164.Line).bind fun r171 => some (decide (r171 ≤ 7200)))) else (some false)).bind fun j168 => if j168 then (some (.inr ())) else (some (.inl (iadd s135 1)))) else (none)
noncomputable def cut_State_lead_k (st : cut_State) (l : LayoutT) (all : (List EdgeT)) (x3 : ItemT) : Option (Bool) :=
  if (decide (x3.Hole ≥ 0)) then (none) else (if (decide (x3.Lead.X < 0)) then (none) else (if (decide (x3.Lead.X > l.Sheet.Width)) then (none) else (if (decide (x3.Lead.Y < 0)) then (none) else (if (decide (x3.Lead.Y > l.Sheet.Height)) then (none) else ((cut_InRegion_k l.Sheet.Clamps x3.Lead).bind fun r4 => if r4 then (none) else ((iterT (cut_State_lead_k_l1 l x3) 1000 0).bind fun x58 => (iterT (cut_State_lead_k_l2 st all x3) 1000 0).bind fun x172 => some true))))))
noncomputable def slices_Clone_Lbool_bool (s : (List Bool)) : Option (List Bool) := app [] s
noncomputable def slices_Clone_Lint_int (s : (List Int)) : Option (List Int) := app [] s
noncomputable def cut_State_clone_k_l1 (st : cut_State) : Int × (List (List Bool)) → Option (Int × (List (List Bool)) ⊕ (List (List Bool))) := fun s81 =>
  if (decide (s81.1 < (st.Holes.length : Int))) then ((idx st.Holes s81.1).bind fun x107 => (slices_Clone_Lbool_bool x107).bind fun r112 => (app s81.2 [r112]).bind fun l113 => some (.inl ((iadd s81.1 1), l113))) else (some (.inr s81.2))
noncomputable def cut_State_clone_k (st : cut_State) : Option (cut_State) :=
  (slices_Clone_Lbool_bool st.Cut).bind fun r9 => (slices_Clone_Lbool_bool st.Done).bind fun r10 => (slices_Clone_Lint_int st.Joints).bind fun r11 => (slices_Clone_Lbool_bool st.Fallen).bind fun r12 => (iterT (cut_State_clone_k_l1 st) 1000 (0, [])).bind fun x114 => some (cut_State.mk r9 x114 r10 r11 r12)
noncomputable def cut_do_k_k1 (s97 : Int × (List Bool)) : (List Bool) → Option (Int × (List Bool) ⊕ (List Bool)) := fun j117 =>
  some (.inl ((iadd s97.1 1), j117))
noncomputable def cut_do_k_l2 (all : (List EdgeT)) (x3 : ItemT) : Int × (List Bool) → Option (Int × (List Bool) ⊕ (List Bool)) := fun s97 =>
  if (decide (s97.1 < (all.length : Int))) then ((idx all s97.1).bind fun x119 => (cut_of_k x119 x3.Piece).bind fun r121 => if r121 then ((idx s97.2 s97.1).bind fun x123 => cut_do_k_k1 s97 (List.set s97.2 (Int.toNat s97.1) true)) else (cut_do_k_k1 s97 s97.2)) else (some (.inr s97.2))
noncomputable def cut_do_k_k3 (s205 : Int × (List Bool)) : (List Bool) → Option (Int × (List Bool) ⊕ (List Bool)) := fun j234 =>
  some (.inl ((iadd s205.1 1), j234))
noncomputable def cut_do_k_l4 (l : LayoutT) (all : (List EdgeT)) (x3 : ItemT) (r28 : cut_State) (x124 : (List Bool)) : Int × (List Bool) → Option (Int × (List Bool) ⊕ (List Bool)) := fun s205 =>
  if (decide (s205.1 < (l.Pieces.length : Int))) then (((cut_State_free_k (cut_State.mk x124 r28.Holes (List.set r28.Done (Int.toNat x3.Piece) true) (List.set r28.Joints (Int.toNat x3.Piece) x3.Joints) s205.2) all s205.1).bind fun r239 => if r239 then ((idx (List.set r28.Done (Int.toNat x3.Piece) true) s205.1).bind fun x240 => if x240 then ((idx (List.set r28.Joints (Int.toNat x3.Piece) x3.Joints) s205.1).bind fun x241 => some (!(decide (x241 > 0)))) else (some true)) else (some false)).bind fun j238 => if j238 then ((idx s205.2 s205.1).bind fun x243 => cut_do_k_k3 s205 (List.set s205.2 (Int.toNat s205.1) true)) else (cut_do_k_k3 s205 s205.2)) else (some (.inr s205.2))
noncomputable def cut_do_k (l : LayoutT) (all : (List EdgeT)) (st : cut_State) (x3 : ItemT) : Option (cut_State × Int) :=
  (cut_State_fits_k st l (all.length : Int)).bind fun r15 => if r15 then (if (decide (x3.Piece < 0)) then (none) else (if (decide (x3.Piece ≥ (l.Pieces.length : Int))) then (none) else (if (decide (x3.Hole < (-1))) then (none) else ((idx l.Pieces x3.Piece).bind fun x18 => if (decide (x3.Hole ≥ (x18.Cuts.length : Int))) then (none) else (if (decide (x3.Joints < 0)) then (none) else (if (decide (x3.Joints > 4)) then (none) else (if (decide (x3.Hole ≥ 0)) then (none) else ((cut_State_order_k st all (ItemT.mk x3.Piece x3.Hole x3.Joints (Spot.mk x3.Lead.X x3.Lead.Y))).bind fun r20 => if (!r20) then (none) else (if (decide (x3.Hole < 0)) then (if (x3.Joints == 0) then ((idx l.Pieces x3.Piece).bind fun x23 => (cut_Small_k x23).bind fun r24 => if r24 then (none) else ((cut_State_lead_k st l all (ItemT.mk x3.Piece x3.Hole x3.Joints (Spot.mk x3.Lead.X x3.Lead.Y))).bind fun r26 => if (!r26) then (none) else ((cut_State_clone_k st).bind fun r28 => if (decide (x3.Hole ≥ 0)) then (none) else ((idx r28.Done x3.Piece).bind fun x81 => (idx r28.Joints x3.Piece).bind fun x82 => (iterT (cut_do_k_l2 all x3) 1000 (0, r28.Cut)).bind fun x124 => (iterT (cut_do_k_l4 l all x3 r28 x124) 1000 (0, r28.Fallen)).bind fun x244 => some ((cut_State.mk x124 r28.Holes (List.set r28.Done (Int.toNat x3.Piece) true) (List.set r28.Joints (Int.toNat x3.Piece) x3.Joints) x244), 0))))) else (none)) else (none)))))))))) else (none)
noncomputable def cut_Falls_1_k'_k1 (s65 : Int × (List Int)) : (List Int) → Option (Int × (List Int) ⊕ (List Int)) := fun j88 =>
  some (.inl ((iadd s65.1 1), j88))
noncomputable def cut_Falls_1_k'_l2 (st : cut_State) (h0_0 : (List Bool)) : Int × (List Int) → Option (Int × (List Int) ⊕ (List Int)) := fun s65 =>
  if (decide (s65.1 < (st.Fallen.length : Int))) then ((idx st.Fallen s65.1).bind fun x90 => (if x90 then ((idx h0_0 s65.1).bind fun x93 => some (!x93)) else (some false)).bind fun j92 => if j92 then ((app s65.2 [s65.1]).bind fun l95 => cut_Falls_1_k'_k1 s65 l95) else (cut_Falls_1_k'_k1 s65 s65.2)) else (some (.inr s65.2))
noncomputable def cut_Falls_1_k' (st : cut_State) (h0_0 : (List Bool)) (h2 : (List (List Int))) : Option ((List (List Int))) :=
  (iterT (cut_Falls_1_k'_l2 st h0_0) 1000 (0, [])).bind fun x96 => (app h2 [x96]).bind fun l98 => some l98
noncomputable def cut_run__cut_Falls_1_k_l1 (l : LayoutT) (items : (List ItemT)) (r2 : (List EdgeT) × Int) : (Int × (List (List Int)) × (List Bool) × (List (List Bool)) × (List Bool) × (List Int) × (List Bool) × (List Bool)) → Option ((Int × (List (List Int)) × (List Bool) × (List (List Bool)) × (List Bool) × (List Int) × (List Bool) × (List Bool)) ⊕ ((List Bool) × (List (List Bool)) × (List Bool) × (List Int) × (List Bool) × (List (List Int)) × (List Bool))) := fun s57 =>
  if (decide (s57.1 < (items.length : Int))) then ((idx items s57.1).bind fun x77 => (cut_do_k l r2.1 (cut_State.mk s57.2.2.1 s57.2.2.2.1 s57.2.2.2.2.1 s57.2.2.2.2.2.1 s57.2.2.2.2.2.2.1) x77).bind fun r79 => if (r79.2 != 0) then (none) else ((cut_Falls_1_k' r79.1 s57.2.2.2.2.2.2.2 s57.2.1).bind fun r81 => some (.inl ((iadd s57.1 1), r81, r79.1.Cut, r79.1.Holes, r79.1.Done, r79.1.Joints, r79.1.Fallen, r79.1.Fallen)))) else (some (.inr (s57.2.2.1, s57.2.2.2.1, s57.2.2.2.2.1, s57.2.2.2.2.2.1, s57.2.2.2.2.2.2.1, s57.2.1, s57.2.2.2.2.2.2.2)))
noncomputable def cut_run__cut_Falls_1_k (l : LayoutT) (items : (List ItemT)) (h1 : (List Bool)) (h3 : (List (List Int))) : Option (cut_State × Int × Int × (List Bool) × (List (List Bool)) × (List Bool) × (List Int) × (List Bool) × (List (List Int)) × (List Bool)) :=
  (cut_Edges_k l).bind fun r2 => if (r2.2 != 0) then (none) else (if (decide ((items.length : Int) > 128)) then (none) else ((cut_start_k l (r2.1.length : Int)).bind fun r4 => (iterT (cut_run__cut_Falls_1_k_l1 l items r2) 1000 (0, h3, r4.Cut, r4.Holes, r4.Done, r4.Joints, r4.Fallen, h1)).bind fun x82 => some ((cut_State.mk x82.1 x82.2.1 x82.2.2.1 x82.2.2.2.1 x82.2.2.2.2.1), 0, 0, x82.1, x82.2.1, x82.2.2.1, x82.2.2.2.1, x82.2.2.2.2.1, x82.2.2.2.2.2.1, x82.2.2.2.2.2.2)))
noncomputable def cut_Falls_k (l : LayoutT) (items : (List ItemT)) : Option ((List (List Int)) × Int) :=
  (mk (l.Pieces.length : Int) false).bind fun l2 => (cut_run__cut_Falls_1_k l items l2 []).bind fun r4 => if (r4.2.2.1 != 0) then (none) else (some (r4.2.2.2.2.2.2.2.2.1, 0))
noncomputable def sheetmetalref06_SameInts_k_l1 (a : (List Int)) (b : (List Int)) : Int → Option (Int ⊕ Unit) := fun s53 =>
  if (decide (s53 < (a.length : Int))) then ((idx a s53).bind fun x76 => (idx b s53).bind fun x77 => if (x76 != x77) then (none) else (some (.inl (iadd s53 1)))) else (some (.inr ()))
noncomputable def sheetmetalref06_SameInts_k (a : (List Int)) (b : (List Int)) : Option (Bool) :=
  if ((a.length : Int) != (b.length : Int)) then (none) else ((iterT (sheetmetalref06_SameInts_k_l1 a b) 1000 0).bind fun x78 => some true)
noncomputable def sheetmetallaw07_known_k : Option (Bool) :=
  (cut_Edges_k (LayoutT.mk (Sheet.mk (ByteArray.mk #[115]) (ByteArray.mk #[115, 116, 101, 101, 108]) 10 0 57600 57600 [] []) [(Piece.mk (ByteArray.mk #[97]) (ByteArray.mk #[115, 116, 101, 101, 108]) 10 0 [(Rect.mk 0 0 14400 14400)] [] []), (Piece.mk (ByteArray.mk #[98]) (ByteArray.mk #[115, 116, 101, 101, 108]) 10 0 [(Rect.mk 14400 0 14400 14400)] [] [])])).bind fun r2 => (cut_Falls_k (LayoutT.mk (Sheet.mk (ByteArray.mk #[115]) (ByteArray.mk #[115, 116, 101, 101, 108]) 10 0 57600 57600 [] []) [(Piece.mk (ByteArray.mk #[97]) (ByteArray.mk #[115, 116, 101, 101, 108]) 10 0 [(Rect.mk 0 0 14400 14400)] [] []), (Piece.mk (ByteArray.mk #[98]) (ByteArray.mk #[115, 116, 101, 101, 108]) 10 0 [(Rect.mk 14400 0 14400 14400)] [] [])]) [(ItemT.mk 0 (-1) 0 (Spot.mk 0 0)), (ItemT.mk 1 (-1) 0 (Spot.mk 28800 0))]).bind fun r4 => if (r2.2 == 0) then (if ((r2.1.length : Int) == 7) then (if (r4.2 == 0) then (if ((r4.1.length : Int) == 2) then ((idx r4.1 0).bind fun x9 => (sheetmetalref06_SameInts_k x9 [0]).bind fun r10 => if r10 then ((idx r4.1 1).bind fun x11 => (sheetmetalref06_SameInts_k x11 [1]).bind fun r12 => some r12) else (none)) else (none)) else (none)) else (none)) else (none)
noncomputable def geom_within (n : Int) (most : Int) : Option (Bool) :=
  (if (decide ((ineg most) ≤ n)) then (some (decide (n ≤ most))) else (some false)).bind fun j1 => some j1
noncomputable def geom_ValidRect_1 (x0 : Int) (w : Int) : Option (Bool) :=
  ((geom_within x0 1048576).bind fun r3 => if r3 then (if (decide (w > 0)) then (if (decide (w ≤ 2097152)) then (some (decide ((iadd x0 w) ≤ 1048576))) else (some false)) else (some false)) else (some false)).bind fun j2 => some j2
noncomputable def geom_ValidRect (r0 : Rect) : Option (Bool) :=
  ((geom_ValidRect_1 r0.X r0.W).bind fun r4 => if r4 then ((geom_ValidRect_1 r0.Y r0.H).bind fun r5 => some r5) else (some false)).bind fun j3 => some j3
noncomputable def cut_Small_k1 (s41 : Int × Int × Int × Int × Int) : (Int × Int × Int × Int) → Option ((Int × Int × Int × Int × Int) ⊕ (Int × Int × Int × Int)) := fun j55 =>
  some (.inl ((iadd s41.1 1), j55.1, j55.2.1, j55.2.2.1, j55.2.2.2))
noncomputable def cut_Small_l2 (x0 : Piece) : (Int × Int × Int × Int × Int) → Option ((Int × Int × Int × Int × Int) ⊕ (Int × Int × Int × Int)) := fun s41 =>
  if (decide (s41.1 < (x0.Rects.length : Int))) then ((idx x0.Rects s41.1).bind fun x57 => (geom_ValidRect x57).bind fun r59 => if (!r59) then (cut_Small_k1 s41 (s41.2.1, s41.2.2.1, s41.2.2.2.1, s41.2.2.2.2)) else (if (s41.2.2.2.1 == 0) then (cut_Small_k1 s41 (x57.X, x57.Y, x57.W, x57.H)) else (cut_Small_k1 s41 ((imin s41.2.1 x57.X), (imin s41.2.2.1 x57.Y), (isub (imax (iadd s41.2.1 s41.2.2.2.1) (iadd x57.X x57.W)) (imin s41.2.1 x57.X)), (isub (imax (iadd s41.2.2.1 s41.2.2.2.2) (iadd x57.Y x57.H)) (imin s41.2.2.1 x57.Y)))))) else (some (.inr (s41.2.1, s41.2.2.1, s41.2.2.2.1, s41.2.2.2.2)))
noncomputable def cut_Small (x0 : Piece) : Option (Bool) :=
  (loopT (cut_Small_l2 x0) (0, 0, 0, 0, 0)).bind fun x60 => some (decide ((imin x60.2.2.1 x60.2.2.2) < 7200))
noncomputable def sheetmetalref06_near (n : Int) : Option (Bool) :=
  (if (decide (n ≥ (-1048576))) then (some (decide (n ≤ 1048576))) else (some false)).bind fun j1 => some j1
noncomputable def sheetmetalref06_Right (r0 : Rect) : Option (Bool) :=
  ((sheetmetalref06_near r0.X).bind fun r9 => if r9 then ((sheetmetalref06_near r0.Y).bind fun r10 => if r10 then (if (decide (r0.W < 1)) then (some true) else (if (decide (r0.H < 1)) then (some true) else (if (decide (r0.W > 2097152)) then (some true) else (some (decide (r0.H > 2097152)))))) else (some true)) else (some true)).bind fun j8 => if j8 then (some false) else (((sheetmetalref06_near (iadd r0.X r0.W)).bind fun r14 => if r14 then ((sheetmetalref06_near (iadd r0.Y r0.H)).bind fun r15 => some r15) else (some false)).bind fun j13 => some j13)
noncomputable def sheetmetalref07_Small_k1 (s65 : Bool × Int × Int × Int × Int × Int) : (Bool × Int × Int × Int × Int) → Option ((Bool × Int × Int × Int × Int × Int) ⊕ (Bool × Int × Int × Int × Int)) := fun j88 =>
  some (.inl (j88.1, j88.2.1, j88.2.2.1, j88.2.2.2.1, j88.2.2.2.2, (iadd s65.2.2.2.2.2 1)))
noncomputable def sheetmetalref07_Small_k2 (s65 : Bool × Int × Int × Int × Int × Int) (x90 : Rect) : (Bool × Int × Int × Int × Int) → Option ((Bool × Int × Int × Int × Int × Int) ⊕ (Bool × Int × Int × Int × Int)) := fun j95 =>
  sheetmetalref07_Small_k1 s65 (j95.1, (imin j95.2.1 x90.X), (imin j95.2.2.1 x90.Y), (imax j95.2.2.2.1 (iadd x90.X x90.W)), (imax j95.2.2.2.2 (iadd x90.Y x90.H)))
noncomputable def sheetmetalref07_Small_l3 (x0 : Piece) : (Bool × Int × Int × Int × Int × Int) → Option ((Bool × Int × Int × Int × Int × Int) ⊕ (Bool × Int × Int × Int × Int)) := fun s65 =>
  if (decide (s65.2.2.2.2.2 < (x0.Rects.length : Int))) then ((idx x0.Rects s65.2.2.2.2.2).bind fun x90 => (sheetmetalref06_Right x90).bind fun r94 => if (!r94) then (sheetmetalref07_Small_k1 s65 (s65.1, s65.2.1, s65.2.2.1, s65.2.2.2.1, s65.2.2.2.2.1)) else (if (!s65.1) then (sheetmetalref07_Small_k2 s65 x90 (true, x90.X, x90.Y, (iadd x90.X x90.W), (iadd x90.Y x90.H))) else (sheetmetalref07_Small_k2 s65 x90 (s65.1, s65.2.1, s65.2.2.1, s65.2.2.2.1, s65.2.2.2.2.1)))) else (some (.inr (s65.1, s65.2.1, s65.2.2.1, s65.2.2.2.1, s65.2.2.2.2.1)))
noncomputable def sheetmetalref07_Small (x0 : Piece) : Option (Bool) :=
  (loopT (sheetmetalref07_Small_l3 x0) (false, 0, 0, 0, 0, 0)).bind fun x96 => (if x96.1 then (some (decide ((imin (isub x96.2.2.2.1 x96.2.1) (isub x96.2.2.2.2 x96.2.2.1)) < 7200))) else (some true)).bind fun j97 => some j97
noncomputable def geom_Inside (a : Rect) (b : Rect) : Option (Bool) :=
  ((geom_ValidRect a).bind fun r4 => if r4 then ((geom_ValidRect b).bind fun r5 => if r5 then (if (decide (b.X ≤ a.X)) then (if (decide ((iadd a.X a.W) ≤ (iadd b.X b.W))) then (if (decide (b.Y ≤ a.Y)) then (some (decide ((iadd a.Y a.H) ≤ (iadd b.Y b.H)))) else (some false)) else (some false)) else (some false)) else (some false)) else (some false)).bind fun j3 => some j3
noncomputable def cut_InRegion_1 (r0 : Rect) (a_0 : Int) (a_1 : Int) (a_2 : Int) (a_3 : Int) : Option (Bool) :=
  (geom_Inside (Rect.mk a_0 a_1 a_2 a_3) r0).bind fun r2 => some r2
noncomputable def slices_IndexFunc_Lapi_Rect_api_Rect__cut_InRegion_1_l1 (s0 : (List Rect)) (f_0_0 : Int) (f_0_1 : Int) (f_0_2 : Int) (f_0_3 : Int) : Int → Option (Int ⊕ (Int ⊕ Unit)) := fun s39 =>
  if (decide (s39 < (s0.length : Int))) then ((idx s0 s39).bind fun x54 => (cut_InRegion_1 x54 f_0_0 f_0_1 f_0_2 f_0_3).bind fun r55 => if r55 then (some (.inr (.inl s39))) else (some (.inl (iadd s39 1)))) else (some (.inr (.inr (()))))
noncomputable def slices_IndexFunc_Lapi_Rect_api_Rect__cut_InRegion_1 (s0 : (List Rect)) (f_0_0 : Int) (f_0_1 : Int) (f_0_2 : Int) (f_0_3 : Int) : Option (Int) :=
  (loopT (slices_IndexFunc_Lapi_Rect_api_Rect__cut_InRegion_1_l1 s0 f_0_0 f_0_1 f_0_2 f_0_3) 0).bind fun x56 => match x56 with | .inl j57 => some j57 | .inr j58 => some (-1)
noncomputable def slices_ContainsFunc_Lapi_Rect_api_Rect__cut_InRegion_1 (s0 : (List Rect)) (f_0_0 : Int) (f_0_1 : Int) (f_0_2 : Int) (f_0_3 : Int) : Option (Bool) :=
  (slices_IndexFunc_Lapi_Rect_api_Rect__cut_InRegion_1 s0 f_0_0 f_0_1 f_0_2 f_0_3).bind fun r2 => some (decide (r2 ≥ 0))
noncomputable def cut_InRegion_l1 (l : (List Rect)) (s1 : Spot) : Int → Option (Int ⊕ (Unit ⊕ Unit)) := fun s41 =>
  if (decide (s41 < ([(Rect.mk (isub s1.X 1) (isub s1.Y 1) 1 1), (Rect.mk s1.X (isub s1.Y 1) 1 1), (Rect.mk (isub s1.X 1) s1.Y 1 1), (Rect.mk s1.X s1.Y 1 1)].length : Int))) then ((idx [(Rect.mk (isub s1.X 1) (isub s1.Y 1) 1 1), (Rect.mk s1.X (isub s1.Y 1) 1 1), (Rect.mk (isub s1.X 1) s1.Y 1 1), (Rect.mk s1.X s1.Y 1 1)] s41).bind fun x55 => (slices_ContainsFunc_Lapi_Rect_api_Rect__cut_InRegion_1 l x55.X x55.Y x55.W x55.H).bind fun r57 => if (!r57) then (some (.inr (.inl ()))) else (some (.inl (iadd s41 1)))) else (some (.inr (.inr (()))))
noncomputable def cut_InRegion (l : (List Rect)) (s1 : Spot) : Option (Bool) :=
  (if (decide (s1.X < (-4194304))) then (some true) else (if (decide (s1.X > 4194304)) then (some true) else (if (decide (s1.Y < (-4194304))) then (some true) else (some (decide (s1.Y > 4194304)))))).bind fun j2 => if j2 then (some false) else ((loopT (cut_InRegion_l1 l s1) 0).bind fun x58 => match x58 with | .inl j59 => some false | .inr j60 => some true)
noncomputable def sheetmetalref06_Within (a : Rect) (b : Rect) : Option (Bool) :=
  ((sheetmetalref06_Right a).bind fun r4 => if r4 then ((sheetmetalref06_Right b).bind fun r5 => if r5 then (if (decide (a.X ≥ b.X)) then (if (decide (a.Y ≥ b.Y)) then (if (decide ((iadd a.X a.W) ≤ (iadd b.X b.W))) then (some (decide ((iadd a.Y a.H) ≤ (iadd b.Y b.H)))) else (some false)) else (some false)) else (some false)) else (some false)) else (some false)).bind fun j3 => some j3
noncomputable def sheetmetalref07_square_l1 (l : (List Rect)) (x1 : Int) (y : Int) : Int → Option (Int ⊕ (Unit ⊕ Unit)) := fun s39 =>
  if (decide (s39 < (l.length : Int))) then ((idx l s39).bind fun x54 => (sheetmetalref06_Within (Rect.mk x1 y 1 1) x54).bind fun r55 => if r55 then (some (.inr (.inl ()))) else (some (.inl (iadd s39 1)))) else (some (.inr (.inr (()))))
noncomputable def sheetmetalref07_square (l : (List Rect)) (x1 : Int) (y : Int) : Option (Bool) :=
  (loopT (sheetmetalref07_square_l1 l x1 y) 0).bind fun x56 => match x56 with | .inl j57 => some true | .inr j58 => some false
noncomputable def sheetmetalref07_InRegion (l : (List Rect)) (s1 : Spot) : Option (Bool) :=
  (if (decide (s1.X ≤ (-1048576))) then (some true) else (if (decide (s1.X ≥ 1048576)) then (some true) else (if (decide (s1.Y ≤ (-1048576))) then (some true) else (some (decide (s1.Y ≥ 1048576)))))).bind fun j2 => if j2 then (some false) else (((sheetmetalref07_square l s1.X s1.Y).bind fun r8 => if r8 then ((sheetmetalref07_square l (isub s1.X 1) s1.Y).bind fun r9 => if r9 then ((sheetmetalref07_square l s1.X (isub s1.Y 1)).bind fun r10 => if r10 then ((sheetmetalref07_square l (isub s1.X 1) (isub s1.Y 1)).bind fun r11 => some r11) else (some false)) else (some false)) else (some false)).bind fun j7 => some j7)
noncomputable def sheetmetallaw07_CutSmall (x0 : Piece) (l : (List Rect)) (s2 : Spot) : Option (Bool) :=
  (if (decide ((x0.Rects.length : Int) > 200)) then (some true) else (some (decide ((l.length : Int) > 200)))).bind fun j4 => if j4 then ((sheetmetallaw07_known_k).bind fun r6 => some r6) else (((cut_Small x0).bind fun r18 => (sheetmetalref07_Small x0).bind fun r19 => if (r18 == r19) then ((cut_InRegion l s2).bind fun r20 => (sheetmetalref07_InRegion l s2).bind fun r21 => if (r20 == r21) then ((sheetmetallaw07_known_k).bind fun r22 => some r22) else (some false)) else (some false)).bind fun j17 => some j17)
end Go.SM
