/- The Go functions as plain functions; written by a program out of the translation. -/
import Derived.Test.YtiodkdpfkchkjaaGeTypes
set_option linter.unusedVariables false
set_option linter.unusedSimpArgs false
set_option linter.unusedSectionVars false
namespace Go.SM
open Go Go.VI
noncomputable def geom_within (n : Int) (most : Int) : Option (Bool) :=
  (if (decide ((ineg most) ≤ n)) then (some (decide (n ≤ most))) else (some false)).bind fun j1 => some j1
noncomputable def geom_sign (n : Int) : Option (Int) :=
  if (decide (n < 0)) then (some (-1)) else (if (decide (n > 0)) then (some 1) else (some 0))
noncomputable def geom_signOf (r0 : Root) : Option (Int) :=
  (geom_sign r0.A).bind fun r3 => (geom_sign r0.B).bind fun r4 => if (decide ((imul r3 r4) ≥ 0)) then ((geom_sign (iadd r3 r4)).bind fun r8 => some r8) else ((geom_sign (isub (imul r0.A r0.A) (imul (imul 3 r0.B) r0.B))).bind fun r10 => some (imul r3 r10))
noncomputable def geom_SignRoot (r0 : Root) : Option (Int × Int) :=
  ((geom_within r0.A 268435456).bind fun r9 => if r9 then ((geom_within r0.B 268435456).bind fun r10 => some (!r10)) else (some true)).bind fun j8 => if j8 then (some (0, 4)) else ((geom_signOf r0).bind fun r12 => some (r12, 0))
noncomputable def sheetmetalref01_within (n : Int) (lo : Int) (hi : Int) : Option (Bool) :=
  (if (decide (n ≥ lo)) then (some (decide (n ≤ hi))) else (some false)).bind fun j1 => some j1
noncomputable def sheetmetalref01_rootIn (r0 : Root) (most : Int) : Option (Bool) :=
  ((sheetmetalref01_within r0.A (ineg most) most).bind fun r4 => if r4 then ((sheetmetalref01_within r0.B (ineg most) most).bind fun r5 => some r5) else (some false)).bind fun j3 => some j3
noncomputable def sheetmetalref01_sign_k1 (r0 : Root) (j2 : Int) : Int → Option (Int) := fun j4 =>
  (if (j2 == j4) then (some true) else (some (j4 == 0))).bind fun j6 => if j6 then (some j2) else (if (j2 == 0) then (some j4) else (if (decide ((imul r0.A r0.A) > (imul (imul 3 r0.B) r0.B))) then (some j2) else (some j4)))
noncomputable def sheetmetalref01_sign_k2 (r0 : Root) (j2 : Int) : Int → Option (Int) := fun j3 =>
  if (decide (r0.B < 0)) then (sheetmetalref01_sign_k1 r0 j2 (-1)) else (sheetmetalref01_sign_k1 r0 j2 j3)
noncomputable def sheetmetalref01_sign_k3 (r0 : Root) : Int → Option (Int) := fun j2 =>
  if (decide (r0.B > 0)) then (sheetmetalref01_sign_k2 r0 j2 1) else (sheetmetalref01_sign_k2 r0 j2 0)
noncomputable def sheetmetalref01_sign_k4 (r0 : Root) : Int → Option (Int) := fun j1 =>
  if (decide (r0.A < 0)) then (sheetmetalref01_sign_k3 r0 (-1)) else (sheetmetalref01_sign_k3 r0 j1)
noncomputable def sheetmetalref01_sign (r0 : Root) : Option (Int) :=
  if (decide (r0.A > 0)) then (sheetmetalref01_sign_k4 r0 1) else (sheetmetalref01_sign_k4 r0 0)
noncomputable def sheetmetalref01_SignRoot (r0 : Root) : Option (Int × Int) :=
  (sheetmetalref01_rootIn r0 268435456).bind fun r4 => if (!r4) then (some (0, 4)) else ((sheetmetalref01_sign r0).bind fun r6 => some (r6, 0))
noncomputable def geom_minus (a : Root) (b : Root) : Option (Root) :=
  some (Root.mk (isub a.A b.A) (isub a.B b.B))
noncomputable def geom_CompareRoot_l1 (a : Root) (b : Root) : Int → Option (Int ⊕ (Unit ⊕ Unit)) := fun s31 =>
  if (decide (s31 < 4)) then ((idx [a.A, a.B, b.A, b.B] s31).bind fun x45 => (geom_within x45 268435456).bind fun r47 => if (!r47) then (some (.inr (.inl ()))) else (some (.inl (iadd s31 1)))) else (some (.inr (.inr (()))))
noncomputable def geom_CompareRoot (a : Root) (b : Root) : Option (Int × Int) :=
  (loopT (geom_CompareRoot_l1 a b) 0).bind fun x48 => match x48 with | .inl j49 => some (0, 4) | .inr j50 => (geom_minus a b).bind fun r53 => (geom_signOf r53).bind fun r54 => some (r54, 0)
noncomputable def sheetmetalref01_minus (a : Root) (b : Root) : Option (Root) :=
  some (Root.mk (isub a.A b.A) (isub a.B b.B))
noncomputable def sheetmetalref01_CompareRoot (a : Root) (b : Root) : Option (Int × Int) :=
  ((sheetmetalref01_rootIn a 268435456).bind fun r9 => if r9 then ((sheetmetalref01_rootIn b 268435456).bind fun r10 => some (!r10)) else (some true)).bind fun j8 => if j8 then (some (0, 4)) else ((sheetmetalref01_minus a b).bind fun r13 => (sheetmetalref01_sign r13).bind fun r14 => some (r14, 0))
noncomputable def geom_near (s0 : Spot) : Option (Bool) :=
  ((geom_within s0.X 1000).bind fun r4 => if r4 then ((geom_within s0.Y 1000).bind fun r5 => some r5) else (some false)).bind fun j3 => some j3
noncomputable def geom_cosine (k : Int) : Option (Root) :=
  (idx [(Root.mk 2 0), (Root.mk 0 1), (Root.mk 1 0), (Root.mk 0 0), (Root.mk (-1) 0), (Root.mk 0 (-1)), (Root.mk (-2) 0), (Root.mk 0 (-1)), (Root.mk (-1) 0), (Root.mk 0 0), (Root.mk 1 0), (Root.mk 0 1)] (Int.tmod k 12)).bind fun x2 => some x2
noncomputable def geom_turned (s0 : Spot) (k : Int) : Option (Point) :=
  (geom_cosine k).bind fun r3 => (geom_cosine (iadd k 9)).bind fun r4 => some (Point.mk (Root.mk (isub (imul s0.X r3.A) (imul s0.Y r4.A)) (isub (imul s0.X r3.B) (imul s0.Y r4.B))) (Root.mk (iadd (imul s0.X r4.A) (imul s0.Y r3.A)) (iadd (imul s0.X r4.B) (imul s0.Y r3.B))))
noncomputable def geom_Turn (s0 : Spot) (k : Int) : Option (Point × Int) :=
  ((geom_near s0).bind fun r6 => if r6 then (if (decide (k < 0)) then (some true) else (some (decide (k > 11)))) else (some true)).bind fun j5 => if j5 then (some ((Point.mk (Root.mk 0 0) (Root.mk 0 0)), 1)) else ((geom_turned s0 k).bind fun r8 => some (r8, 0))
noncomputable def sheetmetallaw01_known : Option (Bool) :=
  (geom_SignRoot (Root.mk 7 (-4))).bind fun r2 => (geom_Turn (Spot.mk 2 0) 1).bind fun r4 => (if (r2.2 == 0) then (if (r2.1 == 1) then (if (r4.2 == 0) then (if ((r4.1.X.A == 0) && ((r4.1.X.B == 2) && true)) then (some ((r4.1.Y.A == 2) && ((r4.1.Y.B == 0) && true))) else (some false)) else (some false)) else (some false)) else (some false)).bind fun j5 => some j5
noncomputable def sheetmetallaw01_GeomSigns (a : Root) (a1 : Root) (a2 : Root) : Option (Bool) :=
  (geom_SignRoot a).bind fun r2 => (sheetmetalref01_SignRoot a).bind fun r4 => (geom_CompareRoot a a1).bind fun r6 => (sheetmetalref01_CompareRoot a a1).bind fun r8 => (if (r2.1 != r4.1) then (some true) else (if (r2.2 != r4.2) then (some true) else (if (r6.1 != r8.1) then (some true) else (some (r6.2 != r8.2))))).bind fun j10 => if j10 then (some false) else ((geom_CompareRoot a1 a).bind fun r12 => (geom_CompareRoot a1 a2).bind fun r14 => (geom_CompareRoot a a2).bind fun r16 => (if (r12.1 == (ineg r6.1)) then (if (r6.2 != 0) then ((sheetmetallaw01_known).bind fun r24 => some r24) else (if (r14.2 != 0) then ((sheetmetallaw01_known).bind fun r25 => some r25) else (if (r16.2 != 0) then ((sheetmetallaw01_known).bind fun r26 => some r26) else (if (decide (r6.1 > 0)) then ((sheetmetallaw01_known).bind fun r27 => some r27) else (if (decide (r14.1 > 0)) then ((sheetmetallaw01_known).bind fun r28 => some r28) else (if (decide (r16.1 ≤ 0)) then ((sheetmetallaw01_known).bind fun r29 => some r29) else (some false))))))) else (some false)).bind fun j23 => some j23)
noncomputable def geom_times (a : Root) (b : Root) : Option (Root) :=
  some (Root.mk (iadd (imul a.A b.A) (imul (imul 3 a.B) b.B)) (iadd (imul a.A b.B) (imul a.B b.A)))
noncomputable def geom_Multiply_l1 (a : Root) (b : Root) : Int → Option (Int ⊕ (Unit ⊕ Unit)) := fun s31 =>
  if (decide (s31 < 4)) then ((idx [a.A, a.B, b.A, b.B] s31).bind fun x45 => (geom_within x45 4096).bind fun r47 => if (!r47) then (some (.inr (.inl ()))) else (some (.inl (iadd s31 1)))) else (some (.inr (.inr (()))))
noncomputable def geom_Multiply (a : Root) (b : Root) : Option (Root × Int) :=
  (loopT (geom_Multiply_l1 a b) 0).bind fun x48 => match x48 with | .inl j49 => some ((Root.mk 0 0), 4) | .inr j50 => (geom_times a b).bind fun r52 => some (r52, 0)
noncomputable def sheetmetalref01_times (a : Root) (b : Root) : Option (Root) :=
  some (Root.mk (iadd (imul a.A b.A) (imul (imul 3 a.B) b.B)) (iadd (imul a.A b.B) (imul a.B b.A)))
noncomputable def sheetmetalref01_Multiply (a : Root) (b : Root) : Option (Root × Int) :=
  ((sheetmetalref01_rootIn a 4096).bind fun r9 => if r9 then ((sheetmetalref01_rootIn b 4096).bind fun r10 => some (!r10)) else (some true)).bind fun j8 => if j8 then (some ((Root.mk 0 0), 4)) else ((sheetmetalref01_times a b).bind fun r12 => some (r12, 0))
noncomputable def sheetmetallaw01_GeomMultiplies (a : Root) (a1 : Root) : Option (Bool) :=
  (geom_Multiply a a1).bind fun r2 => (sheetmetalref01_Multiply a a1).bind fun r4 => (if ((r2.1.A == r4.1.A) && ((r2.1.B == r4.1.B) && true)) then (some (r2.2 != r4.2)) else (some true)).bind fun j6 => if j6 then (some false) else ((geom_SignRoot a).bind fun r8 => (geom_SignRoot a1).bind fun r10 => (geom_SignRoot r2.1).bind fun r12 => (if (r2.2 != 0) then ((sheetmetallaw01_known).bind fun r16 => some r16) else (if (r12.2 == 0) then (if (r12.1 == (imul r8.1 r10.1)) then ((sheetmetallaw01_known).bind fun r17 => some r17) else (some false)) else (some false))).bind fun j15 => some j15)
noncomputable def sheetmetalref01_spotIn (s0 : Spot) : Option (Bool) :=
  ((sheetmetalref01_within s0.X (-1000) 1000).bind fun r4 => if r4 then ((sheetmetalref01_within s0.Y (-1000) 1000).bind fun r5 => some r5) else (some false)).bind fun j3 => some j3
noncomputable def sheetmetalref01_cosine_k1 (self : Int → Option (Root)) : Int → Option (Root) := fun j2 =>
  if (decide (j2 > 3)) then ((self (isub 6 j2)).bind fun r6 => some (Root.mk (ineg r6.A) (ineg r6.B))) else (if (j2 == 0) then (some (Root.mk 2 0)) else (if (j2 == 1) then (some (Root.mk 0 1)) else (if (j2 == 2) then (some (Root.mk 1 0)) else (some (Root.mk 0 0)))))
noncomputable def sheetmetalref01_cosine_k2 (self : Int → Option (Root)) : Int → Option (Root) := fun j1 =>
  if (decide (j1 > 6)) then (sheetmetalref01_cosine_k1 self (isub 12 j1)) else (sheetmetalref01_cosine_k1 self j1)
noncomputable def sheetmetalref01_cosine_body (self : Int → Option (Root)) (k : Int) : Option (Root) :=
  if (decide (k < 0)) then (sheetmetalref01_cosine_k2 self (iadd k 12)) else (sheetmetalref01_cosine_k2 self k)
noncomputable def sheetmetalref01_cosine_n : Nat → Int → Option (Root)
  | 0 => fun _ => none
  | n + 1 => sheetmetalref01_cosine_body (sheetmetalref01_cosine_n n)
noncomputable def sheetmetalref01_cosine (k : Int) : Option (Root) := sheetmetalref01_cosine_n 1000 k
noncomputable def sheetmetalref01_scaled (n : Int) (r1 : Root) : Option (Root) :=
  some (Root.mk (imul n r1.A) (imul n r1.B))
noncomputable def sheetmetalref01_plus (a : Root) (b : Root) : Option (Root) :=
  some (Root.mk (iadd a.A b.A) (iadd a.B b.B))
noncomputable def sheetmetalref01_turned (s0 : Spot) (k : Int) : Option (Point) :=
  (sheetmetalref01_cosine k).bind fun r3 => (sheetmetalref01_cosine (isub k 3)).bind fun r4 => (sheetmetalref01_scaled s0.X r3).bind fun r11 => (sheetmetalref01_scaled s0.Y r4).bind fun r12 => (sheetmetalref01_minus r11 r12).bind fun r13 => (sheetmetalref01_scaled s0.X r4).bind fun r14 => (sheetmetalref01_scaled s0.Y r3).bind fun r15 => (sheetmetalref01_plus r14 r15).bind fun r16 => some (Point.mk r13 r16)
noncomputable def sheetmetalref01_Turn (s0 : Spot) (k : Int) : Option (Point × Int) :=
  ((sheetmetalref01_spotIn s0).bind fun r9 => if r9 then ((sheetmetalref01_within k 0 11).bind fun r10 => some (!r10)) else (some true)).bind fun j8 => if j8 then (some ((Point.mk (Root.mk 0 0) (Root.mk 0 0)), 1)) else ((sheetmetalref01_turned s0 k).bind fun r12 => some (r12, 0))
noncomputable def sheetmetallaw01_GeomTurns (s0 : Spot) (a : Int) : Option (Bool) :=
  (geom_Turn s0 a).bind fun r2 => (sheetmetalref01_Turn s0 a).bind fun r4 => (if ((r2.1.X.A == r4.1.X.A) && ((r2.1.X.B == r4.1.X.B) && ((r2.1.Y.A == r4.1.Y.A) && ((r2.1.Y.B == r4.1.Y.B) && true)))) then (some (r2.2 != r4.2)) else (some true)).bind fun j6 => if j6 then (some false) else (if (r2.2 != 0) then ((sheetmetallaw01_known).bind fun r10 => some r10) else ((geom_Multiply r2.1.X r2.1.X).bind fun r12 => (geom_Multiply r2.1.Y r2.1.Y).bind fun r14 => (if (r12.2 == 0) then (if (r14.2 == 0) then (if ((iadd r12.1.B r14.1.B) == 0) then (if ((iadd r12.1.A r14.1.A) == (imul 4 (iadd (imul s0.X s0.X) (imul s0.Y s0.Y)))) then ((sheetmetallaw01_known).bind fun r17 => some r17) else (some false)) else (some false)) else (some false)) else (some false)).bind fun j16 => some j16))
noncomputable def geom_ValidRect_1 (x0 : Int) (w : Int) : Option (Bool) :=
  ((geom_within x0 1048576).bind fun r3 => if r3 then (if (decide (w > 0)) then (if (decide (w ≤ 2097152)) then (some (decide ((iadd x0 w) ≤ 1048576))) else (some false)) else (some false)) else (some false)).bind fun j2 => some j2
noncomputable def geom_ValidRect (r0 : Rect) : Option (Bool) :=
  ((geom_ValidRect_1 r0.X r0.W).bind fun r4 => if r4 then ((geom_ValidRect_1 r0.Y r0.H).bind fun r5 => some r5) else (some false)).bind fun j3 => some j3
noncomputable def sheetmetalref01_ValidRect (r0 : Rect) : Option (Bool) :=
  ((sheetmetalref01_within r0.X (-1048576) 1048576).bind fun r15 => if r15 then ((sheetmetalref01_within r0.Y (-1048576) 1048576).bind fun r16 => if r16 then ((sheetmetalref01_within r0.W 1 2097152).bind fun r17 => if r17 then ((sheetmetalref01_within r0.H 1 2097152).bind fun r18 => some (!r18)) else (some true)) else (some true)) else (some true)).bind fun j14 => if j14 then (some false) else ((if (decide ((iadd r0.X r0.W) ≤ 1048576)) then (some (decide ((iadd r0.Y r0.H) ≤ 1048576))) else (some false)).bind fun j19 => some j19)
noncomputable def geom_Overlap (a : Rect) (b : Rect) : Option (Bool) :=
  ((geom_ValidRect a).bind fun r4 => if r4 then ((geom_ValidRect b).bind fun r5 => if r5 then (if (decide (a.X < (iadd b.X b.W))) then (if (decide (b.X < (iadd a.X a.W))) then (if (decide (a.Y < (iadd b.Y b.H))) then (some (decide (b.Y < (iadd a.Y a.H)))) else (some false)) else (some false)) else (some false)) else (some false)) else (some false)).bind fun j3 => some j3
noncomputable def sheetmetalref01_gap (a : Int) (b : Int) (c : Int) (d : Int) : Option (Int) :=
  if (decide ((isub c b) > (isub a d))) then (some (isub c b)) else (some (isub a d))
noncomputable def sheetmetalref01_Overlap (a : Rect) (b : Rect) : Option (Bool) :=
  ((sheetmetalref01_ValidRect a).bind fun r6 => if r6 then ((sheetmetalref01_ValidRect b).bind fun r7 => if r7 then ((sheetmetalref01_gap a.X (iadd a.X a.W) b.X (iadd b.X b.W)).bind fun r8 => if (decide (r8 < 0)) then ((sheetmetalref01_gap a.Y (iadd a.Y a.H) b.Y (iadd b.Y b.H)).bind fun r9 => some (decide (r9 < 0))) else (some false)) else (some false)) else (some false)).bind fun j5 => some j5
noncomputable def geom_Inside (a : Rect) (b : Rect) : Option (Bool) :=
  ((geom_ValidRect a).bind fun r4 => if r4 then ((geom_ValidRect b).bind fun r5 => if r5 then (if (decide (b.X ≤ a.X)) then (if (decide ((iadd a.X a.W) ≤ (iadd b.X b.W))) then (if (decide (b.Y ≤ a.Y)) then (some (decide ((iadd a.Y a.H) ≤ (iadd b.Y b.H)))) else (some false)) else (some false)) else (some false)) else (some false)) else (some false)).bind fun j3 => some j3
noncomputable def sheetmetalref01_Inside (a : Rect) (b : Rect) : Option (Bool) :=
  ((sheetmetalref01_ValidRect a).bind fun r4 => if r4 then ((sheetmetalref01_ValidRect b).bind fun r5 => if r5 then (if (decide (a.X ≥ b.X)) then (if (decide (a.Y ≥ b.Y)) then (if (decide ((iadd a.X a.W) ≤ (iadd b.X b.W))) then (some (decide ((iadd a.Y a.H) ≤ (iadd b.Y b.H)))) else (some false)) else (some false)) else (some false)) else (some false)) else (some false)).bind fun j3 => some j3
noncomputable def geom_Distance (a : Rect) (b : Rect) : Option (Int) :=
  ((geom_ValidRect a).bind fun r9 => if r9 then ((geom_ValidRect b).bind fun r10 => some (!r10)) else (some true)).bind fun j8 => if j8 then (some 0) else (some (imax (imax (imax (imax 0 (isub (isub b.X a.X) a.W)) (isub (isub a.X b.X) b.W)) (isub (isub b.Y a.Y) a.H)) (isub (isub a.Y b.Y) b.H)))
noncomputable def sheetmetalref01_Distance_k1 : Int → Option (Int) := fun j15 =>
  if (decide (j15 < 0)) then (some 0) else (some j15)
noncomputable def sheetmetalref01_Distance (a : Rect) (b : Rect) : Option (Int) :=
  ((sheetmetalref01_ValidRect a).bind fun r9 => if r9 then ((sheetmetalref01_ValidRect b).bind fun r10 => some (!r10)) else (some true)).bind fun j8 => if j8 then (some 0) else ((sheetmetalref01_gap a.X (iadd a.X a.W) b.X (iadd b.X b.W)).bind fun r13 => (sheetmetalref01_gap a.Y (iadd a.Y a.H) b.Y (iadd b.Y b.H)).bind fun r14 => if (decide (r14 > r13)) then (sheetmetalref01_Distance_k1 r14) else (sheetmetalref01_Distance_k1 r13))
noncomputable def sheetmetallaw01_GeomRects (a : Rect) (a1 : Rect) : Option (Bool) :=
  ((geom_ValidRect a).bind fun r27 => (sheetmetalref01_ValidRect a).bind fun r28 => if (r27 == r28) then ((geom_Overlap a a1).bind fun r29 => (sheetmetalref01_Overlap a a1).bind fun r30 => if (r29 == r30) then ((geom_Inside a a1).bind fun r31 => (sheetmetalref01_Inside a a1).bind fun r32 => if (r31 == r32) then ((geom_Distance a a1).bind fun r33 => (sheetmetalref01_Distance a a1).bind fun r34 => some (r33 != r34)) else (some true)) else (some true)) else (some true)).bind fun j26 => if j26 then (some false) else (((geom_Overlap a a1).bind fun r44 => (geom_Overlap a1 a).bind fun r45 => if (r44 == r45) then ((geom_Distance a a1).bind fun r46 => (geom_Distance a1 a).bind fun r47 => if (r46 == r47) then ((geom_Overlap a a1).bind fun r48 => if r48 then ((geom_Distance a a1).bind fun r49 => if (r49 == 0) then ((sheetmetallaw01_known).bind fun r50 => some r50) else (some false)) else ((sheetmetallaw01_known).bind fun r51 => some r51)) else (some false)) else (some false)).bind fun j43 => some j43)
noncomputable def geom_small_l1 (l : (List Point)) : Int → Option (Int ⊕ (Unit ⊕ Unit)) := fun s95 =>
  if (decide (s95 < (l.length : Int))) then ((idx l s95).bind fun x130 => ((geom_within x130.X.A 4096).bind fun r136 => if r136 then ((geom_within x130.X.B 4096).bind fun r137 => if r137 then ((geom_within x130.Y.A 4096).bind fun r138 => if r138 then ((geom_within x130.Y.B 4096).bind fun r139 => some (!r139)) else (some true)) else (some true)) else (some true)).bind fun j135 => if j135 then (some (.inr (.inl ()))) else (some (.inl (iadd s95 1)))) else (some (.inr (.inr (()))))
noncomputable def geom_small (l : (List Point)) : Option (Bool) :=
  (loopT (geom_small_l1 l) 0).bind fun x140 => match x140 with | .inl j141 => some false | .inr j142 => some true
noncomputable def geom_orient (a : Point) (b : Point) (c : Point) : Option (Int) :=
  (geom_minus b.X a.X).bind fun r4 => (geom_minus c.Y a.Y).bind fun r5 => (geom_times r4 r5).bind fun r6 => (geom_minus b.Y a.Y).bind fun r10 => (geom_minus c.X a.X).bind fun r11 => (geom_times r10 r11).bind fun r12 => (geom_minus r6 r12).bind fun r15 => (geom_signOf r15).bind fun r16 => some r16
noncomputable def geom_Orient (a : Point) (b : Point) (c : Point) : Option (Int × Int) :=
  (geom_small [a, b, c]).bind fun r4 => if (!r4) then (some (0, 4)) else ((geom_orient a b c).bind fun r6 => some (r6, 0))
noncomputable def sheetmetalref01_pointIn (p : Point) : Option (Bool) :=
  ((sheetmetalref01_rootIn p.X 4096).bind fun r4 => if r4 then ((sheetmetalref01_rootIn p.Y 4096).bind fun r5 => some r5) else (some false)).bind fun j3 => some j3
noncomputable def sheetmetalref01_orient (a : Point) (b : Point) (c : Point) : Option (Int) :=
  (sheetmetalref01_minus b.X a.X).bind fun r9 => (sheetmetalref01_minus c.Y a.Y).bind fun r10 => (sheetmetalref01_times r9 r10).bind fun r11 => (sheetmetalref01_minus b.Y a.Y).bind fun r12 => (sheetmetalref01_minus c.X a.X).bind fun r13 => (sheetmetalref01_times r12 r13).bind fun r14 => (sheetmetalref01_minus r11 r14).bind fun r15 => (sheetmetalref01_sign r15).bind fun r16 => some r16
noncomputable def sheetmetalref01_Orient (a : Point) (b : Point) (c : Point) : Option (Int × Int) :=
  ((sheetmetalref01_pointIn a).bind fun r12 => if r12 then ((sheetmetalref01_pointIn b).bind fun r13 => if r13 then ((sheetmetalref01_pointIn c).bind fun r14 => some (!r14)) else (some true)) else (some true)).bind fun j11 => if j11 then (some (0, 4)) else ((sheetmetalref01_orient a b c).bind fun r16 => some (r16, 0))
noncomputable def sheetmetallaw01_GeomOrients (a : Point) (a1 : Point) (a2 : Point) : Option (Bool) :=
  (geom_Orient a a1 a2).bind fun r2 => (sheetmetalref01_Orient a a1 a2).bind fun r4 => (geom_Orient a1 a a2).bind fun r6 => (geom_Orient a1 a2 a).bind fun r8 => (if (r2.1 == r4.1) then (if (r2.2 == r4.2) then (if (r6.1 == (ineg r2.1)) then (if (r8.1 == r2.1) then (if (r6.2 == r2.2) then (if (r8.2 == r2.2) then ((sheetmetallaw01_known).bind fun r11 => some r11) else (some false)) else (some false)) else (some false)) else (some false)) else (some false)) else (some false)).bind fun j10 => some j10
end Go.SM
