/- The Go functions as plain functions; written by a program out of the translation. -/
import Derived.Test.YtiodkdpfkchkjaaGeTypes
set_option linter.unusedVariables false
set_option linter.unusedSimpArgs false
set_option linter.unusedSectionVars false
namespace Go.SM
open Go Go.VI
noncomputable def geom_within (n : Int) (most : Int) : Option (Bool) :=
  (if (decide ((ineg most) ≤ n)) then (some (decide (n ≤ most))) else (some false)).bind fun j1 => some j1
noncomputable def geom_sign (n : Int) : Option (Int) :=
  if (decide (n < 0)) then (some (-1)) else (if (decide (n > 0)) then (some 1) else (some 0))
noncomputable def geom_signOf (r0 : Root) : Option (Int) :=
  (geom_sign r0.A).bind fun r5 => (geom_sign r0.B).bind fun r6 => if (decide ((imul r5 r6) ≥ 0)) then ((geom_sign (iadd r5 r6)).bind fun r10 => some r10) else ((geom_sign (isub (imul r0.A r0.A) (imul (imul 3 r0.B) r0.B))).bind fun r12 => some (imul r5 r12))
noncomputable def geom_SignRoot (r0 : Root) : Option (Int × Int) :=
  ((geom_within r0.A 268435456).bind fun r9 => if r9 then ((geom_within r0.B 268435456).bind fun r10 => some (!r10)) else (some true)).bind fun j8 => if j8 then (some (0, 4)) else ((geom_signOf r0).bind fun r12 => some (r12, 0))
noncomputable def sheetmetalref01_within (n : Int) (lo : Int) (hi : Int) : Option (Bool) :=
  (if (decide (n ≥ lo)) then (some (decide (n ≤ hi))) else (some false)).bind fun j1 => some j1
noncomputable def sheetmetalref01_rootIn (r0 : Root) (most : Int) : Option (Bool) :=
  ((sheetmetalref01_within r0.A (ineg most) most).bind fun r4 => if r4 then ((sheetmetalref01_within r0.B (ineg most) most).bind fun r5 => some r5) else (some false)).bind fun j3 => some j3
noncomputable def sheetmetalref01_sign_k1 (r0 : Root) (j2 : Int) : Int → Option (Int) := fun j4 =>
  (if (j2 == j4) then (some true) else (some (j4 == 0))).bind fun j6 => if j6 then (some j2) else (if (j2 == 0) then (some j4) else (if (decide ((imul r0.A r0.A) > (imul (imul 3 r0.B) r0.B))) then (some j2) else (some j4)))
noncomputable def sheetmetalref01_sign_k2 (r0 : Root) (j2 : Int) : Int → Option (Int) := fun j3 =>
  if (decide (r0.B < 0)) then (sheetmetalref01_sign_k1 r0 j2 (-1)) else (sheetmetalref01_sign_k1 r0 j2 j3)
noncomputable def sheetmetalref01_sign_k3 (r0 : Root) : Int → Option (Int) := fun j2 =>
  if (decide (r0.B > 0)) then (sheetmetalref01_sign_k2 r0 j2 1) else (sheetmetalref01_sign_k2 r0 j2 0)
noncomputable def sheetmetalref01_sign_k4 (r0 : Root) : Int → Option (Int) := fun j1 =>
  if (decide (r0.A < 0)) then (sheetmetalref01_sign_k3 r0 (-1)) else (sheetmetalref01_sign_k3 r0 j1)
noncomputable def sheetmetalref01_sign (r0 : Root) : Option (Int) :=
  if (decide (r0.A > 0)) then (sheetmetalref01_sign_k4 r0 1) else (sheetmetalref01_sign_k4 r0 0)
noncomputable def geom_minus (a : Root) (b : Root) : Option (Root) :=
  some (Root.mk (isub a.A b.A) (isub a.B b.B))
noncomputable def sheetmetalref01_minus (a : Root) (b : Root) : Option (Root) :=
  some (Root.mk (isub a.A b.A) (isub a.B b.B))
noncomputable def geom_near (s0 : Spot) : Option (Bool) :=
  ((geom_within s0.X 1000).bind fun r4 => if r4 then ((geom_within s0.Y 1000).bind fun r5 => some r5) else (some false)).bind fun j3 => some j3
noncomputable def geom_cosine (k : Int) : Option (Root × Int × Int) :=
  (idx [(Root.mk 2 0), (Root.mk 0 1), (Root.mk 1 0), (Root.mk 0 0), (Root.mk (-1) 0), (Root.mk 0 (-1)), (Root.mk (-2) 0), (Root.mk 0 (-1)), (Root.mk (-1) 0), (Root.mk 0 0), (Root.mk 1 0), (Root.mk 0 1)] (Int.tmod k 12)).bind fun x2 => some (x2, x2.A, x2.B)
noncomputable def geom_turned (s0 : Spot) (k : Int) : Option (Point × Int × Int × Int × Int) :=
  (geom_cosine k).bind fun r3 => (geom_cosine (iadd k 9)).bind fun r4 => some ((Point.mk (Root.mk (isub (imul s0.X r3.1.A) (imul s0.Y r4.1.A)) (isub (imul s0.X r3.1.B) (imul s0.Y r4.1.B))) (Root.mk (iadd (imul s0.X r4.1.A) (imul s0.Y r3.1.A)) (iadd (imul s0.X r4.1.B) (imul s0.Y r3.1.B)))), (isub (imul s0.X r3.1.A) (imul s0.Y r4.1.A)), (isub (imul s0.X r3.1.B) (imul s0.Y r4.1.B)), (iadd (imul s0.X r4.1.A) (imul s0.Y r3.1.A)), (iadd (imul s0.X r4.1.B) (imul s0.Y r3.1.B)))
noncomputable def geom_Turn (s0 : Spot) (k : Int) : Option (Point × Int × Int × Int × Int × Int) :=
  ((geom_near s0).bind fun r6 => if r6 then (if (decide (k < 0)) then (some true) else (some (decide (k > 11)))) else (some true)).bind fun j5 => if j5 then (some ((Point.mk (Root.mk 0 0) (Root.mk 0 0)), 1, 0, 0, 0, 0)) else ((geom_turned s0 k).bind fun r8 => some ((Point.mk (Root.mk r8.1.X.A r8.1.X.B) (Root.mk r8.1.Y.A r8.1.Y.B)), 0, r8.1.X.A, r8.1.X.B, r8.1.Y.A, r8.1.Y.B))
noncomputable def sheetmetallaw01_known : Option (Bool) :=
  (geom_SignRoot (Root.mk 7 (-4))).bind fun r2 => (geom_Turn (Spot.mk 2 0) 1).bind fun r4 => (if (r2.2 == 0) then (if (r2.1 == 1) then (if (r4.2.1 == 0) then (if ((r4.1.X.A == 0) && ((r4.1.X.B == 2) && true)) then (some ((r4.1.Y.A == 2) && ((r4.1.Y.B == 0) && true))) else (some false)) else (some false)) else (some false)) else (some false)).bind fun j5 => some j5
noncomputable def geom_times (a : Root) (b : Root) : Option (Root) :=
  some (Root.mk (iadd (imul a.A b.A) (imul (imul 3 a.B) b.B)) (iadd (imul a.A b.B) (imul a.B b.A)))
noncomputable def sheetmetalref01_times (a : Root) (b : Root) : Option (Root) :=
  some (Root.mk (iadd (imul a.A b.A) (imul (imul 3 a.B) b.B)) (iadd (imul a.A b.B) (imul a.B b.A)))
noncomputable def sheetmetalref01_spotIn (s0 : Spot) : Option (Bool) :=
  ((sheetmetalref01_within s0.X (-1000) 1000).bind fun r4 => if r4 then ((sheetmetalref01_within s0.Y (-1000) 1000).bind fun r5 => some r5) else (some false)).bind fun j3 => some j3
noncomputable def sheetmetalref01_cosine_k1 (self : Int → Option (Root × Int × Int)) : Int → Option (Root × Int × Int) := fun j2 =>
  if (decide (j2 > 3)) then ((self (isub 6 j2)).bind fun r6 => some ((Root.mk (ineg r6.1.A) (ineg r6.1.B)), (ineg r6.1.A), (ineg r6.1.B))) else (if (j2 == 0) then (some ((Root.mk 2 0), 2, 0)) else (if (j2 == 1) then (some ((Root.mk 0 1), 0, 1)) else (if (j2 == 2) then (some ((Root.mk 1 0), 1, 0)) else (some ((Root.mk 0 0), 0, 0)))))
noncomputable def sheetmetalref01_cosine_k2 (self : Int → Option (Root × Int × Int)) : Int → Option (Root × Int × Int) := fun j1 =>
  if (decide (j1 > 6)) then (sheetmetalref01_cosine_k1 self (isub 12 j1)) else (sheetmetalref01_cosine_k1 self j1)
noncomputable def sheetmetalref01_cosine_body (self : Int → Option (Root × Int × Int)) (k : Int) : Option (Root × Int × Int) :=
  if (decide (k < 0)) then (sheetmetalref01_cosine_k2 self (iadd k 12)) else (sheetmetalref01_cosine_k2 self k)
noncomputable def sheetmetalref01_cosine_n : Nat → Int → Option (Root × Int × Int)
  | 0 => fun _ => none
  | n + 1 => sheetmetalref01_cosine_body (sheetmetalref01_cosine_n n)
noncomputable def sheetmetalref01_cosine (k : Int) : Option (Root × Int × Int) := sheetmetalref01_cosine_n 1000 k
noncomputable def sheetmetalref01_scaled (n : Int) (r1 : Root) : Option (Root) :=
  some (Root.mk (imul n r1.A) (imul n r1.B))
noncomputable def sheetmetalref01_plus (a : Root) (b : Root) : Option (Root) :=
  some (Root.mk (iadd a.A b.A) (iadd a.B b.B))
noncomputable def sheetmetalref01_turned (s0 : Spot) (k : Int) : Option (Point × Int × Int × Int × Int) :=
  (sheetmetalref01_cosine k).bind fun r3 => (sheetmetalref01_cosine (isub k 3)).bind fun r4 => (sheetmetalref01_scaled s0.X (Root.mk r3.1.A r3.1.B)).bind fun r17 => (sheetmetalref01_scaled s0.Y (Root.mk r4.1.A r4.1.B)).bind fun r18 => (sheetmetalref01_minus r17 r18).bind fun r19 => (sheetmetalref01_scaled s0.X (Root.mk r4.1.A r4.1.B)).bind fun r20 => (sheetmetalref01_scaled s0.Y (Root.mk r3.1.A r3.1.B)).bind fun r21 => (sheetmetalref01_plus r20 r21).bind fun r22 => some ((Point.mk r19 r22), r19.A, r19.B, r22.A, r22.B)
noncomputable def sheetmetalref01_Turn (s0 : Spot) (k : Int) : Option (Point × Int × Int × Int × Int × Int) :=
  ((sheetmetalref01_spotIn s0).bind fun r9 => if r9 then ((sheetmetalref01_within k 0 11).bind fun r10 => some (!r10)) else (some true)).bind fun j8 => if j8 then (some ((Point.mk (Root.mk 0 0) (Root.mk 0 0)), 1, 0, 0, 0, 0)) else ((sheetmetalref01_turned s0 k).bind fun r12 => some ((Point.mk (Root.mk r12.1.X.A r12.1.X.B) (Root.mk r12.1.Y.A r12.1.Y.B)), 0, r12.1.X.A, r12.1.X.B, r12.1.Y.A, r12.1.Y.B))
noncomputable def geom_ValidRect_1 (x0 : Int) (w : Int) : Option (Bool) :=
  ((geom_within x0 1048576).bind fun r3 => if r3 then (if (decide (w > 0)) then (if (decide (w ≤ 2097152)) then (some (decide ((iadd x0 w) ≤ 1048576))) else (some false)) else (some false)) else (some false)).bind fun j2 => some j2
noncomputable def geom_ValidRect (r0 : Rect) : Option (Bool) :=
  ((geom_ValidRect_1 r0.X r0.W).bind fun r4 => if r4 then ((geom_ValidRect_1 r0.Y r0.H).bind fun r5 => some r5) else (some false)).bind fun j3 => some j3
noncomputable def sheetmetalref01_ValidRect (r0 : Rect) : Option (Bool) :=
  ((sheetmetalref01_within r0.X (-1048576) 1048576).bind fun r15 => if r15 then ((sheetmetalref01_within r0.Y (-1048576) 1048576).bind fun r16 => if r16 then ((sheetmetalref01_within r0.W 1 2097152).bind fun r17 => if r17 then ((sheetmetalref01_within r0.H 1 2097152).bind fun r18 => some (!r18)) else (some true)) else (some true)) else (some true)).bind fun j14 => if j14 then (some false) else ((if (decide ((iadd r0.X r0.W) ≤ 1048576)) then (some (decide ((iadd r0.Y r0.H) ≤ 1048576))) else (some false)).bind fun j19 => some j19)
noncomputable def geom_Overlap (a : Rect) (b : Rect) : Option (Bool) :=
  ((geom_ValidRect a).bind fun r4 => if r4 then ((geom_ValidRect b).bind fun r5 => if r5 then (if (decide (a.X < (iadd b.X b.W))) then (if (decide (b.X < (iadd a.X a.W))) then (if (decide (a.Y < (iadd b.Y b.H))) then (some (decide (b.Y < (iadd a.Y a.H)))) else (some false)) else (some false)) else (some false)) else (some false)) else (some false)).bind fun j3 => some j3
noncomputable def geom_small_l1 (l : (List Point)) : Int → Option (Int ⊕ (Unit ⊕ Unit)) := fun s95 =>
  if (decide (s95 < (l.length : Int))) then ((idx l s95).bind fun x130 => ((geom_within x130.X.A 4096).bind fun r136 => if r136 then ((geom_within x130.X.B 4096).bind fun r137 => if r137 then ((geom_within x130.Y.A 4096).bind fun r138 => if r138 then ((geom_within x130.Y.B 4096).bind fun r139 => some (!r139)) else (some true)) else (some true)) else (some true)).bind fun j135 => if j135 then (some (.inr (.inl ()))) else (some (.inl (iadd s95 1)))) else (some (.inr (.inr (()))))
noncomputable def geom_small (l : (List Point)) : Option (Bool) :=
  (loopT (geom_small_l1 l) 0).bind fun x140 => match x140 with | .inl j141 => some false | .inr j142 => some true
noncomputable def geom_orient (a : Point) (b : Point) (c : Point) : Option (Int) :=
  (geom_minus b.X a.X).bind fun r7 => (geom_minus c.Y a.Y).bind fun r8 => (geom_times r7 r8).bind fun r9 => (geom_minus b.Y a.Y).bind fun r16 => (geom_minus c.X a.X).bind fun r17 => (geom_times r16 r17).bind fun r18 => (geom_minus r9 r18).bind fun r21 => (geom_signOf r21).bind fun r22 => some r22
noncomputable def geom_Orient (a : Point) (b : Point) (c : Point) : Option (Int × Int) :=
  (geom_small [a, b, c]).bind fun r4 => if (!r4) then (some (0, 4)) else ((geom_orient a b c).bind fun r6 => some (r6, 0))
noncomputable def sheetmetalref01_pointIn (p : Point) : Option (Bool) :=
  ((sheetmetalref01_rootIn p.X 4096).bind fun r4 => if r4 then ((sheetmetalref01_rootIn p.Y 4096).bind fun r5 => some r5) else (some false)).bind fun j3 => some j3
noncomputable def sheetmetalref01_orient (a : Point) (b : Point) (c : Point) : Option (Int) :=
  (sheetmetalref01_minus b.X a.X).bind fun r17 => (sheetmetalref01_minus c.Y a.Y).bind fun r18 => (sheetmetalref01_times r17 r18).bind fun r19 => (sheetmetalref01_minus b.Y a.Y).bind fun r20 => (sheetmetalref01_minus c.X a.X).bind fun r21 => (sheetmetalref01_times r20 r21).bind fun r22 => (sheetmetalref01_minus r19 r22).bind fun r23 => (sheetmetalref01_sign r23).bind fun r24 => some r24
noncomputable def sheetmetalref01_Orient (a : Point) (b : Point) (c : Point) : Option (Int × Int) :=
  ((sheetmetalref01_pointIn a).bind fun r12 => if r12 then ((sheetmetalref01_pointIn b).bind fun r13 => if r13 then ((sheetmetalref01_pointIn c).bind fun r14 => some (!r14)) else (some true)) else (some true)).bind fun j11 => if j11 then (some (0, 4)) else ((sheetmetalref01_orient a b c).bind fun r16 => some (r16, 0))
end Go.SM
