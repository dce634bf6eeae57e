/- The Go functions as plain functions; written by a program out of the translation. -/
import Derived.Test.YtgfjbgoehhnaeaaGreatCzTypes
set_option linter.unusedVariables false
set_option linter.unusedSimpArgs false
set_option linter.unusedSectionVars false
namespace Go.SM
open Go Go.VI
def strings_Contains (s sub:ByteArray):Option Bool:=if s.size<4294967281 then some (Go.Lib.contains s.data.toList sub.data.toList) else none
noncomputable def sH (s0:ByteArray):Int→Option (Int ⊕ (Unit ⊕ Unit)):=fun s41 =>
  if (decide (s41<(s0.size:Int))) then ((Qd s0 s41).bind fun x52=>(if (decide (x52<97)) then (if (decide (x52<48)) then (some true) else (some (decide (x52>57)))) else (if (decide (x52>122)) then (if (decide (x52<48)) then (some true) else (some (decide (x52>57)))) else (some false))).bind fun j53=>if j53 then (some (.inr (.inl ()))) else (some (.inl (aL s41 1)))) else (some (.inr (.inr (()))))
noncomputable def lC (s0:ByteArray):Option (Bool):=
  (if (decide ((s0.size:Int)<1)) then (some true) else (if (decide ((s0.size:Int)>8)) then (some true) else ((Qd s0 0).bind fun x9=>if (decide (x9<97)) then (some true) else ((Qd s0 0).bind fun x10=>some (decide (x10>122)))))).bind fun j8=>if j8 then (some false) else ((aM (sH s0) 0).bind fun x54=>match x54 with | .inl j55=>some false | .inr j56=>(Ye (ByteArray.mk #[32]) s0).bind fun s60=>(Ye s60 (ByteArray.mk #[32])).bind fun s61=>(strings_Contains (ByteArray.mk #[32,112,97,114,116,32,109,97,116,101,114,105,97,108,32,98,97,115,101,32,102,108,97,110,103,101,32,104,111,108,101,32,99,117,116,32,102,111,114,109,32,101,97,115,116,32,115,111,117,116,104,32,119,101,115,116,32,110,111,114,116,104,32,117,112,32,100,111,119,110,32,99,108,111,115,101,117,112,32,99,108,111,115,101,100,111,119,110,32,103,114,97,105,110,32,120,32,121,32,116,97,98,108,101,32,97,110,103,108,101,32,109,97,99,104,105,110,101,32,112,117,110,99,104,32,100,105,101,32,102,114,97,109,101,32,103,97,117,103,101,32,112,111,108,121,32,115,116,97,116,105,111,110,115,32]) s61).bind fun r62=>some (!r62))
noncomputable def Bo (n:Int) (lo:Int) (hi:Int):Option (Bool):=
  (if (decide (lo≤n)) then (some (decide (n≤hi))) else (some false)).bind fun j1=>some j1
noncomputable def Gt (gauge:Int) (grain:Int):Option (Bool):=
  ((Bo gauge 1 60).bind fun r4=>if r4 then ((Bo grain 0 2).bind fun r5=>some r5) else (some false)).bind fun j3=>some j3
noncomputable def Ik (n:Int) (most:Int):Option (Bool):=
  (if (decide ((uW most)≤n)) then (some (decide (n≤most))) else (some false)).bind fun j1=>some j1
noncomputable def uI (x0:Int) (w:Int):Option (Bool):=
  ((Ik x0 1048576).bind fun r3=>if r3 then (if (decide (w>0)) then (if (decide (w≤2097152)) then (some (decide ((aL x0 w)≤1048576))) else (some false)) else (some false)) else (some false)).bind fun j2=>some j2
noncomputable def fG (r0:Rect):Option (Bool):=
  ((uI r0.X r0.W).bind fun r4=>if r4 then ((uI r0.Y r0.H).bind fun r5=>some r5) else (some false)).bind fun j3=>some j3
noncomputable def xU (l:(List Rect)):Int→Option (Int ⊕ (Unit ⊕ Unit)):=fun s39 =>
  if (decide (s39<(l.length:Int))) then ((idx l s39).bind fun x53=>(fG x53).bind fun r55=>if (!r55) then (some (.inr (.inl ()))) else (some (.inl (aL s39 1)))) else (some (.inr (.inr (()))))
noncomputable def xB (l:(List Rect)):Option (Bool):=
  (aM (xU l) 0).bind fun x56=>match x56 with | .inl j57=>some false | .inr j58=>some true
noncomputable def Nr (s0:Sheet) (margin:Int):Option (Rect×Bool):=
  (fG (Rect.mk margin margin (aJ s0.Width (mZ 2 margin)) (aJ s0.Height (mZ 2 margin)))).bind fun r3=>some ((Rect.mk margin margin (aJ s0.Width (mZ 2 margin)) (aJ s0.Height (mZ 2 margin))),r3)
noncomputable def yS (a:Rect) (b:Rect):Option (Bool):=
  ((fG a).bind fun r4=>if r4 then ((fG b).bind fun r5=>if r5 then (if (decide (b.X≤a.X)) then (if (decide ((aL a.X a.W)≤(aL b.X b.W))) then (if (decide (b.Y≤a.Y)) then (some (decide ((aL a.Y a.H)≤(aL b.Y b.H)))) else (some false)) else (some false)) else (some false)) else (some false)) else (some false)).bind fun j3=>some j3
noncomputable def mE (r38:Rect×Bool) (x388:(List Rect)):Int→Option (Int ⊕ (Unit ⊕ Unit)):=fun s398 =>
  if (decide (s398<(x388.length:Int))) then ((idx x388 s398).bind fun x412=>(yS x412 r38.1).bind fun r414=>if (!r414) then (some (.inr (.inl ()))) else (some (.inl (aL s398 1)))) else (some (.inr (.inr (()))))
noncomputable def mF (s0:Sheet) (r38:Rect×Bool):Int→Option (Int ⊕ (Unit ⊕ Unit)):=fun s293 =>
  if (decide (s293<([s0.Clamps,s0.Used].length:Int))) then ((idx [s0.Clamps,s0.Used] s293).bind fun x388=>(aM (mE r38 x388) 0).bind fun x415=>match x415 with | .inl j416=>some (.inr (.inl ())) | .inr j417=>some (.inl (aL s293 1))) else (some (.inr (.inr (()))))
noncomputable def jY (s0:Sheet):Option (Int):=
  ((lC s0.Name).bind fun r22=>if r22 then ((lC s0.Material).bind fun r23=>some (!r23)) else (some true)).bind fun j21=>if j21 then (some 2) else (((Gt s0.Gauge s0.Grain).bind fun r28=>if r28 then ((Bo s0.Width 1 1048576).bind fun r29=>if r29 then ((Bo s0.Height 1 1048576).bind fun r30=>some (!r30)) else (some true)) else (some true)).bind fun j27=>if j27 then (some 1) else ((if (decide ((s0.Clamps.length:Int)>4)) then (some true) else (some (decide ((s0.Used.length:Int)>48)))).bind fun j31=>if j31 then (some 4) else (((xB s0.Clamps).bind fun r35=>if r35 then ((xB s0.Used).bind fun r36=>some (!r36)) else (some true)).bind fun j34=>if j34 then (some 1) else ((Nr s0 0).bind fun r38=>(aM (mF s0 r38) 0).bind fun x418=>match x418 with | .inl j419=>some 13 | .inr j420=>some 0))))
noncomputable def zX (a:Rect) (b:Rect):Option (Bool):=
  ((fG a).bind fun r4=>if r4 then ((fG b).bind fun r5=>if r5 then (if (decide (a.X<(aL b.X b.W))) then (if (decide (b.X<(aL a.X a.W))) then (if (decide (a.Y<(aL b.Y b.H))) then (some (decide (b.Y<(aL a.Y a.H)))) else (some false)) else (some false)) else (some false)) else (some false)) else (some false)).bind fun j3=>some j3
noncomputable def Gu (a:Rect) (b:Rect):Option (Bool):=
  (if ((aJ (mY (aL a.X a.W) (aL b.X b.W)) (eU a.X b.X))==0) then (if (decide ((aJ (mY (aL a.Y a.H) (aL b.Y b.H)) (eU a.Y b.Y))>0)) then (some true) else (if ((aJ (mY (aL a.Y a.H) (aL b.Y b.H)) (eU a.Y b.Y))==0) then (some (decide ((aJ (mY (aL a.X a.W) (aL b.X b.W)) (eU a.X b.X))>0))) else (some false))) else (if ((aJ (mY (aL a.Y a.H) (aL b.Y b.H)) (eU a.Y b.Y))==0) then (some (decide ((aJ (mY (aL a.X a.W) (aL b.X b.W)) (eU a.X b.X))>0))) else (some false))).bind fun j1=>some j1
noncomputable def nQ (s598:Int×(List Bool)×(List Int)):((List Bool)×(List Int))→Option ((Int×(List Bool)×(List Int)) ⊕ ((List Bool)×(List Int))):=fun j651 =>
  some (.inl ((aL s598.1 1),j651.1,j651.2))
noncomputable def kZ (l:(List Rect)) (x561:Int):(Int×(List Bool)×(List Int))→Option ((Int×(List Bool)×(List Int)) ⊕ ((List Bool)×(List Int))):=fun s598 =>
  if (decide (s598.1<(l.length:Int))) then (((idx s598.2.1 s598.1).bind fun x661=>if x661 then (some false) else ((idx l x561).bind fun x662=>(idx l s598.1).bind fun x663=>(Gu x662 x663).bind fun r664=>some r664)).bind fun j660=>if j660 then ((idx s598.2.1 s598.1).bind fun x666=>(app s598.2.2 [s598.1]).bind fun l668=>nQ s598 ((List.set s598.2.1 (Int.toNat s598.1) true),l668)) else (nQ s598 (s598.2.1,s598.2.2))) else (some (.inr (s598.2.1,s598.2.2)))
noncomputable def nR (l:(List Rect)):((List Bool)×(List Int))→Option (((List Bool)×(List Int)) ⊕ (List Bool)):=fun s449 =>
  if (decide ((s449.2.length:Int)>0)) then ((idx s449.2 0).bind fun x561=>if (decide (1≤s449.2.length)) then ((aM (kZ l x561) (0,s449.1,(List.drop 1 s449.2))).bind fun x669=>some (.inl (x669.1,x669.2))) else none) else (some (.inr s449.1))
noncomputable def sG (x670:(List Bool)):Int→Option (Int ⊕ (Unit ⊕ Unit)):=fun s693 =>
  if (decide (s693<(x670.length:Int))) then ((idx x670 s693).bind fun x701=>if (!x701) then (some (.inr (.inl ()))) else (some (.inl (aL s693 1)))) else (some (.inr (.inr (()))))
noncomputable def Ae (l:(List Rect)):Option (Bool):=
  (mk (l.length:Int) false).bind fun l2=>(idx l2 0).bind fun x4=>(aM (nR l) ((List.set l2 (Int.toNat 0) true),[0])).bind fun x670=>(aM (sG x670) 0).bind fun x702=>match x702 with | .inl j703=>some false | .inr j704=>some true
noncomputable def uL (h0:Rect) (l:(List Rect)):Int→Option (Int ⊕ (Unit ⊕ Unit)):=fun s31 =>
  if (decide (s31<(l.length:Int))) then ((idx l s31).bind fun x42=>(if (decide (h0.X>x42.X)) then (if (decide (h0.Y>x42.Y)) then (if (decide ((aL h0.X h0.W)<(aL x42.X x42.W))) then (some (decide ((aL h0.Y h0.H)<(aL x42.Y x42.H)))) else (some false)) else (some false)) else (some false)).bind fun j43=>if j43 then (some (.inr (.inl ()))) else (some (.inl (aL s31 1)))) else (some (.inr (.inr (()))))
noncomputable def xS (h0:Rect) (l:(List Rect)):Option (Bool):=
  (aM (uL h0 l) 0).bind fun x44=>match x44 with | .inl j45=>some true | .inr j46=>some false
noncomputable def Cm (a:Rect) (b:Rect):Option (Int):=
  ((fG a).bind fun r9=>if r9 then ((fG b).bind fun r10=>some (!r10)) else (some true)).bind fun j8=>if j8 then (some 0) else (some (eU (eU (eU (eU 0 (aJ (aJ b.X a.X) a.W)) (aJ (aJ a.X b.X) b.W)) (aJ (aJ b.Y a.Y) a.H)) (aJ (aJ a.Y b.Y) b.H)))
noncomputable def wY (x0:Piece) (l6:(List Rect)):Int→Option (Int ⊕ (Unit ⊕ Unit)):=fun s69 =>
  if (decide (s69<(l6.length:Int))) then ((idx l6 s69).bind fun x92=>(if (decide (s69<(x0.Cuts.length:Int))) then (if (x92.W==1) then (some true) else (if (x92.H==1) then (some true) else ((xS x92 x0.Rects).bind fun r96=>some (!r96)))) else ((xS x92 x0.Rects).bind fun r97=>some (!r97))).bind fun j95=>if j95 then (some (.inr (.inl ()))) else (some (.inl (aL s69 1)))) else (some (.inr (.inr (()))))
noncomputable def wZ (x472:Rect) (l474:(List Rect)):Int→Option (Int ⊕ (Unit ⊕ Unit)):=fun s484 =>
  if (decide (s484<(l474.length:Int))) then ((idx l474 s484).bind fun x498=>(Cm x472 x498).bind fun r500=>if (r500==0) then (some (.inr (.inl ()))) else (some (.inl (aL s484 1)))) else (some (.inr (.inr (()))))
noncomputable def xA (l6:(List Rect)):Int→Option (Int ⊕ (Unit ⊕ Unit)):=fun s371 =>
  if (decide (s371<(l6.length:Int))) then ((idx l6 s371).bind fun x472=>(slc l6 0 s371).bind fun l474=>(aM (wZ x472 l474) 0).bind fun x501=>match x501 with | .inl j502=>some (.inr (.inl ())) | .inr j503=>some (.inl (aL s371 1))) else (some (.inr (.inr (()))))
noncomputable def Py (x0:Piece):Option (Int):=
  (app [] x0.Cuts).bind fun l5=>(app l5 x0.Forms).bind fun l6=>(aM (wY x0 l6) 0).bind fun x98=>match x98 with | .inl j99=>some 13 | .inr j100=>(aM (xA l6) 0).bind fun x504=>match x504 with | .inl j505=>some 7 | .inr j506=>some 0
noncomputable def bZ (x0:Piece):(Int×Int×Int)→Option ((Int×Int×Int) ⊕ (Int×Int)):=fun s57 =>
  if (decide (s57.2.2<(x0.Rects.length:Int))) then ((idx x0.Rects s57.2.2).bind fun x65=>some (.inl ((mY s57.1 x65.X),(mY s57.2.1 x65.Y),(aL s57.2.2 1)))) else (some (.inr (s57.1,s57.2.1)))
noncomputable def lZ (x440:Rect) (l442:(List Rect)):Int→Option (Int ⊕ (Unit ⊕ Unit)):=fun s452 =>
  if (decide (s452<(l442.length:Int))) then ((idx l442 s452).bind fun x466=>(zX x440 x466).bind fun r468=>if r468 then (some (.inr (.inl ()))) else (some (.inl (aL s452 1)))) else (some (.inr (.inr (()))))
noncomputable def mD (x0:Piece):Int→Option (Int ⊕ (Unit ⊕ Unit)):=fun s339 =>
  if (decide (s339<(x0.Rects.length:Int))) then ((idx x0.Rects s339).bind fun x440=>(slc x0.Rects 0 s339).bind fun l442=>(aM (lZ x440 l442) 0).bind fun x469=>match x469 with | .inl j470=>some (.inr (.inl ())) | .inr j471=>some (.inl (aL s339 1))) else (some (.inr (.inr (()))))
noncomputable def eX (x0:Piece):Option (Int):=
  ((lC x0.Name).bind fun r19=>if r19 then ((lC x0.Material).bind fun r20=>some (!r20)) else (some true)).bind fun j18=>if j18 then (some 2) else ((Gt x0.Gauge x0.Grain).bind fun r22=>if (!r22) then (some 1) else ((if (decide ((x0.Rects.length:Int)>12)) then (some true) else (if (decide ((x0.Cuts.length:Int)>12)) then (some true) else (some (decide ((x0.Forms.length:Int)>12))))).bind fun j23=>if j23 then (some 4) else ((if ((x0.Rects.length:Int)==0) then (some true) else ((xB x0.Rects).bind fun r28=>if r28 then ((xB x0.Cuts).bind fun r29=>if r29 then ((xB x0.Forms).bind fun r30=>some (!r30)) else (some true)) else (some true))).bind fun j27=>if j27 then (some 1) else ((idx x0.Rects 0).bind fun x35=>(idx x0.Rects 0).bind fun x36=>(aM (bZ x0) (x35.X,x36.Y,0)).bind fun x66=>(if (x66.1 != 0) then (some true) else (some (x66.2 != 0))).bind fun j68=>if j68 then (some 1) else ((aM (mD x0) 0).bind fun x472=>match x472 with | .inl j473=>some 7 | .inr j474=>(Ae x0.Rects).bind fun r478=>if (!r478) then (some 6) else ((Py x0).bind fun r480=>some r480))))))
noncomputable def lN (s:(List Rect)):Option (List Rect):=app [] s
noncomputable def Ia (s107:Int×(List Rect)):(List Rect)→Option (Int×(List Rect) ⊕ (List Rect)):=fun j145 =>
  some (.inl ((aL s107.1 1),j145))
noncomputable def Dm (x1:Int) (y:Int) (r2:(List Rect)):Int×(List Rect)→Option (Int×(List Rect) ⊕ (List Rect)):=fun s107 =>
  if (decide (s107.1<(r2.length:Int))) then ((idx s107.2 s107.1).bind fun x147=>(if (decide (x147.X<(-4194304))) then (some true) else (if (decide (x147.X>4194304)) then (some true) else (if (decide (x147.Y<(-4194304))) then (some true) else (some (decide (x147.Y>4194304)))))).bind fun j151=>if j151 then ((s107.2[Int.toNat s107.1]?).bind fun x153=>Ia s107 (List.set s107.2 (Int.toNat s107.1) (Rect.mk x153.X x153.Y 0 x153.H))) else ((s107.2[Int.toNat s107.1]?).bind fun x156=>(s107.2[Int.toNat s107.1]?).bind fun x157=>Ia s107 (List.set (List.set s107.2 (Int.toNat s107.1) (Rect.mk (aJ x156.X x1) x157.Y x157.W x157.H)) (Int.toNat s107.1) (Rect.mk (((Rect.mk (aJ x156.X x1) x157.Y x157.W x157.H)).X) (aJ (((Rect.mk (aJ x156.X x1) x157.Y x157.W x157.H)).Y) y) (((Rect.mk (aJ x156.X x1) x157.Y x157.W x157.H)).W) (((Rect.mk (aJ x156.X x1) x157.Y x157.W x157.H)).H))))) else (some (.inr s107.2))
noncomputable def Jw (l:(List Rect)) (x1:Int) (y:Int):Option ((List Rect)):=
  (lN l).bind fun r2=>(aM (Dm x1 y r2) (0,r2)).bind fun x158=>some x158
noncomputable def rP (x0:Piece):Int→Option (Int ⊕ (Unit ⊕ Unit)):=fun s39 =>
  if (decide (s39<(x0.Rects.length:Int))) then ((idx x0.Rects s39).bind fun x53=>(fG x53).bind fun r55=>if (!r55) then (some (.inr (.inl ()))) else (some (.inl (aL s39 1)))) else (some (.inr (.inr (()))))
noncomputable def fO (x0:Piece):(Int×Int×Int)→Option ((Int×Int×Int) ⊕ (Int×Int)):=fun s89 =>
  if (decide (s89.2.2<(x0.Rects.length:Int))) then ((idx x0.Rects s89.2.2).bind fun x97=>some (.inl ((mY s89.1 x97.X),(mY s89.2.1 x97.Y),(aL s89.2.2 1)))) else (some (.inr (s89.1,s89.2.1)))
noncomputable def pO (x0:Piece):Option (Int):=
  (aM (rP x0) 0).bind fun x56=>match x56 with | .inl j57=>some 1 | .inr j58=>if ((x0.Rects.length:Int)==0) then ((eX x0).bind fun r62=>some r62) else ((idx x0.Rects 0).bind fun x67=>(idx x0.Rects 0).bind fun x68=>(aM (fO x0) (x67.X,x68.Y,0)).bind fun x98=>(Jw x0.Rects x98.1 x98.2).bind fun r105=>(Jw x0.Cuts x98.1 x98.2).bind fun r106=>(Jw x0.Forms x98.1 x98.2).bind fun r107=>(eX (Piece.mk x0.Name x0.Material x0.Gauge x0.Grain r105 r106 r107)).bind fun r109=>some r109)
noncomputable def Ii (x0:Rect) (a_0:Int) (a_1:Int) (a_2:Int) (a_3:Int):Option (Bool):=
  (zX (Rect.mk a_0 a_1 a_2 a_3) x0).bind fun r2=>some r2
noncomputable def bA (s0:(List Rect)) (f_0_0:Int) (f_0_1:Int) (f_0_2:Int) (f_0_3:Int):Int→Option (Int ⊕ (Int ⊕ Unit)):=fun s39 =>
  if (decide (s39<(s0.length:Int))) then ((idx s0 s39).bind fun x54=>(Ii x54 f_0_0 f_0_1 f_0_2 f_0_3).bind fun r55=>if r55 then (some (.inr (.inl s39))) else (some (.inl (aL s39 1)))) else (some (.inr (.inr (()))))
noncomputable def eB (s0:(List Rect)) (f_0_0:Int) (f_0_1:Int) (f_0_2:Int) (f_0_3:Int):Option (Int):=
  (aM (bA s0 f_0_0 f_0_1 f_0_2 f_0_3) 0).bind fun x56=>match x56 with | .inl j57=>some j57 | .inr j58=>some (-1)
noncomputable def dH (s0:(List Rect)) (f_0_0:Int) (f_0_1:Int) (f_0_2:Int) (f_0_3:Int):Option (Bool):=
  (eB s0 f_0_0 f_0_1 f_0_2 f_0_3).bind fun r2=>some (decide (r2 ≥ 0))
noncomputable def Fe (r0:Rect) (l:(List Rect)):Option (Bool):=
  (dH l r0.X r0.Y r0.W r0.H).bind fun r2=>some r2
noncomputable def bV (l:LayoutT):Int→Option (Int ⊕ (Int ⊕ Unit)):=fun s43 =>
  if (decide (s43<(l.Pieces.length:Int))) then ((idx l.Pieces s43).bind fun x57=>(pO x57).bind fun r59=>if (r59 != 0) then (some (.inr (.inl r59))) else (some (.inl (aL s43 1)))) else (some (.inr (.inr (()))))
noncomputable def vH (l:LayoutT) (x742:Piece):Int→Option (Int ⊕ (Unit ⊕ Unit)):=fun s762 =>
  if (decide (s762<(x742.Rects.length:Int))) then ((idx x742.Rects s762).bind fun x791=>((yS x791 (Rect.mk 0 0 l.Sheet.Width l.Sheet.Height)).bind fun r796=>if r796 then ((Fe x791 l.Sheet.Clamps).bind fun r797=>if r797 then (some true) else ((Fe x791 l.Sheet.Used).bind fun r798=>some r798)) else (some true)).bind fun j795=>if j795 then (some (.inr (.inl ()))) else (some (.inl (aL s762 1)))) else (some (.inr (.inr (()))))
noncomputable def vJ (l:LayoutT):Int→Option (Int ⊕ (Unit ⊕ Unit)):=fun s557 =>
  if (decide (s557<(l.Pieces.length:Int))) then ((idx l.Pieces s557).bind fun x742=>(aM (vH l x742) 0).bind fun x799=>match x799 with | .inl j800=>some (.inr (.inl ())) | .inr j801=>some (.inl (aL s557 1))) else (some (.inr (.inr (()))))
noncomputable def vL (x2958:Piece) (x3119:Piece):Int→Option (Int ⊕ (Unit ⊕ Unit)):=fun s3129 =>
  if (decide (s3129<(x2958.Rects.length:Int))) then ((idx x2958.Rects s3129).bind fun x3143=>(Fe x3143 x3119.Rects).bind fun r3145=>if r3145 then (some (.inr (.inl ()))) else (some (.inl (aL s3129 1)))) else (some (.inr (.inr (()))))
noncomputable def vM (x2958:Piece) (l2960:(List Piece)):Int→Option (Int ⊕ (Unit ⊕ Unit)):=fun s3024 =>
  if (decide (s3024<(l2960.length:Int))) then ((idx l2960 s3024).bind fun x3119=>(aM (vL x2958 x3119) 0).bind fun x3146=>match x3146 with | .inl j3147=>some (.inr (.inl ())) | .inr j3148=>some (.inl (aL s3024 1))) else (some (.inr (.inr (()))))
noncomputable def vN (l:LayoutT):Int→Option (Int ⊕ (Unit ⊕ Unit)):=fun s2371 =>
  if (decide (s2371<(l.Pieces.length:Int))) then ((idx l.Pieces s2371).bind fun x2958=>(slc l.Pieces 0 s2371).bind fun l2960=>(aM (vM x2958 l2960) 0).bind fun x3149=>match x3149 with | .inl j3150=>some (.inr (.inl ())) | .inr j3151=>some (.inl (aL s2371 1))) else (some (.inr (.inr (()))))
noncomputable def uV (l:LayoutT):Option (Int):=
  (jY l.Sheet).bind fun r4=>if (r4 != 0) then (some r4) else (if (decide ((l.Pieces.length:Int)>8)) then (some 4) else ((aM (bV l) 0).bind fun x60=>match x60 with | .inl j61=>some j61 | .inr j62=>(aM (vJ l) 0).bind fun x802=>match x802 with | .inl j803=>some 13 | .inr j804=>(aM (vN l) 0).bind fun x3152=>match x3152 with | .inl j3153=>some 7 | .inr j3154=>some 0))
noncomputable def uY (n:Int) (lo:Int) (hi:Int):Option (Bool):=
  (if (decide (n ≥ lo)) then (some (decide (n≤hi))) else (some false)).bind fun j1=>some j1
noncomputable def tO:Option (ByteArray):=
  some (ByteArray.mk #[32,112,97,114,116,32,109,97,116,101,114,105,97,108,32,98,97,115,101,32,102,108,97,110,103,101,32,104,111,108,101,32,99,117,116,32,102,111,114,109,32,101,97,115,116,32,115,111,117,116,104,32,119,101,115,116,32,110,111,114,116,104,32,117,112,32,100,111,119,110,32,99,108,111,115,101,117,112,32,99,108,111,115,101,100,111,119,110,32,103,114,97,105,110,32,120,32,121,32,116,97,98,108,101,32,97,110,103,108,101,32,109,97,99,104,105,110,101,32,112,117,110,99,104,32,100,105,101,32,102,114,97,109,101,32,103,97,117,103,101,32,112,111,108,121,32,115,116,97,116,105,111,110,115,32])
noncomputable def iU (text:ByteArray) (s1:ByteArray):Int→Option (Int ⊕ (Unit ⊕ Unit)):=fun s55 =>
  if (decide ((aL (aL s55 (s1.size:Int)) 2)≤(text.size:Int))) then ((WM text s55 (aL (aL s55 (s1.size:Int)) 2)).bind fun s77=>(Ye (ByteArray.mk #[32]) s1).bind fun s78=>(Ye s78 (ByteArray.mk #[32])).bind fun s79=>if (s77.toList==s79.toList) then (some (.inr (.inl ()))) else (some (.inl (aL s55 1)))) else (some (.inr (.inr (()))))
noncomputable def oK (text:ByteArray) (s1:ByteArray):Option (Bool):=
  (aM (iU text s1) 0).bind fun x80=>match x80 with | .inl j81=>some true | .inr j82=>some false
noncomputable def gG (s0:ByteArray):Int→Option (Int ⊕ (Unit ⊕ Unit)):=fun s101 =>
  if (decide (s101<(s0.size:Int))) then (((Qd s0 s101).bind fun x135=>if (decide (x135 ≥ 97)) then ((Qd s0 s101).bind fun x136=>some (decide (x136≤122))) else (some false)).bind fun j134=>(if j134 then (some false) else ((Qd s0 s101).bind fun x140=>if (decide (x140<48)) then (some true) else ((Qd s0 s101).bind fun x141=>some (decide (x141>57))))).bind fun j139=>if j139 then (some (.inr (.inl ()))) else (some (.inl (aL s101 1)))) else (some (.inr (.inr (()))))
noncomputable def dY (s0:ByteArray):Option (Bool):=
  ((uY (s0.size:Int) 1 8).bind fun r12=>if r12 then ((Qd s0 0).bind fun x13=>if (decide (x13<97)) then (some true) else ((Qd s0 0).bind fun x14=>some (decide (x14>122)))) else (some true)).bind fun j11=>if j11 then (some false) else ((aM (gG s0) 0).bind fun x142=>match x142 with | .inl j143=>some false | .inr j144=>(tO).bind fun r147=>(oK r147 s0).bind fun r148=>some (!r148))
noncomputable def mH (name:ByteArray) (material:ByteArray) (gauge:Int) (grain:Int):Option (Int):=
  ((dY name).bind fun r9=>if r9 then ((dY material).bind fun r10=>some (!r10)) else (some true)).bind fun j8=>if j8 then (some 2) else ((if (decide (gauge<1)) then (some true) else (if (decide (gauge>60)) then (some true) else (if (decide (grain<0)) then (some true) else (some (decide (grain>2)))))).bind fun j12=>if j12 then (some 1) else (some 0))
noncomputable def iP (n:Int):Option (Bool):=
  (if (decide (n ≥ (-1048576))) then (some (decide (n≤1048576))) else (some false)).bind fun j1=>some j1
noncomputable def bQ (r0:Rect):Option (Bool):=
  ((iP r0.X).bind fun r9=>if r9 then ((iP r0.Y).bind fun r10=>if r10 then (if (decide (r0.W<1)) then (some true) else (if (decide (r0.H<1)) then (some true) else (if (decide (r0.W>2097152)) then (some true) else (some (decide (r0.H>2097152)))))) else (some true)) else (some true)).bind fun j8=>if j8 then (some false) else (((iP (aL r0.X r0.W)).bind fun r14=>if r14 then ((iP (aL r0.Y r0.H)).bind fun r15=>some r15) else (some false)).bind fun j13=>some j13)
noncomputable def iW (l:(List Rect)):Int→Option (Int ⊕ (Unit ⊕ Unit)):=fun s39 =>
  if (decide (s39<(l.length:Int))) then ((idx l s39).bind fun x54=>(bQ x54).bind fun r55=>if (!r55) then (some (.inr (.inl ()))) else (some (.inl (aL s39 1)))) else (some (.inr (.inr (()))))
noncomputable def dA (l:(List Rect)):Option (Bool):=
  (aM (iW l) 0).bind fun x56=>match x56 with | .inl j57=>some false | .inr j58=>some true
noncomputable def iT (a:Rect) (b:Rect):Option (Bool):=
  ((bQ a).bind fun r4=>if r4 then ((bQ b).bind fun r5=>if r5 then (if (decide (a.X ≥ b.X)) then (if (decide (a.Y ≥ b.Y)) then (if (decide ((aL a.X a.W)≤(aL b.X b.W))) then (some (decide ((aL a.Y a.H)≤(aL b.Y b.H)))) else (some false)) else (some false)) else (some false)) else (some false)) else (some false)).bind fun j3=>some j3
noncomputable def iX (s0:Sheet) (l:(List Rect)):Int→Option (Int ⊕ (Unit ⊕ Unit)):=fun s55 =>
  if (decide (s55<(l.length:Int))) then ((idx l s55).bind fun x78=>(iT x78 (Rect.mk 0 0 s0.Width s0.Height)).bind fun r79=>if (!r79) then (some (.inr (.inl ()))) else (some (.inl (aL s55 1)))) else (some (.inr (.inr (()))))
noncomputable def lF (s0:Sheet) (l:(List Rect)):Option (Bool):=
  (aM (iX s0 l) 0).bind fun x80=>match x80 with | .inl j81=>some false | .inr j82=>some true
noncomputable def jE (s0:Sheet):Option (Int):=
  (mH s0.Name s0.Material s0.Gauge s0.Grain).bind fun r2=>if (r2 != 0) then (some r2) else ((if (decide (s0.Width<1)) then (some true) else (if (decide (s0.Width>1048576)) then (some true) else (if (decide (s0.Height<1)) then (some true) else (some (decide (s0.Height>1048576)))))).bind fun j4=>if j4 then (some 1) else ((if (decide ((s0.Clamps.length:Int)>4)) then (some true) else (some (decide ((s0.Used.length:Int)>48)))).bind fun j6=>if j6 then (some 4) else (((dA s0.Clamps).bind fun r15=>if r15 then ((dA s0.Used).bind fun r16=>some (!r16)) else (some true)).bind fun j14=>if j14 then (some 1) else (((lF s0 s0.Clamps).bind fun r25=>if r25 then ((lF s0 s0.Used).bind fun r26=>some (!r26)) else (some true)).bind fun j24=>if j24 then (some 13) else (some 0)))))
noncomputable def nE (s61:Int×(List Rect)) (x84:Rect):(Int×Int)→Option (Int×(List Rect) ⊕ (List Rect)):=fun j86 =>
  (app s61.2 [(Rect.mk j86.1 j86.2 x84.W x84.H)]).bind fun l88=>some (.inl ((aL s61.1 1),l88))
noncomputable def nG (l:(List Rect)) (x1:Int) (y:Int):Int×(List Rect)→Option (Int×(List Rect) ⊕ (List Rect)):=fun s61 =>
  if (decide (s61.1<(l.length:Int))) then ((idx l s61.1).bind fun x84=>(if (decide (x84.X>(-2147483648))) then (if (decide (x84.X<2147483648)) then (if (decide (x84.Y>(-2147483648))) then (some (decide (x84.Y<2147483648))) else (some false)) else (some false)) else (some false)).bind fun j89=>if j89 then (nE s61 x84 ((aL x84.X x1),(aL x84.Y y))) else (nE s61 x84 (x84.X,x84.Y))) else (some (.inr s61.2))
noncomputable def jJ (l:(List Rect)) (x1:Int) (y:Int):Option ((List Rect)):=
  (aM (nG l x1 y) (0,[])).bind fun x90=>some x90
noncomputable def xE (x0:Piece) (dx:Int) (dy:Int):Option (Piece):=
  (jJ x0.Rects dx dy).bind fun r2=>(jJ x0.Cuts dx dy).bind fun r4=>(jJ x0.Forms dx dy).bind fun r6=>some (Piece.mk x0.Name x0.Material x0.Gauge x0.Grain r2 r4 r6)
noncomputable def nU (x0:Piece):(Int×Int×Int)→Option ((Int×Int×Int) ⊕ (Int×Int)):=fun s47 =>
  if (decide (s47.2.2<(x0.Rects.length:Int))) then ((idx x0.Rects s47.2.2).bind fun x61=>(idx x0.Rects s47.2.2).bind fun x63=>some (.inl ((mY s47.1 x61.X),(mY s47.2.1 x63.Y),(aL s47.2.2 1)))) else (some (.inr (s47.1,s47.2.1)))
noncomputable def sS (x0:Piece):Option (Piece×Bool×ByteArray×ByteArray×Int×Int×(List Rect)×(List Rect)×(List Rect)):=
  (dA x0.Rects).bind fun r4=>if (!r4) then (some (x0,false,x0.Name,x0.Material,x0.Gauge,x0.Grain,x0.Rects,x0.Cuts,x0.Forms)) else (if ((x0.Rects.length:Int)==0) then (some (x0,true,x0.Name,x0.Material,x0.Gauge,x0.Grain,x0.Rects,x0.Cuts,x0.Forms)) else ((idx x0.Rects 0).bind fun x9=>(idx x0.Rects 0).bind fun x10=>(aM (nU x0) (x9.X,x10.Y,1)).bind fun x64=>(xE x0 (uW x64.1) (uW x64.2)).bind fun r66=>some (r66,true,r66.Name,r66.Material,r66.Gauge,r66.Grain,r66.Rects,r66.Cuts,r66.Forms)))
noncomputable def tT (l:(List Rect)):(Int×Int×Int)→Option ((Int×Int×Int) ⊕ (Int×Int)):=fun s43 =>
  if (decide (s43.2.2<(l.length:Int))) then ((idx l s43.2.2).bind fun x57=>(idx l s43.2.2).bind fun x59=>some (.inl ((mY s43.1 x57.X),(mY s43.2.1 x59.Y),(aL s43.2.2 1)))) else (some (.inr (s43.1,s43.2.1)))
noncomputable def qG (l:(List Rect)):Option (Int×Int):=
  (idx l 0).bind fun x5=>(idx l 0).bind fun x6=>(aM (tT l) (x5.X,x6.Y,1)).bind fun x60=>some (x60.1,x60.2)
noncomputable def nD (a:Rect) (b:Rect):Option (Bool):=
  ((bQ a).bind fun r4=>if r4 then ((bQ b).bind fun r5=>if r5 then (if (decide (a.X<(aL b.X b.W))) then (if (decide (b.X<(aL a.X a.W))) then (if (decide (a.Y<(aL b.Y b.H))) then (some (decide (b.Y<(aL a.Y a.H)))) else (some false)) else (some false)) else (some false)) else (some false)) else (some false)).bind fun j3=>some j3
noncomputable def jL (r0:Rect) (l:(List Rect)):Int→Option (Int ⊕ (Unit ⊕ Unit)):=fun s55 =>
  if (decide (s55<(l.length:Int))) then ((idx l s55).bind fun x78=>(nD r0 x78).bind fun r79=>if r79 then (some (.inr (.inl ()))) else (some (.inl (aL s55 1)))) else (some (.inr (.inr (()))))
noncomputable def gQ (r0:Rect) (l:(List Rect)):Option (Bool):=
  (aM (jL r0 l) 0).bind fun x80=>match x80 with | .inl j81=>some true | .inr j82=>some false
noncomputable def tV (a:Rect) (b:Rect):Option (Bool):=
  (if ((aJ (mY (aL a.X a.W) (aL b.X b.W)) (eU a.X b.X))==0) then (if (decide ((aJ (mY (aL a.Y a.H) (aL b.Y b.H)) (eU a.Y b.Y))>0)) then (some true) else (if ((aJ (mY (aL a.Y a.H) (aL b.Y b.H)) (eU a.Y b.Y))==0) then (some (decide ((aJ (mY (aL a.X a.W) (aL b.X b.W)) (eU a.X b.X))>0))) else (some false))) else (if ((aJ (mY (aL a.Y a.H) (aL b.Y b.H)) (eU a.Y b.Y))==0) then (some (decide ((aJ (mY (aL a.X a.W) (aL b.X b.W)) (eU a.X b.X))>0))) else (some false))).bind fun j1=>some j1
noncomputable def eF (s1438:Int×(List Bool)×(List Int)):((List Bool)×(List Int))→Option ((Int×(List Bool)×(List Int)) ⊕ ((List Bool)×(List Int))):=fun j1500 =>
  some (.inl ((aL s1438.1 1),j1500.1,j1500.2))
noncomputable def cO (l:(List Rect)) (s1017:Int×(List Bool)×(List Int)):(Int×(List Bool)×(List Int))→Option ((Int×(List Bool)×(List Int)) ⊕ ((List Bool)×(List Int))):=fun s1438 =>
  if (decide (s1438.1<(l.length:Int))) then (((idx s1438.2.1 s1438.1).bind fun x1512=>if x1512 then (some false) else ((idx s1438.2.2 s1017.1).bind fun x1513=>(idx l x1513).bind fun x1514=>(idx l s1438.1).bind fun x1515=>(tV x1514 x1515).bind fun r1516=>some r1516)).bind fun j1511=>if j1511 then ((idx s1438.2.1 s1438.1).bind fun x1518=>(app s1438.2.2 [s1438.1]).bind fun l1520=>eF s1438 ((List.set s1438.2.1 (Int.toNat s1438.1) true),l1520)) else (eF s1438 (s1438.2.1,s1438.2.2))) else (some (.inr (s1438.2.1,s1438.2.2)))
noncomputable def eG (l:(List Rect)):(Int×(List Bool)×(List Int))→Option ((Int×(List Bool)×(List Int)) ⊕ (List Int)):=fun s1017 =>
  if (decide (s1017.1<(s1017.2.2.length:Int))) then ((aM (cO l s1017) (0,s1017.2.1,s1017.2.2)).bind fun x1521=>some (.inl ((aL s1017.1 1),x1521.1,x1521.2))) else (some (.inr s1017.2.2))
noncomputable def lU (l:(List Rect)):Option (Bool):=
  (mk (l.length:Int) false).bind fun l2=>(idx l2 0).bind fun x4=>(aM (eG l) (0,(List.set l2 (Int.toNat 0) true),[0])).bind fun x1522=>some ((x1522.length:Int)==(l.length:Int))
noncomputable def kF (r0:Rect) (l:(List Rect)):Int→Option (Int ⊕ (Unit ⊕ Unit)):=fun s159 =>
  if (decide (s159<(l.length:Int))) then (((idx l s159).bind fun x230=>if (decide (r0.X>x230.X)) then ((idx l s159).bind fun x231=>if (decide (r0.Y>x231.Y)) then ((idx l s159).bind fun x232=>(idx l s159).bind fun x233=>if (decide ((aL r0.X r0.W)<(aL x232.X x233.W))) then ((idx l s159).bind fun x234=>(idx l s159).bind fun x235=>some (decide ((aL r0.Y r0.H)<(aL x234.Y x235.H)))) else (some false)) else (some false)) else (some false)).bind fun j229=>if j229 then (some (.inr (.inl ()))) else (some (.inl (aL s159 1)))) else (some (.inr (.inr (()))))
noncomputable def sN (r0:Rect) (l:(List Rect)):Option (Bool):=
  (aM (kF r0 l) 0).bind fun x236=>match x236 with | .inl j237=>some true | .inr j238=>some false
noncomputable def qE (a:Rect) (b:Rect):Option (Int):=
  ((bQ a).bind fun r9=>if r9 then ((bQ b).bind fun r10=>some (!r10)) else (some true)).bind fun j8=>if j8 then (some 0) else (some (eU (eU (eU 0 (aJ (aJ a.X b.X) b.W)) (aJ (aJ b.X a.X) a.W)) (eU (eU 0 (aJ (aJ a.Y b.Y) b.H)) (aJ (aJ b.Y a.Y) a.H))))
noncomputable def eH (x0:Piece):Int→Option (Int ⊕ (Unit ⊕ Unit)):=fun s101 =>
  if (decide (s101<(x0.Rects.length:Int))) then ((idx x0.Rects s101).bind fun x135=>(slc x0.Rects 0 s101).bind fun l136=>(gQ x135 l136).bind fun r137=>if r137 then (some (.inr (.inl ()))) else (some (.inl (aL s101 1)))) else (some (.inr (.inr (()))))
noncomputable def eO (x0:Piece) (l150:(List Rect)):Int→Option (Int ⊕ (Unit ⊕ Unit)):=fun s261 =>
  if (decide (s261<(l150.length:Int))) then (((idx l150 s261).bind fun x310=>(sN x310 x0.Rects).bind fun r311=>if r311 then (if (decide (s261<(x0.Cuts.length:Int))) then ((idx l150 s261).bind fun x312=>if (x312.W==1) then (some true) else ((idx l150 s261).bind fun x313=>some (x313.H==1))) else (some false)) else (some true)).bind fun j309=>if j309 then (some (.inr (.inl ()))) else (some (.inl (aL s261 1)))) else (some (.inr (.inr (()))))
noncomputable def eP (l150:(List Rect)) (s567:Int):Int→Option (Int ⊕ (Unit ⊕ Unit)):=fun s764 =>
  if (decide (s764<s567)) then ((idx l150 s567).bind fun x798=>(idx l150 s764).bind fun x799=>(qE x798 x799).bind fun r800=>if (r800==0) then (some (.inr (.inl ()))) else (some (.inl (aL s764 1)))) else (some (.inr (.inr (()))))
noncomputable def eQ (l150:(List Rect)):Int→Option (Int ⊕ (Unit ⊕ Unit)):=fun s567 =>
  if (decide (s567<(l150.length:Int))) then ((aM (eP l150 s567) 0).bind fun x801=>match x801 with | .inl j802=>some (.inr (.inl ())) | .inr j803=>some (.inl (aL s567 1))) else (some (.inr (.inr (()))))
noncomputable def bW (x0:Piece):Option (Int):=
  (mH x0.Name x0.Material x0.Gauge x0.Grain).bind fun r2=>if (r2 != 0) then (some r2) else ((if (decide ((x0.Rects.length:Int)>12)) then (some true) else (if (decide ((x0.Cuts.length:Int)>12)) then (some true) else (some (decide ((x0.Forms.length:Int)>12))))).bind fun j4=>if j4 then (some 4) else ((if ((x0.Rects.length:Int)==0) then (some true) else ((dA x0.Rects).bind fun r16=>if r16 then ((dA x0.Cuts).bind fun r17=>if r17 then ((dA x0.Forms).bind fun r18=>some (!r18)) else (some true)) else (some true))).bind fun j15=>if j15 then (some 1) else ((qG x0.Rects).bind fun r20=>(if (r20.1 != 0) then (some true) else (some (r20.2 != 0))).bind fun j22=>if j22 then (some 1) else ((aM (eH x0) 0).bind fun x138=>match x138 with | .inl j139=>some 7 | .inr j140=>(lU x0.Rects).bind fun r144=>if (!r144) then (some 6) else ((app [] x0.Cuts).bind fun l149=>(app l149 x0.Forms).bind fun l150=>(aM (eO x0 l150) 0).bind fun x314=>match x314 with | .inl j315=>some 13 | .inr j316=>(aM (eQ l150) 0).bind fun x804=>match x804 with | .inl j805=>some 7 | .inr j806=>some 0)))))
noncomputable def bR (l:LayoutT):Int→Option (Int ⊕ (Int ⊕ Unit)):=fun s57 =>
  if (decide (s57<(l.Pieces.length:Int))) then ((idx l.Pieces s57).bind fun x78=>(sS x78).bind fun r79=>if (!r79.2.1) then (some (.inr (.inl 1))) else ((bW (Piece.mk r79.1.Name r79.1.Material r79.1.Gauge r79.1.Grain r79.1.Rects r79.1.Cuts r79.1.Forms)).bind fun r81=>if (r81 != 0) then (some (.inr (.inl r81))) else (some (.inl (aL s57 1))))) else (some (.inr (.inr (()))))
noncomputable def gU (l:LayoutT) (x1424:Piece):Int→Option (Int ⊕ (Unit ⊕ Unit)):=fun s1464 =>
  if (decide (s1464<(x1424.Rects.length:Int))) then (((idx x1424.Rects s1464).bind fun x1535=>(iT x1535 (Rect.mk 0 0 l.Sheet.Width l.Sheet.Height)).bind fun r1536=>if r1536 then ((idx x1424.Rects s1464).bind fun x1537=>(gQ x1537 l.Sheet.Clamps).bind fun r1538=>if r1538 then (some true) else ((idx x1424.Rects s1464).bind fun x1539=>(gQ x1539 l.Sheet.Used).bind fun r1540=>some r1540)) else (some true)).bind fun j1534=>if j1534 then (some (.inr (.inl ()))) else (some (.inl (aL s1464 1)))) else (some (.inr (.inr (()))))
noncomputable def gV (l:LayoutT):Int→Option (Int ⊕ (Unit ⊕ Unit)):=fun s1059 =>
  if (decide (s1059<(l.Pieces.length:Int))) then ((idx l.Pieces s1059).bind fun x1424=>(aM (gU l x1424) 0).bind fun x1541=>match x1541 with | .inl j1542=>some (.inr (.inl ())) | .inr j1543=>some (.inl (aL s1059 1))) else (some (.inr (.inr (()))))
noncomputable def gW (l:LayoutT) (s3717:Int) (s5514:Int):Int→Option (Int ⊕ (Unit ⊕ Unit)):=fun s5811 =>
  (idx l.Pieces s3717).bind fun x5843=>if (decide (s5811<(x5843.Rects.length:Int))) then ((idx l.Pieces s3717).bind fun x5864=>(idx x5864.Rects s5811).bind fun x5865=>(idx l.Pieces s5514).bind fun x5866=>(gQ x5865 x5866.Rects).bind fun r5867=>if r5867 then (some (.inr (.inl ()))) else (some (.inl (aL s5811 1)))) else (some (.inr (.inr (()))))
noncomputable def gX (l:LayoutT) (s3717:Int):Int→Option (Int ⊕ (Unit ⊕ Unit)):=fun s5514 =>
  if (decide (s5514<s3717)) then ((aM (gW l s3717 s5514) 0).bind fun x5868=>match x5868 with | .inl j5869=>some (.inr (.inl ())) | .inr j5870=>some (.inl (aL s5514 1))) else (some (.inr (.inr (()))))
noncomputable def gY (l:LayoutT):Int→Option (Int ⊕ (Unit ⊕ Unit)):=fun s3717 =>
  if (decide (s3717<(l.Pieces.length:Int))) then ((aM (gX l s3717) 0).bind fun x5871=>match x5871 with | .inl j5872=>some (.inr (.inl ())) | .inr j5873=>some (.inl (aL s3717 1))) else (some (.inr (.inr (()))))
noncomputable def dG (l:LayoutT):Option (Int):=
  (jE l.Sheet).bind fun r2=>if (r2 != 0) then (some r2) else (if (decide ((l.Pieces.length:Int)>8)) then (some 4) else ((aM (bR l) 0).bind fun x82=>match x82 with | .inl j83=>some j83 | .inr j84=>(aM (gV l) 0).bind fun x1544=>match x1544 with | .inl j1545=>some 13 | .inr j1546=>(aM (gY l) 0).bind fun x5874=>match x5874 with | .inl j5875=>some 7 | .inr j5876=>some 0))
end Go.SM
