/- What the functions compute, part 1. -/
import Derived.Test.YtgfjbgoehhnaeaaVHC3
import Derived.Test.YtgfjbgoehhnaeaaVHC4
import Derived.Lib.IndexMore
set_option linter.unusedVariables false
set_option linter.unusedSimpArgs false
set_option linter.unusedSectionVars false
namespace Go.SM
open Go Go.VI
structure Rect where
  X:Int
  Y:Int
  W:Int
  H:Int
def aM (x:Rect):List PV:=[(vI x.X),(vI x.Y),(vI x.W),(vI x.H)]
abbrev bB (l:List Rect):PV:=.sl (List.map aM l)
abbrev Bl (e:Nat) (l:List Rect):HO:=.row e [] (List.map aM l)
structure Piece where
  Name:ByteArray
  Material:ByteArray
  Gauge:Int
  Grain:Int
  Rects:(List Rect)
  Cuts:(List Rect)
  Forms:(List Rect)
def aX (x:Piece):List PV:=[(vS x.Name),(vS x.Material),(vI x.Gauge),(vI x.Grain),(.sl (List.map aM x.Rects)),(.sl (List.map aM x.Cuts)),(.sl (List.map aM x.Forms))]
abbrev bY (l:List Piece):PV:=.sl (List.map aX l)
structure Spot where
  X:Int
  Y:Int
def ZV (x:Spot):List PV:=[(vI x.X),(vI x.Y)]
structure Sheet where
  Name:ByteArray
  Material:ByteArray
  Gauge:Int
  Grain:Int
  Width:Int
  Height:Int
  Clamps:(List Rect)
  Used:(List Rect)
def xW (x:Sheet):List PV:=[(vS x.Name),(vS x.Material),(vI x.Gauge),(vI x.Grain),(vI x.Width),(vI x.Height),(.sl (List.map aM x.Clamps)),(.sl (List.map aM x.Used))]
structure LayoutT where
  Sheet:Sheet
  Pieces:(List Piece)
def aV (x:LayoutT):List PV:=[(vS x.Sheet.Name),(vS x.Sheet.Material),(vI x.Sheet.Gauge),(vI x.Sheet.Grain),(vI x.Sheet.Width),(vI x.Sheet.Height),(.sl (List.map aM x.Sheet.Clamps)),(.sl (List.map aM x.Sheet.Used)),(.sl (List.map aX x.Pieces))]
structure Segment where
  X1:Int
  Y1:Int
  X2:Int
  Y2:Int
def Df (x:Segment):List PV:=[(vI x.X1),(vI x.Y1),(vI x.X2),(vI x.Y2)]
structure EdgeT where
  Line:Segment
  A:Int
  B:Int
def gZ (x:EdgeT):List PV:=[(vI x.Line.X1),(vI x.Line.Y1),(vI x.Line.X2),(vI x.Line.Y2),(vI x.A),(vI x.B)]
abbrev iP (l:List EdgeT):PV:=.sl (List.map gZ l)
abbrev jZ (e:Nat) (l:List EdgeT):HO:=.row e [] (List.map gZ l)
structure cut_nothing where
structure ItemT where
  Piece:Int
  Hole:Int
  Joints:Int
  Lead:Spot
def iA (x:ItemT):List PV:=[(vI x.Piece),(vI x.Hole),(vI x.Joints),(vI x.Lead.X),(vI x.Lead.Y)]
abbrev Jq (l:List ItemT):PV:=.sl (List.map iA l)
structure cut_State where
  Cut:(List Bool)
  Holes:(List (List Bool))
  Done:(List Bool)
  Joints:(List Int)
  Fallen:(List Bool)
def bA (x:cut_State):List PV:=[(.sl (List.map cB x.Cut)),(.sl (List.map (cS cB) x.Holes)),(.sl (List.map cB x.Done)),(.sl (List.map cI x.Joints)),(.sl (List.map cB x.Fallen))]
structure sheetmetalref07_State where
  Cut:(List Bool)
  Holes:(List (List Bool))
  Done:(List Bool)
  Joints:(List Int)
  Fallen:(List Bool)
def Xn (x:Rect):Prop:=R64 x.X∧R64 x.Y∧R64 x.W∧R64 x.H
def Jc (x:Rect):Prop:=R64 x.X∧R64 x.Y∧R64 x.W∧R64 x.H
def Xm (x:Piece):Prop:=RT x.Name∧RT x.Material∧R64 x.Gauge∧R64 x.Grain∧(RLN 1048576 Jc) x.Rects∧(RLN 1048576 Jc) x.Cuts∧(RLN 1048576 Jc) x.Forms
def LX (x:Spot):Prop:=R64 x.X∧R64 x.Y
def EW (x:Sheet):Prop:=RT x.Name∧RT x.Material∧R64 x.Gauge∧R64 x.Grain∧R64 x.Width∧R64 x.Height∧(RLN 1048576 Jc) x.Clamps∧(RLN 1048576 Jc) x.Used
def uW (x:LayoutT):Prop:=EW x.Sheet∧(RLN 1048576 Xm) x.Pieces
def Xl (x:ItemT):Prop:=R64 x.Piece∧R64 x.Hole∧R64 x.Joints∧LX x.Lead
end Go.SM
namespace Go.SM
open Go Go.VI
noncomputable def Gh (n:Int) (most:Int):Option (Bool):=
  (if (decide ((tJ most)≤n)) then (some (decide (n≤most))) else (some false)).bind fun j1=>some j1
noncomputable def sK (x0:Int) (w:Int):Option (Bool):=
  ((Gh x0 1048576).bind fun r3=>if r3 then (if (decide (w>0)) then (if (decide (w≤2097152)) then (some (decide ((aF x0 w)≤1048576))) else (some false)) else (some false)) else (some false)).bind fun j2=>some j2
noncomputable def eP (r0:Rect):Option (Bool):=
  ((sK r0.X r0.W).bind fun r4=>if r4 then ((sK r0.Y r0.H).bind fun r5=>some r5) else (some false)).bind fun j3=>some j3
noncomputable def xY (s41:Int×Int×Int×Int×Int):(Int×Int×Int×Int)→Option ((Int×Int×Int×Int×Int) ⊕ (Int×Int×Int×Int)):=fun j55 =>
  some (.inl ((aF s41.1 1),j55.1,j55.2.1,j55.2.2.1,j55.2.2.2))
noncomputable def xZ (x0:Piece):(Int×Int×Int×Int×Int)→Option ((Int×Int×Int×Int×Int) ⊕ (Int×Int×Int×Int)):=fun s41 =>
  if (decide (s41.1<(x0.Rects.length:Int))) then ((idx x0.Rects s41.1).bind fun x57=>(eP x57).bind fun r59=>if (!r59) then (xY s41 (s41.2.1,s41.2.2.1,s41.2.2.2.1,s41.2.2.2.2)) else (if (s41.2.2.2.1==0) then (xY s41 (x57.X,x57.Y,x57.W,x57.H)) else (xY s41 ((nG s41.2.1 x57.X),(nG s41.2.2.1 x57.Y),(aH (iU (aF s41.2.1 s41.2.2.2.1) (aF x57.X x57.W)) (nG s41.2.1 x57.X)),(aH (iU (aF s41.2.2.1 s41.2.2.2.2) (aF x57.Y x57.H)) (nG s41.2.2.1 x57.Y)))))) else (some (.inr (s41.2.1,s41.2.2.1,s41.2.2.2.1,s41.2.2.2.2)))
noncomputable def Hq (x0:Piece):Option (Bool):=
  (aD (xZ x0) (0,0,0,0,0)).bind fun x60=>some (decide ((nG x60.2.2.1 x60.2.2.2)<7200))
noncomputable def jR (n:Int):Option (Bool):=
  (if (decide (n ≥ (-1048576))) then (some (decide (n≤1048576))) else (some false)).bind fun j1=>some j1
noncomputable def bP (r0:Rect):Option (Bool):=
  ((jR r0.X).bind fun r9=>if r9 then ((jR r0.Y).bind fun r10=>if r10 then (if (decide (r0.W<1)) then (some true) else (if (decide (r0.H<1)) then (some true) else (if (decide (r0.W>2097152)) then (some true) else (some (decide (r0.H>2097152)))))) else (some true)) else (some true)).bind fun j8=>if j8 then (some false) else (((jR (aF r0.X r0.W)).bind fun r14=>if r14 then ((jR (aF r0.Y r0.H)).bind fun r15=>some r15) else (some false)).bind fun j13=>some j13)
noncomputable def rM (s65:Bool×Int×Int×Int×Int×Int):(Bool×Int×Int×Int×Int)→Option ((Bool×Int×Int×Int×Int×Int) ⊕ (Bool×Int×Int×Int×Int)):=fun j88 =>
  some (.inl (j88.1,j88.2.1,j88.2.2.1,j88.2.2.2.1,j88.2.2.2.2,(aF s65.2.2.2.2.2 1)))
noncomputable def rO (s65:Bool×Int×Int×Int×Int×Int) (x90:Rect):(Bool×Int×Int×Int×Int)→Option ((Bool×Int×Int×Int×Int×Int) ⊕ (Bool×Int×Int×Int×Int)):=fun j95 =>
  rM s65 (j95.1,(nG j95.2.1 x90.X),(nG j95.2.2.1 x90.Y),(iU j95.2.2.2.1 (aF x90.X x90.W)),(iU j95.2.2.2.2 (aF x90.Y x90.H)))
noncomputable def jA (x0:Piece):(Bool×Int×Int×Int×Int×Int)→Option ((Bool×Int×Int×Int×Int×Int) ⊕ (Bool×Int×Int×Int×Int)):=fun s65 =>
  if (decide (s65.2.2.2.2.2<(x0.Rects.length:Int))) then ((idx x0.Rects s65.2.2.2.2.2).bind fun x90=>(bP x90).bind fun r94=>if (!r94) then (rM s65 (s65.1,s65.2.1,s65.2.2.1,s65.2.2.2.1,s65.2.2.2.2.1)) else (if (!s65.1) then (rO s65 x90 (true,x90.X,x90.Y,(aF x90.X x90.W),(aF x90.Y x90.H))) else (rO s65 x90 (s65.1,s65.2.1,s65.2.2.1,s65.2.2.2.1,s65.2.2.2.2.1)))) else (some (.inr (s65.1,s65.2.1,s65.2.2.1,s65.2.2.2.1,s65.2.2.2.2.1)))
noncomputable def oQ (x0:Piece):Option (Bool):=
  (aD (jA x0) (false,0,0,0,0,0)).bind fun x96=>(if x96.1 then (some (decide ((nG (aH x96.2.2.2.1 x96.2.1) (aH x96.2.2.2.2 x96.2.2.1))<7200))) else (some true)).bind fun j97=>some j97
noncomputable def xS (a:Rect) (b:Rect):Option (Bool):=
  ((eP a).bind fun r4=>if r4 then ((eP b).bind fun r5=>if r5 then (if (decide (b.X≤a.X)) then (if (decide ((aF a.X a.W)≤(aF b.X b.W))) then (if (decide (b.Y≤a.Y)) then (some (decide ((aF a.Y a.H)≤(aF b.Y b.H)))) else (some false)) else (some false)) else (some false)) else (some false)) else (some false)).bind fun j3=>some j3
noncomputable def Dt (r0:Rect) (a_0:Int) (a_1:Int) (a_2:Int) (a_3:Int):Option (Bool):=
  (xS (Rect.mk a_0 a_1 a_2 a_3) r0).bind fun r2=>some r2
noncomputable def aY (s0:(List Rect)) (f_0_0:Int) (f_0_1:Int) (f_0_2:Int) (f_0_3:Int):Int→Option (Int ⊕ (Int ⊕ Unit)):=fun s39 =>
  if (decide (s39<(s0.length:Int))) then ((idx s0 s39).bind fun x54=>(Dt x54 f_0_0 f_0_1 f_0_2 f_0_3).bind fun r55=>if r55 then (some (.inr (.inl s39))) else (some (.inl (aF s39 1)))) else (some (.inr (.inr (()))))
noncomputable def bW (s0:(List Rect)) (f_0_0:Int) (f_0_1:Int) (f_0_2:Int) (f_0_3:Int):Option (Int):=
  (aD (aY s0 f_0_0 f_0_1 f_0_2 f_0_3) 0).bind fun x56=>match x56 with | .inl j57=>some j57 | .inr j58=>some (-1)
noncomputable def bD (s0:(List Rect)) (f_0_0:Int) (f_0_1:Int) (f_0_2:Int) (f_0_3:Int):Option (Bool):=
  (bW s0 f_0_0 f_0_1 f_0_2 f_0_3).bind fun r2=>some (decide (r2 ≥ 0))
noncomputable def tX (l:(List Rect)) (s1:Spot):Int→Option (Int ⊕ (Unit ⊕ Unit)):=fun s41 =>
  if (decide (s41<([(Rect.mk (aH s1.X 1) (aH s1.Y 1) 1 1),(Rect.mk s1.X (aH s1.Y 1) 1 1),(Rect.mk (aH s1.X 1) s1.Y 1 1),(Rect.mk s1.X s1.Y 1 1)].length:Int))) then ((idx [(Rect.mk (aH s1.X 1) (aH s1.Y 1) 1 1),(Rect.mk s1.X (aH s1.Y 1) 1 1),(Rect.mk (aH s1.X 1) s1.Y 1 1),(Rect.mk s1.X s1.Y 1 1)] s41).bind fun x55=>(bD l x55.X x55.Y x55.W x55.H).bind fun r57=>if (!r57) then (some (.inr (.inl ()))) else (some (.inl (aF s41 1)))) else (some (.inr (.inr (()))))
noncomputable def lW (l:(List Rect)) (s1:Spot):Option (Bool):=
  (if (decide (s1.X<(-4194304))) then (some true) else (if (decide (s1.X>4194304)) then (some true) else (if (decide (s1.Y<(-4194304))) then (some true) else (some (decide (s1.Y>4194304)))))).bind fun j2=>if j2 then (some false) else ((aD (tX l s1) 0).bind fun x58=>match x58 with | .inl j59=>some false | .inr j60=>some true)
noncomputable def kP (a:Rect) (b:Rect):Option (Bool):=
  ((bP a).bind fun r4=>if r4 then ((bP b).bind fun r5=>if r5 then (if (decide (a.X ≥ b.X)) then (if (decide (a.Y ≥ b.Y)) then (if (decide ((aF a.X a.W)≤(aF b.X b.W))) then (some (decide ((aF a.Y a.H)≤(aF b.Y b.H)))) else (some false)) else (some false)) else (some false)) else (some false)) else (some false)).bind fun j3=>some j3
noncomputable def iL (l:(List Rect)) (x1:Int) (y:Int):Int→Option (Int ⊕ (Unit ⊕ Unit)):=fun s39 =>
  if (decide (s39<(l.length:Int))) then ((idx l s39).bind fun x54=>(kP (Rect.mk x1 y 1 1) x54).bind fun r55=>if r55 then (some (.inr (.inl ()))) else (some (.inl (aF s39 1)))) else (some (.inr (.inr (()))))
noncomputable def iF (l:(List Rect)) (x1:Int) (y:Int):Option (Bool):=
  (aD (iL l x1 y) 0).bind fun x56=>match x56 with | .inl j57=>some true | .inr j58=>some false
noncomputable def fM (l:(List Rect)) (s1:Spot):Option (Bool):=
  (if (decide (s1.X≤(-1048576))) then (some true) else (if (decide (s1.X ≥ 1048576)) then (some true) else (if (decide (s1.Y≤(-1048576))) then (some true) else (some (decide (s1.Y ≥ 1048576)))))).bind fun j2=>if j2 then (some false) else (((iF l s1.X s1.Y).bind fun r8=>if r8 then ((iF l (aH s1.X 1) s1.Y).bind fun r9=>if r9 then ((iF l s1.X (aH s1.Y 1)).bind fun r10=>if r10 then ((iF l (aH s1.X 1) (aH s1.Y 1)).bind fun r11=>some r11) else (some false)) else (some false)) else (some false)).bind fun j7=>some j7)
def strings_Contains (s sub:ByteArray):Option Bool:=if s.size<4294967281 then some (Go.Lib.contains s.data.toList sub.data.toList) else none
end Go.SM
namespace Go.SM
open Go Go.VI
def uU (s sub:ByteArray):Option Bool:=if s.size<4294967281 then some (Go.Lib.contains s.data.toList sub.data.toList) else none
noncomputable def qK (s0:ByteArray):Int→Option (Int ⊕ (Unit ⊕ Unit)):=fun s41 =>
  if (decide (s41<(s0.size:Int))) then ((Me s0 s41).bind fun x52=>(if (decide (x52<97)) then (if (decide (x52<48)) then (some true) else (some (decide (x52>57)))) else (if (decide (x52>122)) then (if (decide (x52<48)) then (some true) else (some (decide (x52>57)))) else (some false))).bind fun j53=>if j53 then (some (.inr (.inl ()))) else (some (.inl (aF s41 1)))) else (some (.inr (.inr (()))))
noncomputable def kL (s0:ByteArray):Option (Bool):=
  (if (decide ((s0.size:Int)<1)) then (some true) else (if (decide ((s0.size:Int)>8)) then (some true) else ((Me s0 0).bind fun x9=>if (decide (x9<97)) then (some true) else ((Me s0 0).bind fun x10=>some (decide (x10>122)))))).bind fun j8=>if j8 then (some false) else ((aD (qK s0) 0).bind fun x54=>match x54 with | .inl j55=>some false | .inr j56=>(Wm (ByteArray.mk #[32]) s0).bind fun s60=>(Wm s60 (ByteArray.mk #[32])).bind fun s61=>(uU (ByteArray.mk #[32,112,97,114,116,32,109,97,116,101,114,105,97,108,32,98,97,115,101,32,102,108,97,110,103,101,32,104,111,108,101,32,99,117,116,32,102,111,114,109,32,101,97,115,116,32,115,111,117,116,104,32,119,101,115,116,32,110,111,114,116,104,32,117,112,32,100,111,119,110,32,99,108,111,115,101,117,112,32,99,108,111,115,101,100,111,119,110,32,103,114,97,105,110,32,120,32,121,32,116,97,98,108,101,32,97,110,103,108,101,32,109,97,99,104,105,110,101,32,112,117,110,99,104,32,100,105,101,32,102,114,97,109,101,32,103,97,117,103,101,32,112,111,108,121,32,115,116,97,116,105,111,110,115,32]) s61).bind fun r62=>some (!r62))
noncomputable def zX (n:Int) (lo:Int) (hi:Int):Option (Bool):=
  (if (decide (lo≤n)) then (some (decide (n≤hi))) else (some false)).bind fun j1=>some j1
noncomputable def Eh (gauge:Int) (grain:Int):Option (Bool):=
  ((zX gauge 1 60).bind fun r4=>if r4 then ((zX grain 0 2).bind fun r5=>some r5) else (some false)).bind fun j3=>some j3
noncomputable def wW (l:(List Rect)):Int→Option (Int ⊕ (Unit ⊕ Unit)):=fun s39 =>
  if (decide (s39<(l.length:Int))) then ((idx l s39).bind fun x53=>(eP x53).bind fun r55=>if (!r55) then (some (.inr (.inl ()))) else (some (.inl (aF s39 1)))) else (some (.inr (.inr (()))))
noncomputable def vT (l:(List Rect)):Option (Bool):=
  (aD (wW l) 0).bind fun x56=>match x56 with | .inl j57=>some false | .inr j58=>some true
noncomputable def Jk (s0:Sheet) (margin:Int):Option (Rect×Bool):=
  (eP (Rect.mk margin margin (aH s0.Width (lL 2 margin)) (aH s0.Height (lL 2 margin)))).bind fun r3=>some ((Rect.mk margin margin (aH s0.Width (lL 2 margin)) (aH s0.Height (lL 2 margin))),r3)
noncomputable def lC (r38:Rect×Bool) (x388:(List Rect)):Int→Option (Int ⊕ (Unit ⊕ Unit)):=fun s398 =>
  if (decide (s398<(x388.length:Int))) then ((idx x388 s398).bind fun x412=>(xS x412 r38.1).bind fun r414=>if (!r414) then (some (.inr (.inl ()))) else (some (.inl (aF s398 1)))) else (some (.inr (.inr (()))))
noncomputable def lD (s0:Sheet) (r38:Rect×Bool):Int→Option (Int ⊕ (Unit ⊕ Unit)):=fun s293 =>
  if (decide (s293<([s0.Clamps,s0.Used].length:Int))) then ((idx [s0.Clamps,s0.Used] s293).bind fun x388=>(aD (lC r38 x388) 0).bind fun x415=>match x415 with | .inl j416=>some (.inr (.inl ())) | .inr j417=>some (.inl (aF s293 1))) else (some (.inr (.inr (()))))
noncomputable def jN (s0:Sheet):Option (Int):=
  ((kL s0.Name).bind fun r22=>if r22 then ((kL s0.Material).bind fun r23=>some (!r23)) else (some true)).bind fun j21=>if j21 then (some 2) else (((Eh s0.Gauge s0.Grain).bind fun r28=>if r28 then ((zX s0.Width 1 1048576).bind fun r29=>if r29 then ((zX s0.Height 1 1048576).bind fun r30=>some (!r30)) else (some true)) else (some true)).bind fun j27=>if j27 then (some 1) else ((if (decide ((s0.Clamps.length:Int)>4)) then (some true) else (some (decide ((s0.Used.length:Int)>48)))).bind fun j31=>if j31 then (some 4) else (((vT s0.Clamps).bind fun r35=>if r35 then ((vT s0.Used).bind fun r36=>some (!r36)) else (some true)).bind fun j34=>if j34 then (some 1) else ((Jk s0 0).bind fun r38=>(aD (lD s0 r38) 0).bind fun x418=>match x418 with | .inl j419=>some 13 | .inr j420=>some 0))))
noncomputable def yC (a:Rect) (b:Rect):Option (Bool):=
  ((eP a).bind fun r4=>if r4 then ((eP b).bind fun r5=>if r5 then (if (decide (a.X<(aF b.X b.W))) then (if (decide (b.X<(aF a.X a.W))) then (if (decide (a.Y<(aF b.Y b.H))) then (some (decide (b.Y<(aF a.Y a.H)))) else (some false)) else (some false)) else (some false)) else (some false)) else (some false)).bind fun j3=>some j3
noncomputable def Ei (a:Rect) (b:Rect):Option (Bool):=
  (if ((aH (nG (aF a.X a.W) (aF b.X b.W)) (iU a.X b.X))==0) then (if (decide ((aH (nG (aF a.Y a.H) (aF b.Y b.H)) (iU a.Y b.Y))>0)) then (some true) else (if ((aH (nG (aF a.Y a.H) (aF b.Y b.H)) (iU a.Y b.Y))==0) then (some (decide ((aH (nG (aF a.X a.W) (aF b.X b.W)) (iU a.X b.X))>0))) else (some false))) else (if ((aH (nG (aF a.Y a.H) (aF b.Y b.H)) (iU a.Y b.Y))==0) then (some (decide ((aH (nG (aF a.X a.W) (aF b.X b.W)) (iU a.X b.X))>0))) else (some false))).bind fun j1=>some j1
noncomputable def mR (s598:Int×(List Bool)×(List Int)):((List Bool)×(List Int))→Option ((Int×(List Bool)×(List Int)) ⊕ ((List Bool)×(List Int))):=fun j651 =>
  some (.inl ((aF s598.1 1),j651.1,j651.2))
noncomputable def kK (l:(List Rect)) (x561:Int):(Int×(List Bool)×(List Int))→Option ((Int×(List Bool)×(List Int)) ⊕ ((List Bool)×(List Int))):=fun s598 =>
  if (decide (s598.1<(l.length:Int))) then (((idx s598.2.1 s598.1).bind fun x661=>if x661 then (some false) else ((idx l x561).bind fun x662=>(idx l s598.1).bind fun x663=>(Ei x662 x663).bind fun r664=>some r664)).bind fun j660=>if j660 then ((idx s598.2.1 s598.1).bind fun x666=>(app s598.2.2 [s598.1]).bind fun l668=>mR s598 ((List.set s598.2.1 (Int.toNat s598.1) true),l668)) else (mR s598 (s598.2.1,s598.2.2))) else (some (.inr (s598.2.1,s598.2.2)))
noncomputable def mU (l:(List Rect)):((List Bool)×(List Int))→Option (((List Bool)×(List Int)) ⊕ (List Bool)):=fun s449 =>
  if (decide ((s449.2.length:Int)>0)) then ((idx s449.2 0).bind fun x561=>if (decide (1≤s449.2.length)) then ((aD (kK l x561) (0,s449.1,(List.drop 1 s449.2))).bind fun x669=>some (.inl (x669.1,x669.2))) else none) else (some (.inr s449.1))
noncomputable def qJ (x670:(List Bool)):Int→Option (Int ⊕ (Unit ⊕ Unit)):=fun s693 =>
  if (decide (s693<(x670.length:Int))) then ((idx x670 s693).bind fun x701=>if (!x701) then (some (.inr (.inl ()))) else (some (.inl (aF s693 1)))) else (some (.inr (.inr (()))))
noncomputable def yJ (l:(List Rect)):Option (Bool):=
  (mk (l.length:Int) false).bind fun l2=>(idx l2 0).bind fun x4=>(aD (mU l) ((List.set l2 (Int.toNat 0) true),[0])).bind fun x670=>(aD (qJ x670) 0).bind fun x702=>match x702 with | .inl j703=>some false | .inr j704=>some true
noncomputable def sO (h0:Rect) (l:(List Rect)):Int→Option (Int ⊕ (Unit ⊕ Unit)):=fun s31 =>
  if (decide (s31<(l.length:Int))) then ((idx l s31).bind fun x42=>(if (decide (h0.X>x42.X)) then (if (decide (h0.Y>x42.Y)) then (if (decide ((aF h0.X h0.W)<(aF x42.X x42.W))) then (some (decide ((aF h0.Y h0.H)<(aF x42.Y x42.H)))) else (some false)) else (some false)) else (some false)).bind fun j43=>if j43 then (some (.inr (.inl ()))) else (some (.inl (aF s31 1)))) else (some (.inr (.inr (()))))
noncomputable def wV (h0:Rect) (l:(List Rect)):Option (Bool):=
  (aD (sO h0 l) 0).bind fun x44=>match x44 with | .inl j45=>some true | .inr j46=>some false
noncomputable def Ah (a:Rect) (b:Rect):Option (Int):=
  ((eP a).bind fun r9=>if r9 then ((eP b).bind fun r10=>some (!r10)) else (some true)).bind fun j8=>if j8 then (some 0) else (some (iU (iU (iU (iU 0 (aH (aH b.X a.X) a.W)) (aH (aH a.X b.X) b.W)) (aH (aH b.Y a.Y) a.H)) (aH (aH a.Y b.Y) b.H)))
noncomputable def vO (x0:Piece) (l6:(List Rect)):Int→Option (Int ⊕ (Unit ⊕ Unit)):=fun s69 =>
  if (decide (s69<(l6.length:Int))) then ((idx l6 s69).bind fun x92=>(if (decide (s69<(x0.Cuts.length:Int))) then (if (x92.W==1) then (some true) else (if (x92.H==1) then (some true) else ((wV x92 x0.Rects).bind fun r96=>some (!r96)))) else ((wV x92 x0.Rects).bind fun r97=>some (!r97))).bind fun j95=>if j95 then (some (.inr (.inl ()))) else (some (.inl (aF s69 1)))) else (some (.inr (.inr (()))))
noncomputable def vP (x472:Rect) (l474:(List Rect)):Int→Option (Int ⊕ (Unit ⊕ Unit)):=fun s484 =>
  if (decide (s484<(l474.length:Int))) then ((idx l474 s484).bind fun x498=>(Ah x472 x498).bind fun r500=>if (r500==0) then (some (.inr (.inl ()))) else (some (.inl (aF s484 1)))) else (some (.inr (.inr (()))))
noncomputable def vQ (l6:(List Rect)):Int→Option (Int ⊕ (Unit ⊕ Unit)):=fun s371 =>
  if (decide (s371<(l6.length:Int))) then ((idx l6 s371).bind fun x472=>(slc l6 0 s371).bind fun l474=>(aD (vP x472 l474) 0).bind fun x501=>match x501 with | .inl j502=>some (.inr (.inl ())) | .inr j503=>some (.inl (aF s371 1))) else (some (.inr (.inr (()))))
noncomputable def Ls (x0:Piece):Option (Int):=
  (app [] x0.Cuts).bind fun l5=>(app l5 x0.Forms).bind fun l6=>(aD (vO x0 l6) 0).bind fun x98=>match x98 with | .inl j99=>some 13 | .inr j100=>(aD (vQ l6) 0).bind fun x504=>match x504 with | .inl j505=>some 7 | .inr j506=>some 0
noncomputable def bO (x0:Piece):(Int×Int×Int)→Option ((Int×Int×Int) ⊕ (Int×Int)):=fun s57 =>
  if (decide (s57.2.2<(x0.Rects.length:Int))) then ((idx x0.Rects s57.2.2).bind fun x65=>some (.inl ((nG s57.1 x65.X),(nG s57.2.1 x65.Y),(aF s57.2.2 1)))) else (some (.inr (s57.1,s57.2.1)))
noncomputable def kY (x440:Rect) (l442:(List Rect)):Int→Option (Int ⊕ (Unit ⊕ Unit)):=fun s452 =>
  if (decide (s452<(l442.length:Int))) then ((idx l442 s452).bind fun x466=>(yC x440 x466).bind fun r468=>if r468 then (some (.inr (.inl ()))) else (some (.inl (aF s452 1)))) else (some (.inr (.inr (()))))
noncomputable def kZ (x0:Piece):Int→Option (Int ⊕ (Unit ⊕ Unit)):=fun s339 =>
  if (decide (s339<(x0.Rects.length:Int))) then ((idx x0.Rects s339).bind fun x440=>(slc x0.Rects 0 s339).bind fun l442=>(aD (kY x440 l442) 0).bind fun x469=>match x469 with | .inl j470=>some (.inr (.inl ())) | .inr j471=>some (.inl (aF s339 1))) else (some (.inr (.inr (()))))
noncomputable def dV (x0:Piece):Option (Int):=
  ((kL x0.Name).bind fun r19=>if r19 then ((kL x0.Material).bind fun r20=>some (!r20)) else (some true)).bind fun j18=>if j18 then (some 2) else ((Eh x0.Gauge x0.Grain).bind fun r22=>if (!r22) then (some 1) else ((if (decide ((x0.Rects.length:Int)>12)) then (some true) else (if (decide ((x0.Cuts.length:Int)>12)) then (some true) else (some (decide ((x0.Forms.length:Int)>12))))).bind fun j23=>if j23 then (some 4) else ((if ((x0.Rects.length:Int)==0) then (some true) else ((vT x0.Rects).bind fun r28=>if r28 then ((vT x0.Cuts).bind fun r29=>if r29 then ((vT x0.Forms).bind fun r30=>some (!r30)) else (some true)) else (some true))).bind fun j27=>if j27 then (some 1) else ((idx x0.Rects 0).bind fun x35=>(idx x0.Rects 0).bind fun x36=>(aD (bO x0) (x35.X,x36.Y,0)).bind fun x66=>(if (x66.1 != 0) then (some true) else (some (x66.2 != 0))).bind fun j68=>if j68 then (some 1) else ((aD (kZ x0) 0).bind fun x472=>match x472 with | .inl j473=>some 7 | .inr j474=>(yJ x0.Rects).bind fun r478=>if (!r478) then (some 6) else ((Ls x0).bind fun r480=>some r480))))))
noncomputable def kQ (s:(List Rect)):Option (List Rect):=app [] s
noncomputable def Fh (s107:Int×(List Rect)):(List Rect)→Option (Int×(List Rect) ⊕ (List Rect)):=fun j145 =>
  some (.inl ((aF s107.1 1),j145))
noncomputable def Ar (x1:Int) (y:Int) (r2:(List Rect)):Int×(List Rect)→Option (Int×(List Rect) ⊕ (List Rect)):=fun s107 =>
  if (decide (s107.1<(r2.length:Int))) then ((idx s107.2 s107.1).bind fun x147=>(if (decide (x147.X<(-4194304))) then (some true) else (if (decide (x147.X>4194304)) then (some true) else (if (decide (x147.Y<(-4194304))) then (some true) else (some (decide (x147.Y>4194304)))))).bind fun j151=>if j151 then ((s107.2[Int.toNat s107.1]?).bind fun x153=>Fh s107 (List.set s107.2 (Int.toNat s107.1) (Rect.mk x153.X x153.Y 0 x153.H))) else ((s107.2[Int.toNat s107.1]?).bind fun x156=>(s107.2[Int.toNat s107.1]?).bind fun x157=>Fh s107 (List.set (List.set s107.2 (Int.toNat s107.1) (Rect.mk (aH x156.X x1) x157.Y x157.W x157.H)) (Int.toNat s107.1) (Rect.mk (((Rect.mk (aH x156.X x1) x157.Y x157.W x157.H)).X) (aH (((Rect.mk (aH x156.X x1) x157.Y x157.W x157.H)).Y) y) (((Rect.mk (aH x156.X x1) x157.Y x157.W x157.H)).W) (((Rect.mk (aH x156.X x1) x157.Y x157.W x157.H)).H))))) else (some (.inr s107.2))
noncomputable def Ht (l:(List Rect)) (x1:Int) (y:Int):Option ((List Rect)):=
  (kQ l).bind fun r2=>(aD (Ar x1 y r2) (0,r2)).bind fun x158=>some x158
noncomputable def pV (x0:Piece):Int→Option (Int ⊕ (Unit ⊕ Unit)):=fun s39 =>
  if (decide (s39<(x0.Rects.length:Int))) then ((idx x0.Rects s39).bind fun x53=>(eP x53).bind fun r55=>if (!r55) then (some (.inr (.inl ()))) else (some (.inl (aF s39 1)))) else (some (.inr (.inr (()))))
noncomputable def fA (x0:Piece):(Int×Int×Int)→Option ((Int×Int×Int) ⊕ (Int×Int)):=fun s89 =>
  if (decide (s89.2.2<(x0.Rects.length:Int))) then ((idx x0.Rects s89.2.2).bind fun x97=>some (.inl ((nG s89.1 x97.X),(nG s89.2.1 x97.Y),(aF s89.2.2 1)))) else (some (.inr (s89.1,s89.2.1)))
noncomputable def nX (x0:Piece):Option (Int):=
  (aD (pV x0) 0).bind fun x56=>match x56 with | .inl j57=>some 1 | .inr j58=>if ((x0.Rects.length:Int)==0) then ((dV x0).bind fun r62=>some r62) else ((idx x0.Rects 0).bind fun x67=>(idx x0.Rects 0).bind fun x68=>(aD (fA x0) (x67.X,x68.Y,0)).bind fun x98=>(Ht x0.Rects x98.1 x98.2).bind fun r105=>(Ht x0.Cuts x98.1 x98.2).bind fun r106=>(Ht x0.Forms x98.1 x98.2).bind fun r107=>(dV (Piece.mk x0.Name x0.Material x0.Gauge x0.Grain r105 r106 r107)).bind fun r109=>some r109)
noncomputable def Gf (x0:Rect) (a_0:Int) (a_1:Int) (a_2:Int) (a_3:Int):Option (Bool):=
  (yC (Rect.mk a_0 a_1 a_2 a_3) x0).bind fun r2=>some r2
noncomputable def aW (s0:(List Rect)) (f_0_0:Int) (f_0_1:Int) (f_0_2:Int) (f_0_3:Int):Int→Option (Int ⊕ (Int ⊕ Unit)):=fun s39 =>
  if (decide (s39<(s0.length:Int))) then ((idx s0 s39).bind fun x54=>(Gf x54 f_0_0 f_0_1 f_0_2 f_0_3).bind fun r55=>if r55 then (some (.inr (.inl s39))) else (some (.inl (aF s39 1)))) else (some (.inr (.inr (()))))
noncomputable def dG (s0:(List Rect)) (f_0_0:Int) (f_0_1:Int) (f_0_2:Int) (f_0_3:Int):Option (Int):=
  (aD (aW s0 f_0_0 f_0_1 f_0_2 f_0_3) 0).bind fun x56=>match x56 with | .inl j57=>some j57 | .inr j58=>some (-1)
noncomputable def bV (s0:(List Rect)) (f_0_0:Int) (f_0_1:Int) (f_0_2:Int) (f_0_3:Int):Option (Bool):=
  (dG s0 f_0_0 f_0_1 f_0_2 f_0_3).bind fun r2=>some (decide (r2 ≥ 0))
noncomputable def Dj (r0:Rect) (l:(List Rect)):Option (Bool):=
  (bV l r0.X r0.Y r0.W r0.H).bind fun r2=>some r2
noncomputable def bL (l:LayoutT):Int→Option (Int ⊕ (Int ⊕ Unit)):=fun s43 =>
  if (decide (s43<(l.Pieces.length:Int))) then ((idx l.Pieces s43).bind fun x57=>(nX x57).bind fun r59=>if (r59 != 0) then (some (.inr (.inl r59))) else (some (.inl (aF s43 1)))) else (some (.inr (.inr (()))))
noncomputable def tZ (l:LayoutT) (x742:Piece):Int→Option (Int ⊕ (Unit ⊕ Unit)):=fun s762 =>
  if (decide (s762<(x742.Rects.length:Int))) then ((idx x742.Rects s762).bind fun x791=>((xS x791 (Rect.mk 0 0 l.Sheet.Width l.Sheet.Height)).bind fun r796=>if r796 then ((Dj x791 l.Sheet.Clamps).bind fun r797=>if r797 then (some true) else ((Dj x791 l.Sheet.Used).bind fun r798=>some r798)) else (some true)).bind fun j795=>if j795 then (some (.inr (.inl ()))) else (some (.inl (aF s762 1)))) else (some (.inr (.inr (()))))
noncomputable def uA (l:LayoutT):Int→Option (Int ⊕ (Unit ⊕ Unit)):=fun s557 =>
  if (decide (s557<(l.Pieces.length:Int))) then ((idx l.Pieces s557).bind fun x742=>(aD (tZ l x742) 0).bind fun x799=>match x799 with | .inl j800=>some (.inr (.inl ())) | .inr j801=>some (.inl (aF s557 1))) else (some (.inr (.inr (()))))
noncomputable def uB (x2958:Piece) (x3119:Piece):Int→Option (Int ⊕ (Unit ⊕ Unit)):=fun s3129 =>
  if (decide (s3129<(x2958.Rects.length:Int))) then ((idx x2958.Rects s3129).bind fun x3143=>(Dj x3143 x3119.Rects).bind fun r3145=>if r3145 then (some (.inr (.inl ()))) else (some (.inl (aF s3129 1)))) else (some (.inr (.inr (()))))
noncomputable def uC (x2958:Piece) (l2960:(List Piece)):Int→Option (Int ⊕ (Unit ⊕ Unit)):=fun s3024 =>
  if (decide (s3024<(l2960.length:Int))) then ((idx l2960 s3024).bind fun x3119=>(aD (uB x2958 x3119) 0).bind fun x3146=>match x3146 with | .inl j3147=>some (.inr (.inl ())) | .inr j3148=>some (.inl (aF s3024 1))) else (some (.inr (.inr (()))))
noncomputable def uD (l:LayoutT):Int→Option (Int ⊕ (Unit ⊕ Unit)):=fun s2371 =>
  if (decide (s2371<(l.Pieces.length:Int))) then ((idx l.Pieces s2371).bind fun x2958=>(slc l.Pieces 0 s2371).bind fun l2960=>(aD (uC x2958 l2960) 0).bind fun x3149=>match x3149 with | .inl j3150=>some (.inr (.inl ())) | .inr j3151=>some (.inl (aF s2371 1))) else (some (.inr (.inr (()))))
noncomputable def tH (l:LayoutT):Option (Int):=
  (jN l.Sheet).bind fun r4=>if (r4 != 0) then (some r4) else (if (decide ((l.Pieces.length:Int)>8)) then (some 4) else ((aD (bL l) 0).bind fun x60=>match x60 with | .inl j61=>some j61 | .inr j62=>(aD (uA l) 0).bind fun x802=>match x802 with | .inl j803=>some 13 | .inr j804=>(aD (uD l) 0).bind fun x3152=>match x3152 with | .inl j3153=>some 7 | .inr j3154=>some 0))
noncomputable def Gp:(Int×Int)→Option (Int):=fun j3 =>
  (Me (ByteArray.mk #[0,1,2,2,3,3,3,3,4,4,4,4,4,4,4,4,5,5,5,5,5,5,5,5,5,5,5,5,5,5,5,5,6,6,6,6,6,6,6,6,6,6,6,6,6,6,6,6,6,6,6,6,6,6,6,6,6,6,6,6,6,6,6,6,7,7,7,7,7,7,7,7,7,7,7,7,7,7,7,7,7,7,7,7,7,7,7,7,7,7,7,7,7,7,7,7,7,7,7,7,7,7,7,7,7,7,7,7,7,7,7,7,7,7,7,7,7,7,7,7,7,7,7,7,7,7,7,7,8,8,8,8,8,8,8,8,8,8,8,8,8,8,8,8,8,8,8,8,8,8,8,8,8,8,8,8,8,8,8,8,8,8,8,8,8,8,8,8,8,8,8,8,8,8,8,8,8,8,8,8,8,8,8,8,8,8,8,8,8,8,8,8,8,8,8,8,8,8,8,8,8,8,8,8,8,8,8,8,8,8,8,8,8,8,8,8,8,8,8,8,8,8,8,8,8,8,8,8,8,8,8,8,8,8,8,8,8,8,8,8,8,8,8,8,8,8,8,8,8,8,8,8,8,8,8,8]) (IntKind.wrap .u8 j3.1)).bind fun x5=>some (aF j3.2 (IntKind.wrap .i64 x5))
noncomputable def Gq:(Int×Int)→Option (Int):=fun j2 =>
  if (decide (j2.1 ≥ 256)) then (Gp ((Int.fdiv j2.1 (2^(min (Int.toNat 8) 64))),(aF j2.2 8))) else (Gp (j2.1,j2.2))
noncomputable def Gs:(Int×Int)→Option (Int):=fun j1 =>
  if (decide (j1.1 ≥ 65536)) then (Gq ((Int.fdiv j1.1 (2^(min (Int.toNat 16) 64))),(aF j1.2 16))) else (Gq (j1.1,j1.2))
noncomputable def bits_Len64 (x0:Int):Option (Int):=
  if (decide (x0 ≥ 4294967296)) then (Gs ((Int.fdiv x0 (2^(min (Int.toNat 32) 64))),32)) else (Gs (x0,0))
noncomputable def bits_Len (x0:Int):Option (Int):=
  (bits_Len64 x0).bind fun r2=>some r2
noncomputable def cmp_isNaN_int (x0:Int):Option (Bool):=
  some (x0 != x0)
noncomputable def cmp_Compare_int (x0:Int) (y:Int):Option (Int):=
  (cmp_isNaN_int x0).bind fun r2=>(cmp_isNaN_int y).bind fun r4=>if r2 then (if r4 then (some 0) else (some (-1))) else (if r4 then (some 1) else (if (decide (x0<y)) then (some (-1)) else (if (decide (x0>y)) then (some 1) else (some 0))))
noncomputable def nU (a:Int):Int×(List Int)→Option (Int×(List Int) ⊕ (List Int)):=fun s723 =>
  (if (decide (s723.1>a)) then ((idx s723.2 s723.1).bind fun x785=>(idx s723.2 (aH s723.1 1)).bind fun x786=>(cmp_Compare_int x785 x786).bind fun r787=>some (decide (r787<0))) else (some false)).bind fun j784=>if j784 then ((idx s723.2 (aH s723.1 1)).bind fun x808=>(idx s723.2 s723.1).bind fun x809=>(idx s723.2 s723.1).bind fun x810=>(idx (List.set s723.2 (Int.toNat s723.1) x808) (aH s723.1 1)).bind fun x811=>some (.inl ((aH s723.1 1),(List.set (List.set s723.2 (Int.toNat s723.1) x808) (Int.toNat (aH s723.1 1)) x809)))) else (some (.inr s723.2))
noncomputable def nV (a:Int) (b:Int):Int×(List Int)→Option (Int×(List Int) ⊕ (List Int)):=fun s272 =>
  if (decide (s272.1<b)) then ((aD (nU a) (s272.1,s272.2)).bind fun x812=>some (.inl ((aF s272.1 1),x812))) else (some (.inr s272.2))
noncomputable def iN (a:Int) (b:Int) (h0:(List Int)):Option ((List Int)):=
  (aD (nV a b) ((aF a 1),h0)).bind fun x813=>some x813
noncomputable def dY (first:Int) (s53:Int×(List Int)):Int→Option (Int×(List Int) ⊕ ((List Int) ⊕ (List Int))):=fun j115 =>
  (idx s53.2 (aF first s53.1)).bind fun x131=>(idx s53.2 (aF first j115)).bind fun x132=>(cmp_Compare_int x131 x132).bind fun r133=>if (!(decide (r133<0))) then (some (.inr (.inr s53.2))) else ((idx s53.2 (aF first j115)).bind fun x142=>(idx s53.2 (aF first s53.1)).bind fun x143=>(idx s53.2 (aF first s53.1)).bind fun x144=>(idx (List.set s53.2 (Int.toNat (aF first s53.1)) x142) (aF first j115)).bind fun x145=>some (.inl (j115,(List.set (List.set s53.2 (Int.toNat (aF first s53.1)) x142) (Int.toNat (aF first j115)) x143))))
noncomputable def rY (hi:Int) (first:Int):Int×(List Int)→Option (Int×(List Int) ⊕ ((List Int) ⊕ (List Int))):=fun s53 =>
  if (decide ((aF (lL 2 s53.1) 1) ≥ hi)) then (some (.inr (.inl s53.2))) else ((if (decide ((aF (aF (lL 2 s53.1) 1) 1)<hi)) then ((idx s53.2 (aF first (aF (lL 2 s53.1) 1))).bind fun x153=>(idx s53.2 (aF (aF first (aF (lL 2 s53.1) 1)) 1)).bind fun x154=>(cmp_Compare_int x153 x154).bind fun r155=>some (decide (r155<0))) else (some false)).bind fun j152=>if j152 then (dY first s53 (aF (aF (lL 2 s53.1) 1) 1)) else (dY first s53 (aF (lL 2 s53.1) 1)))
noncomputable def fD (lo:Int) (hi:Int) (first:Int) (h0:(List Int)):Option ((List Int)):=
  (aD (rY hi first) (lo,h0)).bind fun x156=>match x156 with | .inl j157=>some j157 | .inr j158=>some j158
noncomputable def rQ (a:Int) (b:Int):Int×(List Int)→Option (Int×(List Int) ⊕ (List Int)):=fun s21 =>
  if (decide (s21.1 ≥ 0)) then ((fD s21.1 (aH b a) a s21.2).bind fun r29=>some (.inl ((aH s21.1 1),r29))) else (some (.inr s21.2))
noncomputable def rU (a:Int):Int×(List Int)→Option (Int×(List Int) ⊕ (List Int)):=fun s60 =>
  if (decide (s60.1 ≥ 0)) then ((idx s60.2 (aF a s60.1)).bind fun x111=>(idx s60.2 a).bind fun x112=>(idx s60.2 a).bind fun x113=>(idx (List.set s60.2 (Int.toNat a) x111) (aF a s60.1)).bind fun x114=>(fD 0 s60.1 a (List.set (List.set s60.2 (Int.toNat a) x111) (Int.toNat (aF a s60.1)) x112)).bind fun r116=>some (.inl ((aH s60.1 1),r116))) else (some (.inr s60.2))
noncomputable def kD (a:Int) (b:Int) (h0:(List Int)):Option ((List Int)):=
  (aD (rQ a b) ((wN (aH (aH b a) 1) 2),h0)).bind fun x30=>(aD (rU a) ((aH (aH b a) 1),x30)).bind fun x117=>some x117
noncomputable def yT (length:Int):Option (Int):=
  (bits_Len (IntKind.wrap .u64 length)).bind fun r2=>if (decide (0≤r2)) then (some (IntKind.wrap .u64 (1*2^(min (Int.toNat r2) 64)))) else none
noncomputable def Be (h0_0:Int):Option (Int):=
  some (jI .u64 (jI .u64 (jI .u64 h0_0 (IntKind.wrap .u64 (h0_0*2^(min (Int.toNat 13) 64)))) (Int.fdiv (jI .u64 h0_0 (IntKind.wrap .u64 (h0_0*2^(min (Int.toNat 13) 64)))) (2^(min (Int.toNat 7) 64)))) (IntKind.wrap .u64 ((jI .u64 (jI .u64 h0_0 (IntKind.wrap .u64 (h0_0*2^(min (Int.toNat 13) 64)))) (Int.fdiv (jI .u64 h0_0 (IntKind.wrap .u64 (h0_0*2^(min (Int.toNat 13) 64)))) (2^(min (Int.toNat 7) 64))))*2^(min (Int.toNat 17) 64))))
noncomputable def bX (a:Int) (s34:Int×Int×(List Int)):Int→Option (Int×Int×(List Int) ⊕ (List Int)):=fun j82 =>
  (idx s34.2.2 (aF a j82)).bind fun x91=>(idx s34.2.2 s34.1).bind fun x92=>(idx s34.2.2 s34.1).bind fun x93=>(idx (List.set s34.2.2 (Int.toNat s34.1) x91) (aF a j82)).bind fun x94=>some (.inl ((aF s34.1 1),(jI .u64 (jI .u64 (jI .u64 s34.2.1 (IntKind.wrap .u64 (s34.2.1*2^(min (Int.toNat 13) 64)))) (Int.fdiv (jI .u64 s34.2.1 (IntKind.wrap .u64 (s34.2.1*2^(min (Int.toNat 13) 64)))) (2^(min (Int.toNat 7) 64)))) (IntKind.wrap .u64 ((jI .u64 (jI .u64 s34.2.1 (IntKind.wrap .u64 (s34.2.1*2^(min (Int.toNat 13) 64)))) (Int.fdiv (jI .u64 s34.2.1 (IntKind.wrap .u64 (s34.2.1*2^(min (Int.toNat 13) 64)))) (2^(min (Int.toNat 7) 64))))*2^(min (Int.toNat 17) 64)))),(List.set (List.set s34.2.2 (Int.toNat s34.1) x91) (Int.toNat (aF a j82)) x92)))
noncomputable def nS (a:Int) (b:Int) (r2:Int):Int×Int×(List Int)→Option (Int×Int×(List Int) ⊕ (List Int)):=fun s34 =>
  if (decide (s34.1≤(aF (aF a (lL (wN (aH b a) 4) 2)) 1))) then ((Be s34.2.1).bind fun r81=>if (decide ((IntKind.wrap .i64 (Ru .u64 r81 (IntKind.wrap .u64 (r2-1)))) ≥ (aH b a))) then (bX a s34 (aH (IntKind.wrap .i64 (Ru .u64 r81 (IntKind.wrap .u64 (r2-1)))) (aH b a))) else (bX a s34 (IntKind.wrap .i64 (Ru .u64 r81 (IntKind.wrap .u64 (r2-1)))))) else (some (.inr s34.2.2))
noncomputable def iM (a:Int) (b:Int) (h0:(List Int)):Option ((List Int)):=
  if (decide ((aH b a) ≥ 8)) then ((yT (aH b a)).bind fun r2=>(aD (nS a b r2) ((aH (aF a (lL (wN (aH b a) 4) 2)) 1),(IntKind.wrap .u64 (aH b a)),h0)).bind fun x95=>some x95) else (some h0)
noncomputable def cK (data:(List Int)) (a:Int) (b:Int) (h0_0:Int):Option (Int×Int×Int):=
  (idx data b).bind fun x16=>(idx data a).bind fun x17=>(cmp_Compare_int x16 x17).bind fun r18=>if (decide (r18<0)) then (some (b,a,(aF h0_0 1))) else (some (a,b,h0_0))
noncomputable def fJ (data:(List Int)) (a:Int) (b:Int) (c:Int) (h0_0:Int):Option (Int×Int):=
  (cK data a b h0_0).bind fun r2=>(cK data r2.2.1 c r2.2.2).bind fun r4=>(cK data r2.1 r4.1 r4.2.2).bind fun r6=>some (r6.2.1,r6.2.2)
noncomputable def bH (data:(List Int)) (a:Int) (h0_0:Int):Option (Int×Int):=
  (fJ data (aH a 1) a (aF a 1) h0_0).bind fun r2=>some (r2.1,r2.2)
noncomputable def dA:(Int×Int)→Option (Int×Int):=fun j16 =>
  if (j16.2==0) then (some (j16.1,1)) else (if (j16.2==12) then (some (j16.1,2)) else (some (j16.1,0)))
noncomputable def dB (data:(List Int)):(Int×Int×Int×Int)→Option (Int×Int):=fun j23 =>
  (fJ data j23.1 j23.2.1 j23.2.2.1 j23.2.2.2).bind fun r25=>dA (r25.1,r25.2)
noncomputable def jG (data:(List Int)) (a:Int) (b:Int):Option (Int×Int):=
  if (decide ((aH b a) ≥ 8)) then (if (decide ((aH b a) ≥ 50)) then ((bH data (aF a (lL (wN (aH b a) 4) 1)) 0).bind fun r27=>(bH data (aF a (lL (wN (aH b a) 4) 2)) r27.2).bind fun r29=>(bH data (aF a (lL (wN (aH b a) 4) 3)) r29.2).bind fun r31=>dB data (r27.1,r29.1,r31.1,r31.2)) else (dB data ((aF a (lL (wN (aH b a) 4) 1)),(aF a (lL (wN (aH b a) 4) 2)),(aF a (lL (wN (aH b a) 4) 3)),0))) else (dA ((aF a (lL (wN (aH b a) 4) 2)),0))
noncomputable def oL:Int×Int×(List Int)→Option (Int×Int×(List Int) ⊕ (List Int)):=fun s14 =>
  if (decide (s14.1<s14.2.1)) then ((idx s14.2.2 s14.2.1).bind fun x35=>(idx s14.2.2 s14.1).bind fun x36=>(idx s14.2.2 s14.1).bind fun x37=>(idx (List.set s14.2.2 (Int.toNat s14.1) x35) s14.2.1).bind fun x38=>some (.inl ((aF s14.1 1),(aH s14.2.1 1),(List.set (List.set s14.2.2 (Int.toNat s14.1) x35) (Int.toNat s14.2.1) x36)))) else (some (.inr s14.2.2))
noncomputable def iT (a:Int) (b:Int) (h0:(List Int)):Option ((List Int)):=
  (aD (oL) (a,(aH b 1),h0)).bind fun x39=>some x39
noncomputable def bJ (s5515:Int×Int×(List Int)):Int×(List Int)→Option (Int×Int×(List Int) ⊕ (Bool×(List Int) ⊕ (List Int))):=fun j7581 =>
  some (.inl (j7581.1,(aF s5515.2.1 1),j7581.2))
noncomputable def lQ (b:Int) (s5515:Int×Int×(List Int)):Int→Option (Int ⊕ Int):=fun s7666 =>
  (if (decide (s7666<b)) then ((idx s5515.2.2 s7666).bind fun x7704=>(idx s5515.2.2 (aH s7666 1)).bind fun x7705=>(cmp_Compare_int x7704 x7705).bind fun r7706=>some (!(decide (r7706<0)))) else (some false)).bind fun j7703=>if j7703 then (some (.inl (aF s7666 1))) else (some (.inr s7666))
noncomputable def lS (b:Int):Int×(List Int)→Option (Int×(List Int) ⊕ (List Int)):=fun s7965 =>
  if (decide (s7965.1<b)) then ((idx s7965.2 s7965.1).bind fun x8071=>(idx s7965.2 (aH s7965.1 1)).bind fun x8072=>(cmp_Compare_int x8071 x8072).bind fun r8073=>if (!(decide (r8073<0))) then (some (.inr s7965.2)) else ((idx s7965.2 (aH s7965.1 1)).bind fun x8082=>(idx s7965.2 s7965.1).bind fun x8083=>(idx s7965.2 s7965.1).bind fun x8084=>(idx (List.set s7965.2 (Int.toNat s7965.1) x8082) (aH s7965.1 1)).bind fun x8085=>some (.inl ((aF s7965.1 1),(List.set (List.set s7965.2 (Int.toNat s7965.1) x8082) (Int.toNat (aH s7965.1 1)) x8083))))) else (some (.inr s7965.2))
noncomputable def bK (b:Int) (s5515:Int×Int×(List Int)) (x7707:Int):(List Int)→Option (Int×Int×(List Int) ⊕ (Bool×(List Int) ⊕ (List Int))):=fun j7903 =>
  if (decide ((aH b x7707) ≥ 2)) then ((aD (lS b) ((aF x7707 1),j7903)).bind fun x8086=>bJ s5515 (x7707,x8086)) else (bJ s5515 (x7707,j7903))
noncomputable def lT:Int×(List Int)→Option (Int×(List Int) ⊕ (List Int)):=fun s8148 =>
  if (decide (s8148.1 ≥ 1)) then ((idx s8148.2 s8148.1).bind fun x8254=>(idx s8148.2 (aH s8148.1 1)).bind fun x8255=>(cmp_Compare_int x8254 x8255).bind fun r8256=>if (!(decide (r8256<0))) then (some (.inr s8148.2)) else ((idx s8148.2 (aH s8148.1 1)).bind fun x8265=>(idx s8148.2 s8148.1).bind fun x8266=>(idx s8148.2 s8148.1).bind fun x8267=>(idx (List.set s8148.2 (Int.toNat s8148.1) x8265) (aH s8148.1 1)).bind fun x8268=>some (.inl ((aH s8148.1 1),(List.set (List.set s8148.2 (Int.toNat s8148.1) x8265) (Int.toNat (aH s8148.1 1)) x8266))))) else (some (.inr s8148.2))
noncomputable def lU (a:Int) (b:Int):Int×Int×(List Int)→Option (Int×Int×(List Int) ⊕ (Bool×(List Int) ⊕ (List Int))):=fun s5515 =>
  if (decide (s5515.2.1<5)) then ((aD (lQ b s5515) s5515.1).bind fun x7707=>if (x7707==b) then (some (.inr (.inl (true,s5515.2.2)))) else (if (decide ((aH b a)<50)) then (some (.inr (.inl (false,s5515.2.2)))) else ((idx s5515.2.2 (aH x7707 1)).bind fun x7716=>(idx s5515.2.2 x7707).bind fun x7717=>(idx s5515.2.2 x7707).bind fun x7718=>(idx (List.set s5515.2.2 (Int.toNat x7707) x7716) (aH x7707 1)).bind fun x7719=>if (decide ((aH x7707 a) ≥ 2)) then ((aD (lT) ((aH x7707 1),(List.set (List.set s5515.2.2 (Int.toNat x7707) x7716) (Int.toNat (aH x7707 1)) x7717))).bind fun x8269=>bK b s5515 x7707 x8269) else (bK b s5515 x7707 (List.set (List.set s5515.2.2 (Int.toNat x7707) x7716) (Int.toNat (aH x7707 1)) x7717))))) else (some (.inr (.inr s5515.2.2)))
noncomputable def fG (a:Int) (b:Int) (h0:(List Int)):Option (Bool×(List Int)):=
  (aD (lU a b) ((aF a 1),0,h0)).bind fun x8270=>match x8270 with | .inl j8271=>some (j8271.1,j8271.2) | .inr j8272=>some (false,j8272)
noncomputable def nL (a:Int) (s1073:Int×Int×(List Int)):Int→Option (Int ⊕ Int):=fun s1422 =>
  (if (decide (s1422≤s1073.2.1)) then ((idx s1073.2.2 a).bind fun x1460=>(idx s1073.2.2 s1422).bind fun x1461=>(cmp_Compare_int x1460 x1461).bind fun r1462=>some (!(decide (r1462<0)))) else (some false)).bind fun j1459=>if j1459 then (some (.inl (aF s1422 1))) else (some (.inr s1422))
noncomputable def nM (a:Int) (s1073:Int×Int×(List Int)) (x1463:Int):Int→Option (Int ⊕ Int):=fun s1548 =>
  (if (decide (x1463≤s1548)) then ((idx s1073.2.2 a).bind fun x1586=>(idx s1073.2.2 s1548).bind fun x1587=>(cmp_Compare_int x1586 x1587).bind fun r1588=>some (decide (r1588<0))) else (some false)).bind fun j1585=>if j1585 then (some (.inl (aH s1548 1))) else (some (.inr s1548))
noncomputable def nN (a:Int):Int×Int×(List Int)→Option (Int×Int×(List Int) ⊕ Int×(List Int)):=fun s1073 =>
  (aD (nL a s1073) s1073.1).bind fun x1463=>(aD (nM a s1073 x1463) s1073.2.1).bind fun x1589=>if (decide (x1463>x1589)) then (some (.inr (x1463,s1073.2.2))) else ((idx s1073.2.2 x1589).bind fun x1598=>(idx s1073.2.2 x1463).bind fun x1599=>(idx s1073.2.2 x1463).bind fun x1600=>(idx (List.set s1073.2.2 (Int.toNat x1463) x1598) x1589).bind fun x1601=>some (.inl ((aF x1463 1),(aH x1589 1),(List.set (List.set s1073.2.2 (Int.toNat x1463) x1598) (Int.toNat x1589) x1599))))
noncomputable def gY (a:Int) (b:Int) (pivot:Int) (h0:(List Int)):Option (Int×(List Int)):=
  (idx h0 pivot).bind fun x9=>(idx h0 a).bind fun x10=>(idx h0 a).bind fun x11=>(idx (List.set h0 (Int.toNat a) x9) pivot).bind fun x12=>(aD (nN a) ((aF a 1),(aH b 1),(List.set (List.set h0 (Int.toNat a) x9) (Int.toNat pivot) x10))).bind fun x1602=>some (x1602.1,x1602.2)
noncomputable def qO (a:Int) (b:Int) (pivot:Int) (h0:(List Int)) (x9:Int) (x10:Int):Int→Option (Int ⊕ Int):=fun s97 =>
  (if (decide (s97≤(aH b 1))) then ((idx (List.set (List.set h0 (Int.toNat a) x9) (Int.toNat pivot) x10) s97).bind fun x135=>(idx (List.set (List.set h0 (Int.toNat a) x9) (Int.toNat pivot) x10) a).bind fun x136=>(cmp_Compare_int x135 x136).bind fun r137=>some (decide (r137<0))) else (some false)).bind fun j134=>if j134 then (some (.inl (aF s97 1))) else (some (.inr s97))
noncomputable def qQ (a:Int) (pivot:Int) (h0:(List Int)) (x9:Int) (x10:Int) (x138:Int):Int→Option (Int ⊕ Int):=fun s223 =>
  (if (decide (x138≤s223)) then ((idx (List.set (List.set h0 (Int.toNat a) x9) (Int.toNat pivot) x10) s223).bind fun x261=>(idx (List.set (List.set h0 (Int.toNat a) x9) (Int.toNat pivot) x10) a).bind fun x262=>(cmp_Compare_int x261 x262).bind fun r263=>some (!(decide (r263<0)))) else (some false)).bind fun j260=>if j260 then (some (.inl (aH s223 1))) else (some (.inr s223))
noncomputable def qU (a:Int) (s1361:Int×Int×(List Int)):Int→Option (Int ⊕ Int):=fun s1710 =>
  (if (decide (s1710≤s1361.2.1)) then ((idx s1361.2.2 s1710).bind fun x1748=>(idx s1361.2.2 a).bind fun x1749=>(cmp_Compare_int x1748 x1749).bind fun r1750=>some (decide (r1750<0))) else (some false)).bind fun j1747=>if j1747 then (some (.inl (aF s1710 1))) else (some (.inr s1710))
noncomputable def qY (a:Int) (s1361:Int×Int×(List Int)) (x1751:Int):Int→Option (Int ⊕ Int):=fun s1836 =>
  (if (decide (x1751≤s1836)) then ((idx s1361.2.2 s1836).bind fun x1874=>(idx s1361.2.2 a).bind fun x1875=>(cmp_Compare_int x1874 x1875).bind fun r1876=>some (!(decide (r1876<0)))) else (some false)).bind fun j1873=>if j1873 then (some (.inl (aH s1836 1))) else (some (.inr s1836))
noncomputable def qZ (a:Int):Int×Int×(List Int)→Option (Int×Int×(List Int) ⊕ Int×(List Int)):=fun s1361 =>
  (aD (qU a s1361) s1361.1).bind fun x1751=>(aD (qY a s1361 x1751) s1361.2.1).bind fun x1877=>if (decide (x1751>x1877)) then (some (.inr (x1877,s1361.2.2))) else ((idx s1361.2.2 x1877).bind fun x1886=>(idx s1361.2.2 x1751).bind fun x1887=>(idx s1361.2.2 x1751).bind fun x1888=>(idx (List.set s1361.2.2 (Int.toNat x1751) x1886) x1877).bind fun x1889=>some (.inl ((aF x1751 1),(aH x1877 1),(List.set (List.set s1361.2.2 (Int.toNat x1751) x1886) (Int.toNat x1877) x1887))))
noncomputable def jX (a:Int) (b:Int) (pivot:Int) (h0:(List Int)):Option (Int×Bool×(List Int)):=
  (idx h0 pivot).bind fun x9=>(idx h0 a).bind fun x10=>(idx h0 a).bind fun x11=>(idx (List.set h0 (Int.toNat a) x9) pivot).bind fun x12=>(aD (qO a b pivot h0 x9 x10) (aF a 1)).bind fun x138=>(aD (qQ a pivot h0 x9 x10 x138) (aH b 1)).bind fun x264=>if (decide (x138>x264)) then ((idx (List.set (List.set h0 (Int.toNat a) x9) (Int.toNat pivot) x10) a).bind fun x285=>(idx (List.set (List.set h0 (Int.toNat a) x9) (Int.toNat pivot) x10) x264).bind fun x286=>(idx (List.set (List.set h0 (Int.toNat a) x9) (Int.toNat pivot) x10) x264).bind fun x287=>(idx (List.set (List.set (List.set h0 (Int.toNat a) x9) (Int.toNat pivot) x10) (Int.toNat x264) x285) a).bind fun x288=>some (x264,true,(List.set (List.set (List.set (List.set h0 (Int.toNat a) x9) (Int.toNat pivot) x10) (Int.toNat x264) x285) (Int.toNat a) x286))) else ((idx (List.set (List.set h0 (Int.toNat a) x9) (Int.toNat pivot) x10) x264).bind fun x297=>(idx (List.set (List.set h0 (Int.toNat a) x9) (Int.toNat pivot) x10) x138).bind fun x298=>(idx (List.set (List.set h0 (Int.toNat a) x9) (Int.toNat pivot) x10) x138).bind fun x299=>(idx (List.set (List.set (List.set h0 (Int.toNat a) x9) (Int.toNat pivot) x10) (Int.toNat x138) x297) x264).bind fun x300=>(aD (qZ a) ((aF x138 1),(aH x264 1),(List.set (List.set (List.set (List.set h0 (Int.toNat a) x9) (Int.toNat pivot) x10) (Int.toNat x138) x297) (Int.toNat x264) x298))).bind fun x1890=>(idx x1890.2 a).bind fun x1899=>(idx x1890.2 x1890.1).bind fun x1900=>(idx x1890.2 x1890.1).bind fun x1901=>(idx (List.set x1890.2 (Int.toNat x1890.1) x1899) a).bind fun x1902=>some (x1890.1,false,(List.set (List.set x1890.2 (Int.toNat x1890.1) x1899) (Int.toNat a) x1900)))
noncomputable def eB (self:Int→Int→Int→(List Int)→Option ((List Int))) (s59:Int×Int×Int×Bool×Bool×(List Int)) (j127:Int×(List Int)) (j132:Int×Int×(List Int)):Bool×Bool×(List Int)→Option (Int×Int×Int×Bool×Bool×(List Int) ⊕ (List Int)):=fun j136 =>
  (if (decide (s59.1>0)) then ((idx j136.2.2 (aH s59.1 1)).bind fun x156=>(idx j136.2.2 j132.1).bind fun x157=>(cmp_Compare_int x156 x157).bind fun r158=>some (!(decide (r158<0)))) else (some false)).bind fun j155=>if j155 then ((gY s59.1 s59.2.1 j132.1 j136.2.2).bind fun r160=>some (.inl (r160.1,s59.2.1,j127.1,j136.1,j136.2.1,r160.2))) else ((jX s59.1 s59.2.1 j132.1 j136.2.2).bind fun r162=>if (decide ((aH r162.1 s59.1)<(aH s59.2.1 r162.1))) then ((self s59.1 r162.1 j127.1 r162.2.2).bind fun r164=>some (.inl ((aF r162.1 1),s59.2.1,j127.1,(decide ((aH r162.1 s59.1) ≥ (wN (aH s59.2.1 s59.1) 8))),r162.2.1,r164))) else ((self (aF r162.1 1) s59.2.1 j127.1 r162.2.2).bind fun r166=>some (.inl (s59.1,r162.1,j127.1,(decide ((aH s59.2.1 r162.1) ≥ (wN (aH s59.2.1 s59.1) 8))),r162.2.1,r166))))
noncomputable def eD (self:Int→Int→Int→(List Int)→Option ((List Int))) (s59:Int×Int×Int×Bool×Bool×(List Int)) (j127:Int×(List Int)):Int×Int×(List Int)→Option (Int×Int×Int×Bool×Bool×(List Int) ⊕ (List Int)):=fun j132 =>
  (if s59.2.2.2.1 then (if s59.2.2.2.2.1 then (some (true,true,(j132.2.1==1))) else (some (true,false,false))) else (some (false,s59.2.2.2.2.1,false))).bind fun j167=>if j167.2.2 then ((fG s59.1 s59.2.1 j132.2.2).bind fun r169=>if r169.1 then (some (.inr r169.2)) else (eB self s59 j127 j132 (j167.1,j167.2.1,r169.2))) else (eB self s59 j127 j132 (j167.1,j167.2.1,j132.2.2))
noncomputable def eF (self:Int→Int→Int→(List Int)→Option ((List Int))) (s59:Int×Int×Int×Bool×Bool×(List Int)):Int×(List Int)→Option (Int×Int×Int×Bool×Bool×(List Int) ⊕ (List Int)):=fun j127 =>
  (jG j127.2 s59.1 s59.2.1).bind fun r129=>if (r129.2==2) then ((iT s59.1 s59.2.1 j127.2).bind fun r171=>eD self s59 j127 ((aH (aH s59.2.1 1) (aH r129.1 s59.1)),1,r171)) else (eD self s59 j127 (r129.1,r129.2,j127.2))
noncomputable def rZ (self:Int→Int→Int→(List Int)→Option ((List Int))):Int×Int×Int×Bool×Bool×(List Int)→Option (Int×Int×Int×Bool×Bool×(List Int) ⊕ (List Int)):=fun s59 =>
  if (decide ((aH s59.2.1 s59.1)≤12)) then ((iN s59.1 s59.2.1 s59.2.2.2.2.2).bind fun r120=>some (.inr r120)) else (if (s59.2.2.1==0) then ((kD s59.1 s59.2.1 s59.2.2.2.2.2).bind fun r124=>some (.inr r124)) else (if (!s59.2.2.2.1) then ((iM s59.1 s59.2.1 s59.2.2.2.2.2).bind fun r173=>eF self s59 ((aH s59.2.2.1 1),r173)) else (eF self s59 (s59.2.2.1,s59.2.2.2.2.2))))
noncomputable def iQ (self:Int→Int→Int→(List Int)→Option ((List Int))) (a:Int) (b:Int) (limit:Int) (h0:(List Int)):Option ((List Int)):=
  (aD (rZ self) (a,b,limit,true,true,h0)).bind fun x174=>some x174
noncomputable def bE:Nat→Int→Int→Int→(List Int)→Option ((List Int))
  | 0=>fun _ _ _ _=>none
  | n+1=>iQ (bE n)
noncomputable def kS (a:Int) (b:Int) (limit:Int) (h0:(List Int)):Option ((List Int)):=bE 1000 a b limit h0
noncomputable def bZ (h0:(List Int)):Option ((List Int)):=
  (bits_Len (IntKind.wrap .u64 (h0.length:Int))).bind fun r3=>(kS 0 (h0.length:Int) r3 h0).bind fun r4=>some r4
noncomputable def oJ (s1642:Int×Int×(List Int)):Int×(List Int)→Option (Int×Int×(List Int) ⊕ Int×(List Int)):=fun j1674 =>
  some (.inl (j1674.1,(aF s1642.2.1 1),j1674.2))
noncomputable def Ep (h0:(List Int)) (s1127:Int):Int×Int×(List Int)→Option (Int×Int×(List Int) ⊕ Int×(List Int)):=fun s1642 =>
  if (decide (s1642.2.1<((Int.toNat (h0.length:Int)-Int.toNat s1127:Nat):Int))) then ((idx (List.take (Int.toNat (h0.length:Int)-Int.toNat s1127) (List.drop (Int.toNat s1127) s1642.2.2)) s1642.2.1).bind fun x1679=>(idx (List.take (Int.toNat (h0.length:Int)-Int.toNat s1127) (List.drop (Int.toNat s1127) s1642.2.2)) (aH s1642.2.1 1)).bind fun x1680=>if (x1679 != x1680) then ((idx (List.take (Int.toNat (h0.length:Int)-Int.toNat s1127) (List.drop (Int.toNat s1127) s1642.2.2)) s1642.2.1).bind fun x1683=>(idx s1642.2.2 s1642.1).bind fun x1684=>oJ s1642 ((aF s1642.1 1),(List.set s1642.2.2 (Int.toNat s1642.1) x1683))) else (oJ s1642 (s1642.1,s1642.2.2))) else (some (.inr (s1642.1,s1642.2.2)))
noncomputable def Es (h0:(List Int)):Int→Option (Int ⊕ ((List Int) ⊕ Unit)):=fun s1127 =>
  if (decide (s1127<(h0.length:Int))) then ((idx h0 s1127).bind fun x1552=>(idx h0 (aH s1127 1)).bind fun x1553=>if (x1552==x1553) then (if (decide ((0:Int)≤s1127)&&(decide (s1127≤(h0.length:Int))&&decide ((h0.length:Int)≤(h0.length:Int)))) then ((aD (Ep h0 s1127) (s1127,1,h0)).bind fun x1685=>if (decide ((0:Int)≤x1685.1)&&(decide (x1685.1≤(x1685.2.length:Int))&&decide ((x1685.2.length:Int)≤(x1685.2.length:Int)))) then ((slc (cpy x1685.2 (Int.toNat x1685.1) (List.replicate (Int.toNat (x1685.2.length:Int)-Int.toNat x1685.1) 0)) 0 x1685.1).bind fun l1687=>some (.inr (.inl l1687))) else none) else none) else (some (.inl (aF s1127 1)))) else (some (.inr (.inr (()))))
noncomputable def sU (h0:(List Int)):Option ((List Int)):=
  if (decide ((h0.length:Int)<2)) then (some h0) else ((aD (Es h0) 1).bind fun x1688=>match x1688 with | .inl j1689=>some j1689 | .inr j1690=>some h0)
noncomputable def Rh (h0:(List Int)):Option ((List Int)):=
  (bZ h0).bind fun r2=>(sU r2).bind fun r4=>some r4
noncomputable def Hr (x1:Int) (y:Int) (x284:Piece):Int→Option (Int ⊕ (Unit ⊕ Unit)):=fun s292 =>
  if (decide (s292<(x284.Rects.length:Int))) then ((idx x284.Rects s292).bind fun x303=>(if (decide (x303.X≤x1)) then (if (decide (x1<(aF x303.X x303.W))) then (if (decide (x303.Y≤y)) then (some (decide (y<(aF x303.Y x303.H)))) else (some false)) else (some false)) else (some false)).bind fun j304=>if j304 then (some (.inr (.inl ()))) else (some (.inl (aF s292 1)))) else (some (.inr (.inr (()))))
noncomputable def Nl (l:LayoutT) (x1:Int) (y:Int):Int→Option (Int ⊕ ((Option Int) ⊕ Unit)):=fun s207 =>
  if (decide (s207<(l.Pieces.length:Int))) then ((idx l.Pieces s207).bind fun x284=>(aD (Hr x1 y x284) 0).bind fun x305=>match x305 with | .inl j306=>some (.inr (.inl (some s207))) | .inr j307=>some (.inl (aF s207 1))) else (some (.inr (.inr (()))))
noncomputable def Du (l:LayoutT) (x1:Int) (y:Int):Option ((Option Int)):=
  (aD (Nl l x1 y) 0).bind fun x308=>match x308 with | .inl j309=>some j309 | .inr j310=>some none
noncomputable def Fp (x0:Int) (a_0:ByteArray) (a_1:ByteArray) (a_2:Int) (a_3:Int) (a_4:Int) (a_5:Int) (a_6:(List Rect)) (a_7:(List Rect)) (a_8:(List Piece)) (a2_0:Int):Option ((Option Int)×(Option Int)):=
  (Du (LayoutT.mk (Sheet.mk a_0 a_1 a_2 a_3 a_4 a_5 a_6 a_7) a_8) x0 a2_0).bind fun r5=>(Du (LayoutT.mk (Sheet.mk a_0 a_1 a_2 a_3 a_4 a_5 a_6 a_7) a_8) x0 (aH a2_0 1)).bind fun r6=>some (r5,r6)
noncomputable def fB (a:Int):Option (Bool):=
  some true
noncomputable def eZ (a:cut_nothing):Option (Bool):=
  some false
noncomputable def Fq (from0:Int) (to1:Int) (a_0:Int):Option (Segment):=
  some (Segment.mk from0 a_0 to1 a_0)
noncomputable def vE (t:(Option Int)):Option (Int):=
  if (Option.isSome t) then (some (Option.getD t 0)) else (some (-1))
noncomputable def Fj (s0:Segment):(Int×Int)→Option (EdgeT×Int×Int):=fun j2 =>
  some ((EdgeT.mk s0 j2.1 j2.2),j2.1,j2.2)
noncomputable def Hu (s0:Segment) (a:Int) (b:Int):Option (EdgeT×Int×Int):=
  (if (decide (a<0)) then (some true) else (if (decide (b ≥ 0)) then (some (decide (b<a))) else (some false))).bind fun j3=>if j3 then (Fj s0 (b,a)) else (Fj s0 (a,b))
noncomputable def gD (s329:Int×(Option Int)×(Option Int)×Int×(List EdgeT)):(Int×(Option Int)×(Option Int)×(List EdgeT))→Option ((Int×(Option Int)×(Option Int)×Int×(List EdgeT)) ⊕ (List EdgeT)):=fun j451 =>
  some (.inl (j451.1,j451.2.1,j451.2.2.1,(aF s329.2.2.2.1 1),j451.2.2.2))
noncomputable def gF (s329:Int×(Option Int)×(Option Int)×Int×(List EdgeT)) (x453:Int) (j456:(Option Int)×(Option Int)):(List EdgeT)→Option ((Int×(Option Int)×(Option Int)×Int×(List EdgeT)) ⊕ (List EdgeT)):=fun j474 =>
  gD s329 (x453,j456.1,j456.2,j474)
noncomputable def gG (line_0_0:Int) (s329:Int×(Option Int)×(Option Int)×Int×(List EdgeT)) (x453:Int):((Option Int)×(Option Int))→Option ((Int×(Option Int)×(Option Int)×Int×(List EdgeT)) ⊕ (List EdgeT)):=fun j456 =>
  (if (j456.1==s329.2.1) then (some (j456.2==s329.2.2.1)) else (some false)).bind fun j458=>if j458 then (gD s329 (s329.1,s329.2.1,s329.2.2.1,s329.2.2.2.2)) else ((if (s329.2.1==s329.2.2.1) then (some false) else ((match s329.2.1 with | some n=>fB n | none=>eZ (cut_nothing.mk )).bind fun b478=>if b478 then (some true) else ((match s329.2.2.1 with | some n=>fB n | none=>eZ (cut_nothing.mk )).bind fun b479=>some b479))).bind fun j477=>if j477 then ((Fq s329.1 x453 line_0_0).bind fun r485=>(vE s329.2.1).bind fun r486=>(vE s329.2.2.1).bind fun r487=>(Hu r485 r486 r487).bind fun r488=>(app s329.2.2.2.2 [(EdgeT.mk (Segment.mk r488.1.Line.X1 r488.1.Line.Y1 r488.1.Line.X2 r488.1.Line.Y2) r488.1.A r488.1.B)]).bind fun l489=>gF s329 x453 j456 l489) else (gF s329 x453 j456 s329.2.2.2.2))
noncomputable def uY (ends:(List Int)) (sides_0_0:ByteArray) (sides_0_1:ByteArray) (sides_0_2:Int) (sides_0_3:Int) (sides_0_4:Int) (sides_0_5:Int) (sides_0_6:(List Rect)) (sides_0_7:(List Rect)) (sides_0_8:(List Piece)) (sides_1_0:Int) (line_0_0:Int):(Int×(Option Int)×(Option Int)×Int×(List EdgeT))→Option ((Int×(Option Int)×(Option Int)×Int×(List EdgeT)) ⊕ (List EdgeT)):=fun s329 =>
  if (decide (s329.2.2.2.1<(ends.length:Int))) then ((idx ends s329.2.2.2.1).bind fun x453=>if (decide ((aF s329.2.2.2.1 1)<(ends.length:Int))) then ((Fp x453 sides_0_0 sides_0_1 sides_0_2 sides_0_3 sides_0_4 sides_0_5 sides_0_6 sides_0_7 sides_0_8 sides_1_0).bind fun r491=>gG line_0_0 s329 x453 (r491.1,r491.2)) else (gG line_0_0 s329 x453 (none,none))) else (some (.inr s329.2.2.2.2))
noncomputable def eX (ends:(List Int)) (sides_0_0:ByteArray) (sides_0_1:ByteArray) (sides_0_2:Int) (sides_0_3:Int) (sides_0_4:Int) (sides_0_5:Int) (sides_0_6:(List Rect)) (sides_0_7:(List Rect)) (sides_0_8:(List Piece)) (sides_1_0:Int) (line_0_0:Int):Option ((List EdgeT)):=
  (aD (uY ends sides_0_0 sides_0_1 sides_0_2 sides_0_3 sides_0_4 sides_0_5 sides_0_6 sides_0_7 sides_0_8 sides_1_0 line_0_0) (0,none,none,0,[])).bind fun x492=>some x492
noncomputable def Fv (y:Int) (a_0:ByteArray) (a_1:ByteArray) (a_2:Int) (a_3:Int) (a_4:Int) (a_5:Int) (a_6:(List Rect)) (a_7:(List Rect)) (a_8:(List Piece)) (a2_0:Int):Option ((Option Int)×(Option Int)):=
  (Du (LayoutT.mk (Sheet.mk a_0 a_1 a_2 a_3 a_4 a_5 a_6 a_7) a_8) a2_0 y).bind fun r5=>(Du (LayoutT.mk (Sheet.mk a_0 a_1 a_2 a_3 a_4 a_5 a_6 a_7) a_8) (aH a2_0 1) y).bind fun r6=>some (r5,r6)
noncomputable def Fz (from0:Int) (to1:Int) (a_0:Int):Option (Segment):=
  some (Segment.mk a_0 from0 a_0 to1)
noncomputable def gH (s329:Int×(Option Int)×(Option Int)×Int×(List EdgeT)):(Int×(Option Int)×(Option Int)×(List EdgeT))→Option ((Int×(Option Int)×(Option Int)×Int×(List EdgeT)) ⊕ (List EdgeT)):=fun j451 =>
  some (.inl (j451.1,j451.2.1,j451.2.2.1,(aF s329.2.2.2.1 1),j451.2.2.2))
noncomputable def gI (s329:Int×(Option Int)×(Option Int)×Int×(List EdgeT)) (x453:Int) (j456:(Option Int)×(Option Int)):(List EdgeT)→Option ((Int×(Option Int)×(Option Int)×Int×(List EdgeT)) ⊕ (List EdgeT)):=fun j474 =>
  gH s329 (x453,j456.1,j456.2,j474)
noncomputable def gJ (line_0_0:Int) (s329:Int×(Option Int)×(Option Int)×Int×(List EdgeT)) (x453:Int):((Option Int)×(Option Int))→Option ((Int×(Option Int)×(Option Int)×Int×(List EdgeT)) ⊕ (List EdgeT)):=fun j456 =>
  (if (j456.1==s329.2.1) then (some (j456.2==s329.2.2.1)) else (some false)).bind fun j458=>if j458 then (gH s329 (s329.1,s329.2.1,s329.2.2.1,s329.2.2.2.2)) else ((if (s329.2.1==s329.2.2.1) then (some false) else ((match s329.2.1 with | some n=>fB n | none=>eZ (cut_nothing.mk )).bind fun b478=>if b478 then (some true) else ((match s329.2.2.1 with | some n=>fB n | none=>eZ (cut_nothing.mk )).bind fun b479=>some b479))).bind fun j477=>if j477 then ((Fz s329.1 x453 line_0_0).bind fun r485=>(vE s329.2.1).bind fun r486=>(vE s329.2.2.1).bind fun r487=>(Hu r485 r486 r487).bind fun r488=>(app s329.2.2.2.2 [(EdgeT.mk (Segment.mk r488.1.Line.X1 r488.1.Line.Y1 r488.1.Line.X2 r488.1.Line.Y2) r488.1.A r488.1.B)]).bind fun l489=>gI s329 x453 j456 l489) else (gI s329 x453 j456 s329.2.2.2.2))
noncomputable def vC (ends:(List Int)) (sides_0_0:ByteArray) (sides_0_1:ByteArray) (sides_0_2:Int) (sides_0_3:Int) (sides_0_4:Int) (sides_0_5:Int) (sides_0_6:(List Rect)) (sides_0_7:(List Rect)) (sides_0_8:(List Piece)) (sides_1_0:Int) (line_0_0:Int):(Int×(Option Int)×(Option Int)×Int×(List EdgeT))→Option ((Int×(Option Int)×(Option Int)×Int×(List EdgeT)) ⊕ (List EdgeT)):=fun s329 =>
  if (decide (s329.2.2.2.1<(ends.length:Int))) then ((idx ends s329.2.2.2.1).bind fun x453=>if (decide ((aF s329.2.2.2.1 1)<(ends.length:Int))) then ((Fv x453 sides_0_0 sides_0_1 sides_0_2 sides_0_3 sides_0_4 sides_0_5 sides_0_6 sides_0_7 sides_0_8 sides_1_0).bind fun r491=>gJ line_0_0 s329 x453 (r491.1,r491.2)) else (gJ line_0_0 s329 x453 (none,none))) else (some (.inr s329.2.2.2.2))
noncomputable def eY (ends:(List Int)) (sides_0_0:ByteArray) (sides_0_1:ByteArray) (sides_0_2:Int) (sides_0_3:Int) (sides_0_4:Int) (sides_0_5:Int) (sides_0_6:(List Rect)) (sides_0_7:(List Rect)) (sides_0_8:(List Piece)) (sides_1_0:Int) (line_0_0:Int):Option ((List EdgeT)):=
  (aD (vC ends sides_0_0 sides_0_1 sides_0_2 sides_0_3 sides_0_4 sides_0_5 sides_0_6 sides_0_7 sides_0_8 sides_1_0 line_0_0) (0,none,none,0,[])).bind fun x492=>some x492
noncomputable def Bt (x458:Piece):(Int×(List Int)×(List Int))→Option ((Int×(List Int)×(List Int)) ⊕ ((List Int)×(List Int))):=fun s472 =>
  if (decide (s472.1<(x458.Rects.length:Int))) then ((idx x458.Rects s472.1).bind fun x492=>(app s472.2.1 [x492.X,(aF x492.X x492.W)]).bind fun l494=>(app s472.2.2 [x492.Y,(aF x492.Y x492.H)]).bind fun l496=>some (.inl ((aF s472.1 1),l494,l496))) else (some (.inr (s472.2.1,s472.2.2)))
noncomputable def yA (l:LayoutT):(Int×(List Int)×(List Int))→Option ((Int×(List Int)×(List Int)) ⊕ ((List Int)×(List Int))):=fun s333 =>
  if (decide (s333.1<(l.Pieces.length:Int))) then ((idx l.Pieces s333.1).bind fun x458=>(aD (Bt x458) (0,s333.2.1,s333.2.2)).bind fun x497=>some (.inl ((aF s333.1 1),x497.1,x497.2))) else (some (.inr (s333.2.1,s333.2.2)))
noncomputable def Bv (l:LayoutT) (r501:(List Int)) (r502:(List Int)):Int×(List EdgeT)→Option (Int×(List EdgeT) ⊕ (List EdgeT)):=fun s555 =>
  if (decide (s555.1<(r502.length:Int))) then ((idx r502 s555.1).bind fun x575=>(eX r501 l.Sheet.Name l.Sheet.Material l.Sheet.Gauge l.Sheet.Grain l.Sheet.Width l.Sheet.Height l.Sheet.Clamps l.Sheet.Used l.Pieces x575 x575).bind fun r578=>(app s555.2 r578).bind fun l579=>some (.inl ((aF s555.1 1),l579))) else (some (.inr s555.2))
noncomputable def Bw (l:LayoutT) (r501:(List Int)) (r502:(List Int)):Int×(List EdgeT)→Option (Int×(List EdgeT) ⊕ (List EdgeT)):=fun s633 =>
  if (decide (s633.1<(r501.length:Int))) then ((idx r501 s633.1).bind fun x653=>(eY r502 l.Sheet.Name l.Sheet.Material l.Sheet.Gauge l.Sheet.Grain l.Sheet.Width l.Sheet.Height l.Sheet.Clamps l.Sheet.Used l.Pieces x653 x653).bind fun r656=>(app s633.2 r656).bind fun l657=>some (.inl ((aF s633.1 1),l657))) else (some (.inr s633.2))
noncomputable def Di (l:LayoutT):Option ((List EdgeT)):=
  (aD (yA l) (0,[],[])).bind fun x498=>(Rh x498.1).bind fun r501=>(Rh x498.2).bind fun r502=>(aD (Bv l r501 r502) (0,[])).bind fun x580=>(aD (Bw l r501 r502) (0,x580)).bind fun x658=>some x658
noncomputable def sH (l:LayoutT):Option ((List EdgeT)×Int):=
  (tH l).bind fun r4=>if (r4 != 0) then (some ([],r4)) else ((Di l).bind fun r6=>some (r6,0))
noncomputable def yB (l:LayoutT):Int×(List (List Bool))→Option (Int×(List (List Bool)) ⊕ (List (List Bool))):=fun s81 =>
  if (decide (s81.1<(l.Pieces.length:Int))) then ((idx l.Pieces s81.1).bind fun x107=>(mk (x107.Cuts.length:Int) false).bind fun l112=>(app s81.2 [l112]).bind fun l113=>some (.inl ((aF s81.1 1),l113))) else (some (.inr s81.2))
noncomputable def yY (l:LayoutT) (edges:Int):Option (cut_State):=
  (mk edges false).bind fun l9=>(mk (l.Pieces.length:Int) false).bind fun l10=>(mk (l.Pieces.length:Int) 0).bind fun l11=>(mk (l.Pieces.length:Int) false).bind fun l12=>(aD (yB l) (0,[])).bind fun x114=>some (cut_State.mk l9 x114 l10 l11 l12)
noncomputable def pM (st:cut_State) (l:LayoutT):Int→Option (Int ⊕ (Unit ⊕ Unit)):=fun s49 =>
  if (decide (s49<(l.Pieces.length:Int))) then ((idx l.Pieces s49).bind fun x66=>(idx st.Holes s49).bind fun x69=>if ((x69.length:Int) != (x66.Cuts.length:Int)) then (some (.inr (.inl ()))) else (some (.inl (aF s49 1)))) else (some (.inr (.inr (()))))
noncomputable def kE (st:cut_State) (l:LayoutT) (edges:Int):Option (Bool):=
  (if ((st.Cut.length:Int) != edges) then (some true) else (if ((st.Holes.length:Int) != (l.Pieces.length:Int)) then (some true) else (if ((st.Done.length:Int) != (l.Pieces.length:Int)) then (some true) else (if ((st.Joints.length:Int) != (l.Pieces.length:Int)) then (some true) else (some ((st.Fallen.length:Int) != (l.Pieces.length:Int))))))).bind fun j2=>if j2 then (some false) else ((aD (pM st l) 0).bind fun x70=>match x70 with | .inl j71=>some false | .inr j72=>some true)
noncomputable def kR (s0:(List Bool)) (v:Bool):Int→Option (Int ⊕ (Int ⊕ Unit)):=fun s23 =>
  if (decide (s23<(s0.length:Int))) then ((idx s0 s23).bind fun x31=>if (v==x31) then (some (.inr (.inl s23))) else (some (.inl (aF s23 1)))) else (some (.inr (.inr (()))))
noncomputable def sV (s0:(List Bool)) (v:Bool):Option (Int):=
  (aD (kR s0 v) 0).bind fun x32=>match x32 with | .inl j33=>some j33 | .inr j34=>some (-1)
noncomputable def cO (s0:(List Bool)) (v:Bool):Option (Bool):=
  (sV s0 v).bind fun r2=>some (decide (r2 ≥ 0))
noncomputable def Tt (e:EdgeT) (piece:Int):Option (Bool):=
  (if (e.A==piece) then (some true) else (some (e.B==piece))).bind fun j1=>some j1
noncomputable def pO (st:cut_State) (all:(List EdgeT)) (piece:Int):Int→Option (Int ⊕ (Unit ⊕ Unit)):=fun s63 =>
  if (decide (s63<(all.length:Int))) then ((idx all s63).bind fun x86=>((Tt x86 piece).bind fun r90=>if r90 then ((idx st.Cut s63).bind fun x91=>some (!x91)) else (some false)).bind fun j89=>if j89 then (some (.inr (.inl ()))) else (some (.inl (aF s63 1)))) else (some (.inr (.inr (()))))
noncomputable def sJ (st:cut_State) (all:(List EdgeT)) (piece:Int):Option (Bool):=
  (aD (pO st all piece) 0).bind fun x92=>match x92 with | .inl j93=>some false | .inr j94=>some true
noncomputable def xH (st:cut_State) (all:(List EdgeT)) (x2:ItemT):Option (Bool):=
  (idx st.Fallen x2.Piece).bind fun x10=>if x10 then (some false) else (if (decide (x2.Hole ≥ 0)) then ((idx st.Holes x2.Piece).bind fun x15=>(idx x15 x2.Hole).bind fun x16=>some (!x16)) else (((idx st.Done x2.Piece).bind fun x22=>if x22 then (some false) else ((idx st.Holes x2.Piece).bind fun x23=>(cO x23 false).bind fun r24=>if r24 then (some false) else ((sJ st all x2.Piece).bind fun r25=>some (!r25)))).bind fun j21=>some j21))
noncomputable def DR (s0:Spot) (l:Segment):Option (Int):=
  some (iU (iU (iU (iU 0 (aH l.X1 s0.X)) (aH s0.X l.X2)) (aH l.Y1 s0.Y)) (aH s0.Y l.Y2))
noncomputable def pQ (l:LayoutT) (x3:ItemT):Int→Option (Int ⊕ (Unit ⊕ Unit)):=fun s59 =>
  if (decide (s59<(l.Pieces.length:Int))) then ((idx l.Pieces s59).bind fun x73=>(lW x73.Rects (Spot.mk x3.Lead.X x3.Lead.Y)).bind fun r75=>if r75 then (some (.inr (.inl ()))) else (some (.inl (aF s59 1)))) else (some (.inr (.inr (()))))
noncomputable def pR (st:cut_State) (all:(List EdgeT)) (x3:ItemT):Int→Option (Int ⊕ (Unit ⊕ Unit)):=fun s157 =>
  if (decide (s157<(all.length:Int))) then ((idx all s157).bind fun x186=>((Tt x186 x3.Piece).bind fun r191=>if r191 then ((idx st.Cut s157).bind fun x192=>if x192 then (some false) else ((DR (Spot.mk x3.Lead.X x3.Lead.Y) x186.Line).bind fun r193=>some (decide (r193≤7200)))) else (some false)).bind fun j190=>if j190 then (some (.inr (.inl ()))) else (some (.inl (aF s157 1)))) else (some (.inr (.inr (()))))
noncomputable def uX (st:cut_State) (l:LayoutT) (all:(List EdgeT)) (x3:ItemT):Option (Bool):=
  if (decide (x3.Hole ≥ 0)) then ((idx l.Pieces x3.Piece).bind fun x12=>(idx x12.Cuts x3.Hole).bind fun x13=>(if (decide (x3.Lead.X>x13.X)) then (if (decide (x3.Lead.X<(aF x13.X x13.W))) then (if (decide (x3.Lead.Y>x13.Y)) then (some (decide (x3.Lead.Y<(aF x13.Y x13.H)))) else (some false)) else (some false)) else (some false)).bind fun j14=>some j14) else ((if (decide (x3.Lead.X<0)) then (some true) else (if (decide (x3.Lead.X>l.Sheet.Width)) then (some true) else (if (decide (x3.Lead.Y<0)) then (some true) else (if (decide (x3.Lead.Y>l.Sheet.Height)) then (some true) else ((lW l.Sheet.Clamps (Spot.mk x3.Lead.X x3.Lead.Y)).bind fun r20=>some r20))))).bind fun j19=>if j19 then (some false) else ((aD (pQ l x3) 0).bind fun x76=>match x76 with | .inl j77=>some false | .inr j78=>(aD (pR st all x3) 0).bind fun x194=>match x194 with | .inl j195=>some true | .inr j196=>some false))
noncomputable def jF (s:(List Bool)):Option (List Bool):=app [] s
noncomputable def yN (s:(List Int)):Option (List Int):=app [] s
noncomputable def lK (st:cut_State):Int×(List (List Bool))→Option (Int×(List (List Bool)) ⊕ (List (List Bool))):=fun s81 =>
  if (decide (s81.1<(st.Holes.length:Int))) then ((idx st.Holes s81.1).bind fun x107=>(jF x107).bind fun r112=>(app s81.2 [r112]).bind fun l113=>some (.inl ((aF s81.1 1),l113))) else (some (.inr s81.2))
noncomputable def tY (st:cut_State):Option (cut_State):=
  (jF st.Cut).bind fun r9=>(jF st.Done).bind fun r10=>(yN st.Joints).bind fun r11=>(jF st.Fallen).bind fun r12=>(aD (lK st) (0,[])).bind fun x114=>some (cut_State.mk r9 x114 r10 r11 r12)
noncomputable def Np (s170:Int×(List Bool)):(List Bool)→Option (Int×(List Bool) ⊕ (List Bool)):=fun j199 =>
  some (.inl ((aF s170.1 1),j199))
noncomputable def yX (l:LayoutT) (all:(List EdgeT)) (j89:(List Bool)×(List (List Bool))×(List Bool)×(List Int)):Int×(List Bool)→Option (Int×(List Bool) ⊕ (List Bool)):=fun s170 =>
  if (decide (s170.1<(l.Pieces.length:Int))) then (((sJ (cut_State.mk j89.1 j89.2.1 j89.2.2.1 j89.2.2.2 s170.2) all s170.1).bind fun r204=>if r204 then ((idx j89.2.2.1 s170.1).bind fun x205=>if x205 then ((idx j89.2.2.2 s170.1).bind fun x206=>some (!(decide (x206>0)))) else (some true)) else (some false)).bind fun j203=>if j203 then ((idx s170.2 s170.1).bind fun x208=>Np s170 (List.set s170.2 (Int.toNat s170.1) true)) else (Np s170 s170.2)) else (some (.inr s170.2))
noncomputable def yV (l:LayoutT) (all:(List EdgeT)) (r34:cut_State):((List Bool)×(List (List Bool))×(List Bool)×(List Int))→Option (cut_State×Int):=fun j89 =>
  (aD (yX l all j89) (0,r34.Fallen)).bind fun x209=>some ((cut_State.mk j89.1 j89.2.1 j89.2.2.1 j89.2.2.2 x209),0)
noncomputable def Nq (s236:Int×(List Bool)):(List Bool)→Option (Int×(List Bool) ⊕ (List Bool)):=fun j256 =>
  some (.inl ((aF s236.1 1),j256))
noncomputable def Dh (all:(List EdgeT)) (x3:ItemT):Int×(List Bool)→Option (Int×(List Bool) ⊕ (List Bool)):=fun s236 =>
  if (decide (s236.1<(all.length:Int))) then ((idx all s236.1).bind fun x258=>(Tt x258 x3.Piece).bind fun r260=>if r260 then ((idx s236.2 s236.1).bind fun x262=>Nq s236 (List.set s236.2 (Int.toNat s236.1) true)) else (Nq s236 s236.2)) else (some (.inr s236.2))
noncomputable def Dv (l:LayoutT) (all:(List EdgeT)) (st:cut_State) (x3:ItemT):Option (cut_State×Int):=
  ((kE st l (all.length:Int)).bind fun r19=>if r19 then (if (decide (x3.Piece<0)) then (some true) else (some (decide (x3.Piece ≥ (l.Pieces.length:Int))))) else (some true)).bind fun j18=>if j18 then (some ((cut_State.mk [] [] [] [] []),1)) else ((if (decide (x3.Hole<(-1))) then (some true) else ((idx l.Pieces x3.Piece).bind fun x23=>if (decide (x3.Hole ≥ (x23.Cuts.length:Int))) then (some true) else (if (decide (x3.Joints<0)) then (some true) else (if (decide (x3.Joints>4)) then (some true) else (if (decide (x3.Hole ≥ 0)) then (some (x3.Joints != 0)) else (some false)))))).bind fun j22=>if j22 then (some ((cut_State.mk [] [] [] [] []),1)) else ((xH st all x3).bind fun r25=>if (!r25) then (some ((cut_State.mk [] [] [] [] []),12)) else ((if (decide (x3.Hole<0)) then (if (x3.Joints==0) then ((idx l.Pieces x3.Piece).bind fun x29=>(Hq x29).bind fun r30=>some r30) else (some false)) else (some false)).bind fun j28=>if j28 then (some ((cut_State.mk [] [] [] [] []),15)) else ((uX st l all x3).bind fun r32=>if (!r32) then (some ((cut_State.mk [] [] [] [] []),14)) else ((tY st).bind fun r34=>if (decide (x3.Hole ≥ 0)) then ((idx r34.Holes x3.Piece).bind fun x214=>(idx x214 x3.Hole).bind fun x215=>yV l all r34 (r34.Cut,(List.set r34.Holes (Int.toNat x3.Piece) (List.set x214 (Int.toNat x3.Hole) true)),r34.Done,r34.Joints)) else ((idx r34.Done x3.Piece).bind fun x220=>(idx r34.Joints x3.Piece).bind fun x221=>(aD (Dh all x3) (0,r34.Cut)).bind fun x263=>yV l all r34 (x263,r34.Holes,(List.set r34.Done (Int.toNat x3.Piece) true),(List.set r34.Joints (Int.toNat x3.Piece) x3.Joints))))))))
noncomputable def BJ (a:cut_State):Option (Unit):=
  some ()
noncomputable def bN (l:LayoutT) (items:(List ItemT)) (r2:(List EdgeT)×Int):(Int×(List (List Bool))×(List Bool)×(List Bool)×(List Int)×(List Bool))→Option ((Int×(List (List Bool))×(List Bool)×(List Bool)×(List Int)×(List Bool)) ⊕ ((Int×Int) ⊕ ((List (List Bool))×(List Bool)×(List Bool)×(List Int)×(List Bool)))):=fun s59 =>
  if (decide (s59.1<(items.length:Int))) then ((idx items s59.1).bind fun x79=>(Dv l r2.1 (cut_State.mk s59.2.2.1 s59.2.1 s59.2.2.2.1 s59.2.2.2.2.1 s59.2.2.2.2.2) x79).bind fun r81=>if (r81.2 != 0) then (some (.inr (.inl (s59.1,r81.2)))) else ((BJ r81.1).bind fun r83=>some (.inl ((aF s59.1 1),r81.1.Holes,r81.1.Cut,r81.1.Done,r81.1.Joints,r81.1.Fallen)))) else (some (.inr (.inr ((s59.2.1,s59.2.2.1,s59.2.2.2.1,s59.2.2.2.2.1,s59.2.2.2.2.2)))))
noncomputable def xP (l:LayoutT) (items:(List ItemT)):Option (cut_State×Int×Int×(List (List Bool))):=
  (sH l).bind fun r2=>if (r2.2 != 0) then (some ((cut_State.mk [] [] [] [] []),0,r2.2,[])) else (if (decide ((items.length:Int)>128)) then (some ((cut_State.mk [] [] [] [] []),0,4,[])) else ((yY l (r2.1.length:Int)).bind fun r4=>(aD (bN l items r2) (0,r4.Holes,r4.Cut,r4.Done,r4.Joints,r4.Fallen)).bind fun x84=>match x84 with | .inl j85=>some ((cut_State.mk [] [] [] [] []),j85.1,j85.2,[]) | .inr j86=>some ((cut_State.mk j86.2.1 j86.1 j86.2.2.1 j86.2.2.2.1 j86.2.2.2.2),0,0,j86.1)))
noncomputable def Qy (l:LayoutT) (items:(List ItemT)):Option (cut_State×Int×Int×(List (List Bool))):=
  (xP l items).bind fun r2=>some ((cut_State.mk r2.1.Cut r2.1.Holes r2.1.Done r2.1.Joints r2.1.Fallen),r2.2.1,r2.2.2.1,r2.1.Holes)
noncomputable def Da (a:(List Int)) (b:(List Int)):Int→Option (Int ⊕ (Unit ⊕ Unit)):=fun s55 =>
  if (decide (s55<(a.length:Int))) then ((idx a s55).bind fun x78=>(idx b s55).bind fun x79=>if (x78 != x79) then (some (.inr (.inl ()))) else (some (.inl (aF s55 1)))) else (some (.inr (.inr (()))))
noncomputable def rG (a:(List Int)) (b:(List Int)):Option (Bool):=
  if ((a.length:Int) != (b.length:Int)) then (some false) else ((aD (Da a b) 0).bind fun x80=>match x80 with | .inl j81=>some false | .inr j82=>some true)
end Go.SM
namespace Go.SM
open Go Go.VI
noncomputable def xX (r2:cut_State×Int×Int×(List (List Bool))):Int→Option (Int ⊕ (Unit ⊕ Unit)):=fun s45 =>
  if (decide (s45<(r2.1.Holes.length:Int))) then ((idx r2.1.Holes s45).bind fun x59=>(cO x59 false).bind fun r61=>if r61 then (some (.inr (.inl ()))) else (some (.inl (aF s45 1)))) else (some (.inr (.inr (()))))
noncomputable def Nk (l:LayoutT) (items:(List ItemT)):Option (Int):=
  (Qy l items).bind fun r2=>if (r2.2.2.1 != 0) then (some r2.2.2.1) else ((cO r2.1.Done false).bind fun r6=>if r6 then (some 12) else ((aD (xX r2) 0).bind fun x62=>match x62 with | .inl j63=>some 12 | .inr j64=>some 0))
noncomputable def xE (s65:Int×(List Int)):(List Int)→Option (Int×(List Int) ⊕ (List Int)):=fun j88 =>
  some (.inl ((aF s65.1 1),j88))
noncomputable def xG (st:cut_State) (h0_0:(List Bool)):Int×(List Int)→Option (Int×(List Int) ⊕ (List Int)):=fun s65 =>
  if (decide (s65.1<(st.Fallen.length:Int))) then ((idx st.Fallen s65.1).bind fun x90=>(if x90 then ((idx h0_0 s65.1).bind fun x93=>some (!x93)) else (some false)).bind fun j92=>if j92 then ((app s65.2 [s65.1]).bind fun l95=>xE s65 l95) else (xE s65 s65.2)) else (some (.inr s65.2))
noncomputable def Bq (st:cut_State) (h0_0:(List Bool)) (h2:(List (List Int))):Option ((List (List Int))):=
  (aD (xG st h0_0) (0,[])).bind fun x96=>(app h2 [x96]).bind fun l98=>some l98
noncomputable def gB (l:LayoutT) (items:(List ItemT)) (r2:(List EdgeT)×Int):(Int×(List (List Int))×(List Bool)×(List (List Bool))×(List Bool)×(List Int)×(List Bool)×(List Bool))→Option ((Int×(List (List Int))×(List Bool)×(List (List Bool))×(List Bool)×(List Int)×(List Bool)×(List Bool)) ⊕ ((Int×Int×(List (List Int))×(List Bool)) ⊕ ((List Bool)×(List (List Bool))×(List Bool)×(List Int)×(List Bool)×(List (List Int))×(List Bool)))):=fun s59 =>
  if (decide (s59.1<(items.length:Int))) then ((idx items s59.1).bind fun x79=>(Dv l r2.1 (cut_State.mk s59.2.2.1 s59.2.2.2.1 s59.2.2.2.2.1 s59.2.2.2.2.2.1 s59.2.2.2.2.2.2.1) x79).bind fun r81=>if (r81.2 != 0) then (some (.inr (.inl (s59.1,r81.2,s59.2.1,s59.2.2.2.2.2.2.2)))) else ((Bq r81.1 s59.2.2.2.2.2.2.2 s59.2.1).bind fun r83=>some (.inl ((aF s59.1 1),r83,r81.1.Cut,r81.1.Holes,r81.1.Done,r81.1.Joints,r81.1.Fallen,r81.1.Fallen)))) else (some (.inr (.inr ((s59.2.2.1,s59.2.2.2.1,s59.2.2.2.2.1,s59.2.2.2.2.2.1,s59.2.2.2.2.2.2.1,s59.2.1,s59.2.2.2.2.2.2.2)))))
noncomputable def vG (l:LayoutT) (items:(List ItemT)) (h1:(List Bool)) (h3:(List (List Int))):Option (cut_State×Int×Int×(List Bool)×(List (List Bool))×(List Bool)×(List Int)×(List Bool)×(List (List Int))×(List Bool)):=
  (sH l).bind fun r2=>if (r2.2 != 0) then (some ((cut_State.mk [] [] [] [] []),0,r2.2,[],[],[],[],[],h3,h1)) else (if (decide ((items.length:Int)>128)) then (some ((cut_State.mk [] [] [] [] []),0,4,[],[],[],[],[],h3,h1)) else ((yY l (r2.1.length:Int)).bind fun r4=>(aD (gB l items r2) (0,h3,r4.Cut,r4.Holes,r4.Done,r4.Joints,r4.Fallen,h1)).bind fun x84=>match x84 with | .inl j85=>some ((cut_State.mk [] [] [] [] []),j85.1,j85.2.1,[],[],[],[],[],j85.2.2.1,j85.2.2.2) | .inr j86=>some ((cut_State.mk j86.1 j86.2.1 j86.2.2.1 j86.2.2.2.1 j86.2.2.2.2.1),0,0,j86.1,j86.2.1,j86.2.2.1,j86.2.2.2.1,j86.2.2.2.2.1,j86.2.2.2.2.2.1,j86.2.2.2.2.2.2)))
noncomputable def Ho (l:LayoutT) (items:(List ItemT)):Option ((List (List Int))×Int):=
  (mk (l.Pieces.length:Int) false).bind fun l2=>(vG l items l2 []).bind fun r4=>if (r4.2.2.1 != 0) then (some ([],r4.2.2.1)) else (some (r4.2.2.2.2.2.2.2.2.1,0))
noncomputable def lY:Option (Bool):=
  (sH (LayoutT.mk (Sheet.mk (ByteArray.mk #[115]) (ByteArray.mk #[115,116,101,101,108]) 10 0 57600 57600 [] []) [(Piece.mk (ByteArray.mk #[97]) (ByteArray.mk #[115,116,101,101,108]) 10 0 [(Rect.mk 0 0 14400 14400)] [] []),(Piece.mk (ByteArray.mk #[98]) (ByteArray.mk #[115,116,101,101,108]) 10 0 [(Rect.mk 14400 0 14400 14400)] [] [])])).bind fun r2=>(Ho (LayoutT.mk (Sheet.mk (ByteArray.mk #[115]) (ByteArray.mk #[115,116,101,101,108]) 10 0 57600 57600 [] []) [(Piece.mk (ByteArray.mk #[97]) (ByteArray.mk #[115,116,101,101,108]) 10 0 [(Rect.mk 0 0 14400 14400)] [] []),(Piece.mk (ByteArray.mk #[98]) (ByteArray.mk #[115,116,101,101,108]) 10 0 [(Rect.mk 14400 0 14400 14400)] [] [])]) [(ItemT.mk 0 (-1) 0 (Spot.mk 0 0)),(ItemT.mk 1 (-1) 0 (Spot.mk 28800 0))]).bind fun r4=>if (r2.2==0) then (if ((r2.1.length:Int)==7) then (if (r4.2==0) then (if ((r4.1.length:Int)==2) then ((idx r4.1 0).bind fun x9=>(rG x9 [0]).bind fun r10=>if r10 then ((idx r4.1 1).bind fun x11=>(rG x11 [1]).bind fun r12=>some r12) else (none)) else (none)) else (none)) else (none)) else (none)
noncomputable def gK (r12:(List (List Int))×Int) (s703:Int×(List Int)):Int×(List Int)→Option (Int×(List Int) ⊕ Unit ⊕ (List Int)):=fun s992 =>
  (idx r12.1 s703.1).bind fun x1020=>if (decide (s992.1<(x1020.length:Int))) then ((idx r12.1 s703.1).bind fun x1033=>(idx x1033 s992.1).bind fun x1034=>(if (decide (x1034<0)) then (some true) else (some (decide (x1034 ≥ (s992.2.length:Int))))).bind fun j1036=>if j1036 then (some (.inr (.inl ()))) else ((idx s992.2 x1034).bind fun x1039=>(idx s992.2 x1034).bind fun x1040=>some (.inl ((aF s992.1 1),(List.set s992.2 (Int.toNat x1034) (aF x1039 1)))))) else (some (.inr (.inr s992.2)))
noncomputable def gL (items:(List ItemT)) (r12:(List (List Int))×Int):Int×(List Int)→Option (Int×(List Int) ⊕ Unit ⊕ (List Int)):=fun s703 =>
  if (decide (s703.1<(items.length:Int))) then ((idx items s703.1).bind fun x965=>(idx s703.2 x965.Piece).bind fun x966=>if (decide (x966>0)) then (some (.inr (.inl ()))) else ((aD (gK r12 s703) (0,s703.2)).bind fun x1041=>match x1041 with | .inl j1042=>some (.inr (.inl ())) | .inr j1043=>some (.inl ((aF s703.1 1),j1043)))) else (some (.inr (.inr s703.2)))
noncomputable def gP (r10:cut_State×Int×Int×(List (List Bool))) (j1046:(List Int)):Int→Option (Int ⊕ (Unit ⊕ Unit)):=fun s1181 =>
  if (decide (s1181<(j1046.length:Int))) then (((idx r10.1.Fallen s1181).bind fun x1241=>(idx r10.1.Joints s1181).bind fun x1242=>if (x1241==(x1242==0)) then ((idx r10.1.Fallen s1181).bind fun x1243=>(idx j1046 s1181).bind fun x1244=>if (x1243==(x1244==1)) then ((idx j1046 s1181).bind fun x1245=>some (decide (x1245>1))) else (some true)) else (some true)).bind fun j1240=>if j1240 then (some (.inr (.inl ()))) else (some (.inl (aF s1181 1)))) else (some (.inr (.inr (()))))
noncomputable def sP (l:LayoutT) (items:(List ItemT)):Option (Bool):=
  (Nk l items).bind fun r6=>if (r6 != 0) then ((lY).bind fun r8=>some r8) else ((Qy l items).bind fun r10=>(Ho l items).bind fun r12=>(if (r10.2.2.1 != 0) then (some true) else (if (r12.2 != 0) then (some true) else (if ((r12.1.length:Int) != (items.length:Int)) then (some true) else (if ((r10.1.Fallen.length:Int) != (l.Pieces.length:Int)) then (some true) else (some ((r10.1.Joints.length:Int) != (l.Pieces.length:Int))))))).bind fun j14=>if j14 then (some false) else ((mk (l.Pieces.length:Int) 0).bind fun l16=>(aD (gL items r12) (0,l16)).bind fun x1044=>match x1044 with | .inl j1045=>some false | .inr j1046=>(aD (gP r10 j1046) 0).bind fun x1246=>match x1246 with | .inl j1247=>some false | .inr j1248=>(lY).bind fun r1250=>some r1250))
end Go.SM
namespace Go.SM
open Go Go.VI
structure sheetmetalref06_Line where
  At:Segment
  Low:Int
  High:Int
noncomputable def yM (n:Int) (lo:Int) (hi:Int):Option (Bool):=
  (if (decide (n ≥ lo)) then (some (decide (n≤hi))) else (some false)).bind fun j1=>some j1
noncomputable def wZ:Option (ByteArray):=
  some (ByteArray.mk #[32,112,97,114,116,32,109,97,116,101,114,105,97,108,32,98,97,115,101,32,102,108,97,110,103,101,32,104,111,108,101,32,99,117,116,32,102,111,114,109,32,101,97,115,116,32,115,111,117,116,104,32,119,101,115,116,32,110,111,114,116,104,32,117,112,32,100,111,119,110,32,99,108,111,115,101,117,112,32,99,108,111,115,101,100,111,119,110,32,103,114,97,105,110,32,120,32,121,32,116,97,98,108,101,32,97,110,103,108,101,32,109,97,99,104,105,110,101,32,112,117,110,99,104,32,100,105,101,32,102,114,97,109,101,32,103,97,117,103,101,32,112,111,108,121,32,115,116,97,116,105,111,110,115,32])
noncomputable def iH (text:ByteArray) (s1:ByteArray):Int→Option (Int ⊕ (Unit ⊕ Unit)):=fun s55 =>
  if (decide ((aF (aF s55 (s1.size:Int)) 2)≤(text.size:Int))) then ((F5 text s55 (aF (aF s55 (s1.size:Int)) 2)).bind fun s77=>(Wm (ByteArray.mk #[32]) s1).bind fun s78=>(Wm s78 (ByteArray.mk #[32])).bind fun s79=>if (s77.toList==s79.toList) then (some (.inr (.inl ()))) else (some (.inl (aF s55 1)))) else (some (.inr (.inr (()))))
noncomputable def tL (text:ByteArray) (s1:ByteArray):Option (Bool):=
  (aD (iH text s1) 0).bind fun x80=>match x80 with | .inl j81=>some true | .inr j82=>some false
noncomputable def fH (s0:ByteArray):Int→Option (Int ⊕ (Unit ⊕ Unit)):=fun s101 =>
  if (decide (s101<(s0.size:Int))) then (((Me s0 s101).bind fun x135=>if (decide (x135 ≥ 97)) then ((Me s0 s101).bind fun x136=>some (decide (x136≤122))) else (some false)).bind fun j134=>(if j134 then (some false) else ((Me s0 s101).bind fun x140=>if (decide (x140<48)) then (some true) else ((Me s0 s101).bind fun x141=>some (decide (x141>57))))).bind fun j139=>if j139 then (some (.inr (.inl ()))) else (some (.inl (aF s101 1)))) else (some (.inr (.inr (()))))
noncomputable def fF (s0:ByteArray):Option (Bool):=
  ((yM (s0.size:Int) 1 8).bind fun r12=>if r12 then ((Me s0 0).bind fun x13=>if (decide (x13<97)) then (some true) else ((Me s0 0).bind fun x14=>some (decide (x14>122)))) else (some true)).bind fun j11=>if j11 then (some false) else ((aD (fH s0) 0).bind fun x142=>match x142 with | .inl j143=>some false | .inr j144=>(wZ).bind fun r147=>(tL r147 s0).bind fun r148=>some (!r148))
noncomputable def oO (name:ByteArray) (material:ByteArray) (gauge:Int) (grain:Int):Option (Int):=
  ((fF name).bind fun r9=>if r9 then ((fF material).bind fun r10=>some (!r10)) else (some true)).bind fun j8=>if j8 then (some 2) else ((if (decide (gauge<1)) then (some true) else (if (decide (gauge>60)) then (some true) else (if (decide (grain<0)) then (some true) else (some (decide (grain>2)))))).bind fun j12=>if j12 then (some 1) else (some 0))
noncomputable def iI (l:(List Rect)):Int→Option (Int ⊕ (Unit ⊕ Unit)):=fun s39 =>
  if (decide (s39<(l.length:Int))) then ((idx l s39).bind fun x54=>(bP x54).bind fun r55=>if (!r55) then (some (.inr (.inl ()))) else (some (.inl (aF s39 1)))) else (some (.inr (.inr (()))))
noncomputable def dM (l:(List Rect)):Option (Bool):=
  (aD (iI l) 0).bind fun x56=>match x56 with | .inl j57=>some false | .inr j58=>some true
noncomputable def iJ (s0:Sheet) (l:(List Rect)):Int→Option (Int ⊕ (Unit ⊕ Unit)):=fun s55 =>
  if (decide (s55<(l.length:Int))) then ((idx l s55).bind fun x78=>(kP x78 (Rect.mk 0 0 s0.Width s0.Height)).bind fun r79=>if (!r79) then (some (.inr (.inl ()))) else (some (.inl (aF s55 1)))) else (some (.inr (.inr (()))))
noncomputable def nJ (s0:Sheet) (l:(List Rect)):Option (Bool):=
  (aD (iJ s0 l) 0).bind fun x80=>match x80 with | .inl j81=>some false | .inr j82=>some true
noncomputable def mK (s0:Sheet):Option (Int):=
  (oO s0.Name s0.Material s0.Gauge s0.Grain).bind fun r2=>if (r2 != 0) then (some r2) else ((if (decide (s0.Width<1)) then (some true) else (if (decide (s0.Width>1048576)) then (some true) else (if (decide (s0.Height<1)) then (some true) else (some (decide (s0.Height>1048576)))))).bind fun j4=>if j4 then (some 1) else ((if (decide ((s0.Clamps.length:Int)>4)) then (some true) else (some (decide ((s0.Used.length:Int)>48)))).bind fun j6=>if j6 then (some 4) else (((dM s0.Clamps).bind fun r15=>if r15 then ((dM s0.Used).bind fun r16=>some (!r16)) else (some true)).bind fun j14=>if j14 then (some 1) else (((nJ s0 s0.Clamps).bind fun r25=>if r25 then ((nJ s0 s0.Used).bind fun r26=>some (!r26)) else (some true)).bind fun j24=>if j24 then (some 13) else (some 0)))))
noncomputable def rH (s61:Int×(List Rect)) (x84:Rect):(Int×Int)→Option (Int×(List Rect) ⊕ (List Rect)):=fun j86 =>
  (app s61.2 [(Rect.mk j86.1 j86.2 x84.W x84.H)]).bind fun l88=>some (.inl ((aF s61.1 1),l88))
noncomputable def lZ (l:(List Rect)) (x1:Int) (y:Int):Int×(List Rect)→Option (Int×(List Rect) ⊕ (List Rect)):=fun s61 =>
  if (decide (s61.1<(l.length:Int))) then ((idx l s61.1).bind fun x84=>(if (decide (x84.X>(-2147483648))) then (if (decide (x84.X<2147483648)) then (if (decide (x84.Y>(-2147483648))) then (some (decide (x84.Y<2147483648))) else (some false)) else (some false)) else (some false)).bind fun j89=>if j89 then (rH s61 x84 ((aF x84.X x1),(aF x84.Y y))) else (rH s61 x84 (x84.X,x84.Y))) else (some (.inr s61.2))
noncomputable def lF (l:(List Rect)) (x1:Int) (y:Int):Option ((List Rect)):=
  (aD (lZ l x1 y) (0,[])).bind fun x90=>some x90
noncomputable def Bd (x0:Piece) (dx:Int) (dy:Int):Option (Piece):=
  (lF x0.Rects dx dy).bind fun r2=>(lF x0.Cuts dx dy).bind fun r4=>(lF x0.Forms dx dy).bind fun r6=>some (Piece.mk x0.Name x0.Material x0.Gauge x0.Grain r2 r4 r6)
noncomputable def mX (x0:Piece):(Int×Int×Int)→Option ((Int×Int×Int) ⊕ (Int×Int)):=fun s47 =>
  if (decide (s47.2.2<(x0.Rects.length:Int))) then ((idx x0.Rects s47.2.2).bind fun x61=>(idx x0.Rects s47.2.2).bind fun x63=>some (.inl ((nG s47.1 x61.X),(nG s47.2.1 x63.Y),(aF s47.2.2 1)))) else (some (.inr (s47.1,s47.2.1)))
noncomputable def wE (x0:Piece):Option (Piece×Bool×ByteArray×ByteArray×Int×Int×(List Rect)×(List Rect)×(List Rect)):=
  (dM x0.Rects).bind fun r4=>if (!r4) then (some (x0,false,x0.Name,x0.Material,x0.Gauge,x0.Grain,x0.Rects,x0.Cuts,x0.Forms)) else (if ((x0.Rects.length:Int)==0) then (some (x0,true,x0.Name,x0.Material,x0.Gauge,x0.Grain,x0.Rects,x0.Cuts,x0.Forms)) else ((idx x0.Rects 0).bind fun x9=>(idx x0.Rects 0).bind fun x10=>(aD (mX x0) (x9.X,x10.Y,1)).bind fun x64=>(Bd x0 (tJ x64.1) (tJ x64.2)).bind fun r66=>some (r66,true,r66.Name,r66.Material,r66.Gauge,r66.Grain,r66.Rects,r66.Cuts,r66.Forms)))
noncomputable def rJ (l:(List Rect)):(Int×Int×Int)→Option ((Int×Int×Int) ⊕ (Int×Int)):=fun s43 =>
  if (decide (s43.2.2<(l.length:Int))) then ((idx l s43.2.2).bind fun x57=>(idx l s43.2.2).bind fun x59=>some (.inl ((nG s43.1 x57.X),(nG s43.2.1 x59.Y),(aF s43.2.2 1)))) else (some (.inr (s43.1,s43.2.1)))
noncomputable def uL (l:(List Rect)):Option (Int×Int):=
  (idx l 0).bind fun x5=>(idx l 0).bind fun x6=>(aD (rJ l) (x5.X,x6.Y,1)).bind fun x60=>some (x60.1,x60.2)
noncomputable def rF (a:Rect) (b:Rect):Option (Bool):=
  ((bP a).bind fun r4=>if r4 then ((bP b).bind fun r5=>if r5 then (if (decide (a.X<(aF b.X b.W))) then (if (decide (b.X<(aF a.X a.W))) then (if (decide (a.Y<(aF b.Y b.H))) then (some (decide (b.Y<(aF a.Y a.H)))) else (some false)) else (some false)) else (some false)) else (some false)) else (some false)).bind fun j3=>some j3
noncomputable def iY (r0:Rect) (l:(List Rect)):Int→Option (Int ⊕ (Unit ⊕ Unit)):=fun s55 =>
  if (decide (s55<(l.length:Int))) then ((idx l s55).bind fun x78=>(rF r0 x78).bind fun r79=>if r79 then (some (.inr (.inl ()))) else (some (.inl (aF s55 1)))) else (some (.inr (.inr (()))))
noncomputable def iX (r0:Rect) (l:(List Rect)):Option (Bool):=
  (aD (iY r0 l) 0).bind fun x80=>match x80 with | .inl j81=>some true | .inr j82=>some false
noncomputable def xA (a:Rect) (b:Rect):Option (Bool):=
  (if ((aH (nG (aF a.X a.W) (aF b.X b.W)) (iU a.X b.X))==0) then (if (decide ((aH (nG (aF a.Y a.H) (aF b.Y b.H)) (iU a.Y b.Y))>0)) then (some true) else (if ((aH (nG (aF a.Y a.H) (aF b.Y b.H)) (iU a.Y b.Y))==0) then (some (decide ((aH (nG (aF a.X a.W) (aF b.X b.W)) (iU a.X b.X))>0))) else (some false))) else (if ((aH (nG (aF a.Y a.H) (aF b.Y b.H)) (iU a.Y b.Y))==0) then (some (decide ((aH (nG (aF a.X a.W) (aF b.X b.W)) (iU a.X b.X))>0))) else (some false))).bind fun j1=>some j1
noncomputable def fI (s1438:Int×(List Bool)×(List Int)):((List Bool)×(List Int))→Option ((Int×(List Bool)×(List Int)) ⊕ ((List Bool)×(List Int))):=fun j1500 =>
  some (.inl ((aF s1438.1 1),j1500.1,j1500.2))
noncomputable def bQ (l:(List Rect)) (s1017:Int×(List Bool)×(List Int)):(Int×(List Bool)×(List Int))→Option ((Int×(List Bool)×(List Int)) ⊕ ((List Bool)×(List Int))):=fun s1438 =>
  if (decide (s1438.1<(l.length:Int))) then (((idx s1438.2.1 s1438.1).bind fun x1512=>if x1512 then (some false) else ((idx s1438.2.2 s1017.1).bind fun x1513=>(idx l x1513).bind fun x1514=>(idx l s1438.1).bind fun x1515=>(xA x1514 x1515).bind fun r1516=>some r1516)).bind fun j1511=>if j1511 then ((idx s1438.2.1 s1438.1).bind fun x1518=>(app s1438.2.2 [s1438.1]).bind fun l1520=>fI s1438 ((List.set s1438.2.1 (Int.toNat s1438.1) true),l1520)) else (fI s1438 (s1438.2.1,s1438.2.2))) else (some (.inr (s1438.2.1,s1438.2.2)))
noncomputable def dH (l:(List Rect)):(Int×(List Bool)×(List Int))→Option ((Int×(List Bool)×(List Int)) ⊕ (List Int)):=fun s1017 =>
  if (decide (s1017.1<(s1017.2.2.length:Int))) then ((aD (bQ l s1017) (0,s1017.2.1,s1017.2.2)).bind fun x1521=>some (.inl ((aF s1017.1 1),x1521.1,x1521.2))) else (some (.inr s1017.2.2))
noncomputable def pF (l:(List Rect)):Option (Bool):=
  (mk (l.length:Int) false).bind fun l2=>(idx l2 0).bind fun x4=>(aD (dH l) (0,(List.set l2 (Int.toNat 0) true),[0])).bind fun x1522=>some ((x1522.length:Int)==(l.length:Int))
noncomputable def jQ (r0:Rect) (l:(List Rect)):Int→Option (Int ⊕ (Unit ⊕ Unit)):=fun s159 =>
  if (decide (s159<(l.length:Int))) then (((idx l s159).bind fun x230=>if (decide (r0.X>x230.X)) then ((idx l s159).bind fun x231=>if (decide (r0.Y>x231.Y)) then ((idx l s159).bind fun x232=>(idx l s159).bind fun x233=>if (decide ((aF r0.X r0.W)<(aF x232.X x233.W))) then ((idx l s159).bind fun x234=>(idx l s159).bind fun x235=>some (decide ((aF r0.Y r0.H)<(aF x234.Y x235.H)))) else (some false)) else (some false)) else (some false)).bind fun j229=>if j229 then (some (.inr (.inl ()))) else (some (.inl (aF s159 1)))) else (some (.inr (.inr (()))))
noncomputable def vY (r0:Rect) (l:(List Rect)):Option (Bool):=
  (aD (jQ r0 l) 0).bind fun x236=>match x236 with | .inl j237=>some true | .inr j238=>some false
noncomputable def uJ (a:Rect) (b:Rect):Option (Int):=
  ((bP a).bind fun r9=>if r9 then ((bP b).bind fun r10=>some (!r10)) else (some true)).bind fun j8=>if j8 then (some 0) else (some (iU (iU (iU 0 (aH (aH a.X b.X) b.W)) (aH (aH b.X a.X) a.W)) (iU (iU 0 (aH (aH a.Y b.Y) b.H)) (aH (aH b.Y a.Y) a.H))))
noncomputable def dO (x0:Piece):Int→Option (Int ⊕ (Unit ⊕ Unit)):=fun s101 =>
  if (decide (s101<(x0.Rects.length:Int))) then ((idx x0.Rects s101).bind fun x135=>(slc x0.Rects 0 s101).bind fun l136=>(iX x135 l136).bind fun r137=>if r137 then (some (.inr (.inl ()))) else (some (.inl (aF s101 1)))) else (some (.inr (.inr (()))))
noncomputable def dP (x0:Piece) (l150:(List Rect)):Int→Option (Int ⊕ (Unit ⊕ Unit)):=fun s261 =>
  if (decide (s261<(l150.length:Int))) then (((idx l150 s261).bind fun x310=>(vY x310 x0.Rects).bind fun r311=>if r311 then (if (decide (s261<(x0.Cuts.length:Int))) then ((idx l150 s261).bind fun x312=>if (x312.W==1) then (some true) else ((idx l150 s261).bind fun x313=>some (x313.H==1))) else (some false)) else (some true)).bind fun j309=>if j309 then (some (.inr (.inl ()))) else (some (.inl (aF s261 1)))) else (some (.inr (.inr (()))))
noncomputable def dQ (l150:(List Rect)) (s567:Int):Int→Option (Int ⊕ (Unit ⊕ Unit)):=fun s764 =>
  if (decide (s764<s567)) then ((idx l150 s567).bind fun x798=>(idx l150 s764).bind fun x799=>(uJ x798 x799).bind fun r800=>if (r800==0) then (some (.inr (.inl ()))) else (some (.inl (aF s764 1)))) else (some (.inr (.inr (()))))
noncomputable def dU (l150:(List Rect)):Int→Option (Int ⊕ (Unit ⊕ Unit)):=fun s567 =>
  if (decide (s567<(l150.length:Int))) then ((aD (dQ l150 s567) 0).bind fun x801=>match x801 with | .inl j802=>some (.inr (.inl ())) | .inr j803=>some (.inl (aF s567 1))) else (some (.inr (.inr (()))))
noncomputable def cZ (x0:Piece):Option (Int):=
  (oO x0.Name x0.Material x0.Gauge x0.Grain).bind fun r2=>if (r2 != 0) then (some r2) else ((if (decide ((x0.Rects.length:Int)>12)) then (some true) else (if (decide ((x0.Cuts.length:Int)>12)) then (some true) else (some (decide ((x0.Forms.length:Int)>12))))).bind fun j4=>if j4 then (some 4) else ((if ((x0.Rects.length:Int)==0) then (some true) else ((dM x0.Rects).bind fun r16=>if r16 then ((dM x0.Cuts).bind fun r17=>if r17 then ((dM x0.Forms).bind fun r18=>some (!r18)) else (some true)) else (some true))).bind fun j15=>if j15 then (some 1) else ((uL x0.Rects).bind fun r20=>(if (r20.1 != 0) then (some true) else (some (r20.2 != 0))).bind fun j22=>if j22 then (some 1) else ((aD (dO x0) 0).bind fun x138=>match x138 with | .inl j139=>some 7 | .inr j140=>(pF x0.Rects).bind fun r144=>if (!r144) then (some 6) else ((app [] x0.Cuts).bind fun l149=>(app l149 x0.Forms).bind fun l150=>(aD (dP x0 l150) 0).bind fun x314=>match x314 with | .inl j315=>some 13 | .inr j316=>(aD (dU l150) 0).bind fun x804=>match x804 with | .inl j805=>some 7 | .inr j806=>some 0)))))
noncomputable def bI (l:LayoutT):Int→Option (Int ⊕ (Int ⊕ Unit)):=fun s57 =>
  if (decide (s57<(l.Pieces.length:Int))) then ((idx l.Pieces s57).bind fun x78=>(wE x78).bind fun r79=>if (!r79.2.1) then (some (.inr (.inl 1))) else ((cZ (Piece.mk r79.1.Name r79.1.Material r79.1.Gauge r79.1.Grain r79.1.Rects r79.1.Cuts r79.1.Forms)).bind fun r81=>if (r81 != 0) then (some (.inr (.inl r81))) else (some (.inl (aF s57 1))))) else (some (.inr (.inr (()))))
noncomputable def fP (l:LayoutT) (x1424:Piece):Int→Option (Int ⊕ (Unit ⊕ Unit)):=fun s1464 =>
  if (decide (s1464<(x1424.Rects.length:Int))) then (((idx x1424.Rects s1464).bind fun x1535=>(kP x1535 (Rect.mk 0 0 l.Sheet.Width l.Sheet.Height)).bind fun r1536=>if r1536 then ((idx x1424.Rects s1464).bind fun x1537=>(iX x1537 l.Sheet.Clamps).bind fun r1538=>if r1538 then (some true) else ((idx x1424.Rects s1464).bind fun x1539=>(iX x1539 l.Sheet.Used).bind fun r1540=>some r1540)) else (some true)).bind fun j1534=>if j1534 then (some (.inr (.inl ()))) else (some (.inl (aF s1464 1)))) else (some (.inr (.inr (()))))
noncomputable def fQ (l:LayoutT):Int→Option (Int ⊕ (Unit ⊕ Unit)):=fun s1059 =>
  if (decide (s1059<(l.Pieces.length:Int))) then ((idx l.Pieces s1059).bind fun x1424=>(aD (fP l x1424) 0).bind fun x1541=>match x1541 with | .inl j1542=>some (.inr (.inl ())) | .inr j1543=>some (.inl (aF s1059 1))) else (some (.inr (.inr (()))))
noncomputable def fT (l:LayoutT) (s3717:Int) (s5514:Int):Int→Option (Int ⊕ (Unit ⊕ Unit)):=fun s5811 =>
  (idx l.Pieces s3717).bind fun x5843=>if (decide (s5811<(x5843.Rects.length:Int))) then ((idx l.Pieces s3717).bind fun x5864=>(idx x5864.Rects s5811).bind fun x5865=>(idx l.Pieces s5514).bind fun x5866=>(iX x5865 x5866.Rects).bind fun r5867=>if r5867 then (some (.inr (.inl ()))) else (some (.inl (aF s5811 1)))) else (some (.inr (.inr (()))))
noncomputable def fU (l:LayoutT) (s3717:Int):Int→Option (Int ⊕ (Unit ⊕ Unit)):=fun s5514 =>
  if (decide (s5514<s3717)) then ((aD (fT l s3717 s5514) 0).bind fun x5868=>match x5868 with | .inl j5869=>some (.inr (.inl ())) | .inr j5870=>some (.inl (aF s5514 1))) else (some (.inr (.inr (()))))
noncomputable def fV (l:LayoutT):Int→Option (Int ⊕ (Unit ⊕ Unit)):=fun s3717 =>
  if (decide (s3717<(l.Pieces.length:Int))) then ((aD (fU l s3717) 0).bind fun x5871=>match x5871 with | .inl j5872=>some (.inr (.inl ())) | .inr j5873=>some (.inl (aF s3717 1))) else (some (.inr (.inr (()))))
noncomputable def dW (l:LayoutT):Option (Int):=
  (mK l.Sheet).bind fun r2=>if (r2 != 0) then (some r2) else (if (decide ((l.Pieces.length:Int)>8)) then (some 4) else ((aD (bI l) 0).bind fun x82=>match x82 with | .inl j83=>some j83 | .inr j84=>(aD (fQ l) 0).bind fun x1544=>match x1544 with | .inl j1545=>some 13 | .inr j1546=>(aD (fV l) 0).bind fun x5874=>match x5874 with | .inl j5875=>some 7 | .inr j5876=>some 0))
noncomputable def pG (n:Int) (h0:(List Int)):Int→Option (Int ⊕ Int):=fun s29 =>
  (if (decide (s29>0)) then ((idx h0 (aH s29 1)).bind fun x41=>some (decide (x41>n))) else (some false)).bind fun j40=>if j40 then (some (.inl (aH s29 1))) else (some (.inr s29))
noncomputable def pI (x42:Int):Int×(List Int)→Option (Int×(List Int) ⊕ (List Int)):=fun s87 =>
  if (decide (s87.1>x42)) then ((idx s87.2 (aH s87.1 1)).bind fun x102=>(idx s87.2 s87.1).bind fun x103=>some (.inl ((aH s87.1 1),(List.set s87.2 (Int.toNat s87.1) x102)))) else (some (.inr s87.2))
noncomputable def iE (n:Int) (h0:(List Int)):Option ((List Int)):=
  (aD (pG n h0) (h0.length:Int)).bind fun x42=>(if (decide (x42>0)) then ((idx h0 (aH x42 1)).bind fun x48=>some (x48==n)) else (some false)).bind fun j47=>if j47 then (some h0) else ((app h0 [0]).bind fun l50=>(aD (pI x42) ((aH (l50.length:Int) 1),l50)).bind fun x104=>(idx x104 x42).bind fun x106=>some (List.set x104 (Int.toNat x42) n))
noncomputable def mW (l:(List Rect)):(Int×(List Int)×(List Int))→Option ((Int×(List Int)×(List Int)) ⊕ ((List Int)×(List Int))):=fun s213 =>
  if (decide (s213.1<(l.length:Int))) then ((idx l s213.1).bind fun x294=>(iE x294.X s213.2.1).bind fun r295=>(idx l s213.1).bind fun x302=>(idx l s213.1).bind fun x303=>(iE (aF x302.X x303.W) r295).bind fun r304=>(idx l s213.1).bind fun x307=>(iE x307.Y s213.2.2).bind fun r308=>(idx l s213.1).bind fun x315=>(idx l s213.1).bind fun x316=>(iE (aF x315.Y x316.H) r308).bind fun r317=>some (.inl ((aF s213.1 1),r304,r317))) else (some (.inr (s213.2.1,s213.2.2)))
noncomputable def vX (l:(List Rect)):Option ((List Int)×(List Int)):=
  (aD (mW l) (0,[],[])).bind fun x318=>some (x318.1,x318.2)
noncomputable def kV (l:(List Rect)) (x1:Int) (y:Int):Int→Option (Int ⊕ (Unit ⊕ Unit)):=fun s31 =>
  if (decide (s31<(l.length:Int))) then ((idx l s31).bind fun x42=>(if (decide (x42.X≤x1)) then (if (decide (x1<(aF x42.X x42.W))) then (if (decide (x42.Y≤y)) then (some (decide (y<(aF x42.Y x42.H)))) else (some false)) else (some false)) else (some false)).bind fun j43=>if j43 then (some (.inr (.inl ()))) else (some (.inl (aF s31 1)))) else (some (.inr (.inr (()))))
noncomputable def tO (l:(List Rect)) (x1:Int) (y:Int):Option (Bool):=
  (aD (kV l x1 y) 0).bind fun x44=>match x44 with | .inl j45=>some true | .inr j46=>some false
noncomputable def mD (regions:(List (List Rect))) (x1:Int) (y:Int):Int→Option (Int ⊕ (Int ⊕ Unit)):=fun s39 =>
  if (decide (s39<(regions.length:Int))) then ((idx regions s39).bind fun x54=>(tO x54 x1 y).bind fun r55=>if r55 then (some (.inr (.inl s39))) else (some (.inl (aF s39 1)))) else (some (.inr (.inr (()))))
noncomputable def uK (regions:(List (List Rect))) (x1:Int) (y:Int):Option (Int):=
  (aD (mD regions x1 y) 0).bind fun x56=>match x56 with | .inl j57=>some j57 | .inr j58=>some (-1)
noncomputable def kW (s1088:Int×(List (List Int))):(List (List Int))→Option (Int×(List (List Int)) ⊕ (List (List Int))):=fun j1150 =>
  some (.inl ((aF s1088.1 1),j1150))
noncomputable def iK (regions:(List (List Rect))) (xs:(List Int)) (ys:(List Int)) (s651:Int×(List (List Int))):Int×(List (List Int))→Option (Int×(List (List Int)) ⊕ (List (List Int))):=fun s1088 =>
  if (decide (s1088.1≤(ys.length:Int))) then ((idx s1088.2 s651.1).bind fun x1153=>(idx x1153 s1088.1).bind fun x1154=>(if (decide (s651.1>0)) then (if (decide (s1088.1>0)) then (if (decide (s651.1<(xs.length:Int))) then (some (decide (s1088.1<(ys.length:Int)))) else (some false)) else (some false)) else (some false)).bind fun j1155=>if j1155 then ((idx (List.set s1088.2 (Int.toNat s651.1) (List.set x1153 (Int.toNat s1088.1) (-1))) s651.1).bind fun x1166=>(idx xs (aH s651.1 1)).bind fun x1167=>(idx ys (aH s1088.1 1)).bind fun x1168=>(uK regions x1167 x1168).bind fun r1169=>(idx x1166 s1088.1).bind fun x1170=>kW s1088 (List.set (List.set s1088.2 (Int.toNat s651.1) (List.set x1153 (Int.toNat s1088.1) (-1))) (Int.toNat s651.1) (List.set x1166 (Int.toNat s1088.1) r1169))) else (kW s1088 (List.set s1088.2 (Int.toNat s651.1) (List.set x1153 (Int.toNat s1088.1) (-1))))) else (some (.inr s1088.2))
noncomputable def kX (regions:(List (List Rect))) (xs:(List Int)) (ys:(List Int)):Int×(List (List Int))→Option (Int×(List (List Int)) ⊕ (List (List Int))):=fun s651 =>
  if (decide (s651.1≤(xs.length:Int))) then ((mk (aF (ys.length:Int) 1) 0).bind fun l1044=>(idx s651.2 s651.1).bind fun x1045=>(aD (iK regions xs ys s651) (0,(List.set s651.2 (Int.toNat s651.1) l1044))).bind fun x1171=>some (.inl ((aF s651.1 1),x1171))) else (some (.inr s651.2))
noncomputable def tQ (regions:(List (List Rect))) (xs:(List Int)) (ys:(List Int)):Option ((List (List Int))):=
  (mk (aF (xs.length:Int) 1) []).bind fun l2=>(aD (kX regions xs ys) (0,l2)).bind fun x1172=>some x1172
noncomputable def bM (x1:sheetmetalref06_Line) (h0:(List sheetmetalref06_Line)):Option ((List sheetmetalref06_Line)):=
  if (x1.Low==x1.High) then (some h0) else ((if (decide ((aH (h0.length:Int) 1) ≥ 0)) then ((idx h0 (aH (h0.length:Int) 1)).bind fun x37=>if (x37.Low==x1.Low) then ((idx h0 (aH (h0.length:Int) 1)).bind fun x38=>if (x38.High==x1.High) then ((idx h0 (aH (h0.length:Int) 1)).bind fun x39=>if (x39.At.X2==x1.At.X1) then ((idx h0 (aH (h0.length:Int) 1)).bind fun x40=>if (x40.At.Y2==x1.At.Y1) then ((idx h0 (aH (h0.length:Int) 1)).bind fun x41=>if (x41.At.Y1==x1.At.Y2) then (some true) else ((idx h0 (aH (h0.length:Int) 1)).bind fun x42=>some (x42.At.X1==x1.At.X2))) else (some false)) else (some false)) else (some false)) else (some false)) else (some false)).bind fun j36=>if j36 then ((idx h0 (aH (h0.length:Int) 1)).bind fun x44=>(idx (List.set h0 (Int.toNat (aH (h0.length:Int) 1)) (sheetmetalref06_Line.mk (Segment.mk x44.At.X1 x44.At.Y1 x1.At.X2 x44.At.Y2) x44.Low x44.High)) (aH (h0.length:Int) 1)).bind fun x46=>some (List.set (List.set h0 (Int.toNat (aH (h0.length:Int) 1)) (sheetmetalref06_Line.mk (Segment.mk x44.At.X1 x44.At.Y1 x1.At.X2 x44.At.Y2) x44.Low x44.High)) (Int.toNat (aH (h0.length:Int) 1)) (sheetmetalref06_Line.mk (Segment.mk x46.At.X1 x46.At.Y1 x46.At.X2 x1.At.Y2) x46.Low x46.High))) else ((app h0 [x1]).bind fun l48=>some l48))
noncomputable def kM (regions:(List (List Rect))):Int×(List Rect)→Option (Int×(List Rect) ⊕ (List Rect)):=fun s37 =>
  if (decide (s37.1<(regions.length:Int))) then ((idx regions s37.1).bind fun x52=>(app s37.2 x52).bind fun l53=>some (.inl ((aF s37.1 1),l53))) else (some (.inr s37.2))
noncomputable def gQ (r56:(List Int)×(List Int)) (r58:(List (List Int))) (s1383:Int×(List sheetmetalref06_Line)):Int×(List sheetmetalref06_Line)→Option (Int×(List sheetmetalref06_Line) ⊕ (List sheetmetalref06_Line)):=fun s1934 =>
  if (decide ((aF s1934.1 1)<(r56.1.length:Int))) then ((idx r56.1 s1934.1).bind fun x2034=>(idx r56.2 s1383.1).bind fun x2035=>(idx r56.1 (aF s1934.1 1)).bind fun x2036=>(idx r56.2 s1383.1).bind fun x2037=>(idx r58 (aF s1934.1 1)).bind fun x2038=>(idx x2038 s1383.1).bind fun x2039=>(idx r58 (aF s1934.1 1)).bind fun x2040=>(idx x2040 (aF s1383.1 1)).bind fun x2041=>(bM (sheetmetalref06_Line.mk (Segment.mk x2034 x2035 x2036 x2037) x2039 x2041) s1934.2).bind fun r2042=>some (.inl ((aF s1934.1 1),r2042))) else (some (.inr s1934.2))
noncomputable def gU (r56:(List Int)×(List Int)) (r58:(List (List Int))):Int×(List sheetmetalref06_Line)→Option (Int×(List sheetmetalref06_Line) ⊕ (List sheetmetalref06_Line)):=fun s1383 =>
  if (decide (s1383.1<(r56.2.length:Int))) then ((aD (gQ r56 r58 s1383) (0,s1383.2)).bind fun x2043=>some (.inl ((aF s1383.1 1),x2043))) else (some (.inr s1383.2))
noncomputable def gV (r56:(List Int)×(List Int)) (r58:(List (List Int))) (s3369:Int×(List sheetmetalref06_Line)):Int×(List sheetmetalref06_Line)→Option (Int×(List sheetmetalref06_Line) ⊕ (List sheetmetalref06_Line)):=fun s3920 =>
  if (decide ((aF s3920.1 1)<(r56.2.length:Int))) then ((idx r56.1 s3369.1).bind fun x4020=>(idx r56.2 s3920.1).bind fun x4021=>(idx r56.1 s3369.1).bind fun x4022=>(idx r56.2 (aF s3920.1 1)).bind fun x4023=>(idx r58 s3369.1).bind fun x4024=>(idx x4024 (aF s3920.1 1)).bind fun x4025=>(idx r58 (aF s3369.1 1)).bind fun x4026=>(idx x4026 (aF s3920.1 1)).bind fun x4027=>(bM (sheetmetalref06_Line.mk (Segment.mk x4020 x4021 x4022 x4023) x4025 x4027) s3920.2).bind fun r4028=>some (.inl ((aF s3920.1 1),r4028))) else (some (.inr s3920.2))
noncomputable def gW (r56:(List Int)×(List Int)) (r58:(List (List Int))):Int×(List sheetmetalref06_Line)→Option (Int×(List sheetmetalref06_Line) ⊕ (List sheetmetalref06_Line)):=fun s3369 =>
  if (decide (s3369.1<(r56.1.length:Int))) then ((aD (gV r56 r58 s3369) (0,s3369.2)).bind fun x4029=>some (.inl ((aF s3369.1 1),x4029))) else (some (.inr s3369.2))
noncomputable def mV (regions:(List (List Rect))):Option ((List sheetmetalref06_Line)):=
  (aD (kM regions) (0,[])).bind fun x54=>(vX x54).bind fun r56=>(tQ regions r56.1 r56.2).bind fun r58=>(aD (gU r56 r58) (0,[])).bind fun x2044=>(aD (gW r56 r58) (0,x2044)).bind fun x4030=>some x4030
noncomputable def mE (l:LayoutT):Int×(List (List Rect))→Option (Int×(List (List Rect)) ⊕ (List (List Rect))):=fun s37 =>
  if (decide (s37.1<(l.Pieces.length:Int))) then ((idx l.Pieces s37.1).bind fun x52=>(app s37.2 [x52.Rects]).bind fun l53=>some (.inl ((aF s37.1 1),l53))) else (some (.inr s37.2))
noncomputable def rP (r56:(List sheetmetalref06_Line)) (s197:Int×(List EdgeT)):(Int×Int)→Option (Int×(List EdgeT) ⊕ (List EdgeT)):=fun j261 =>
  (idx r56 s197.1).bind fun x264=>(app s197.2 [(EdgeT.mk x264.At j261.1 j261.2)]).bind fun l265=>some (.inl ((aF s197.1 1),l265))
noncomputable def mF (r56:(List sheetmetalref06_Line)):Int×(List EdgeT)→Option (Int×(List EdgeT) ⊕ (List EdgeT)):=fun s197 =>
  if (decide (s197.1<(r56.length:Int))) then ((idx r56 s197.1).bind fun x257=>(idx r56 s197.1).bind fun x258=>(idx r56 s197.1).bind fun x259=>(idx r56 s197.1).bind fun x260=>if (decide ((nG x257.Low x258.High)<0)) then (rP r56 s197 ((iU x259.Low x260.High),(nG x257.Low x258.High))) else (rP r56 s197 ((nG x257.Low x258.High),(iU x259.Low x260.High)))) else (some (.inr s197.2))
noncomputable def eG (l:LayoutT):Option ((List EdgeT)):=
  (aD (mE l) (0,[])).bind fun x54=>(mV x54).bind fun r56=>(aD (mF r56) (0,[])).bind fun x266=>some x266
noncomputable def yS (l:LayoutT):Option ((List EdgeT)×Int):=
  (dW l).bind fun r2=>if (r2 != 0) then (some ([],r2)) else ((eG l).bind fun r4=>some (r4,0))
noncomputable def jE (l:LayoutT):Int×(List (List Bool))→Option (Int×(List (List Bool)) ⊕ (List (List Bool))):=fun s92 =>
  if (decide (s92.1<(l.Pieces.length:Int))) then ((idx l.Pieces s92.1).bind fun x126=>(mk (x126.Cuts.length:Int) false).bind fun l127=>(app s92.2 [l127]).bind fun l128=>some (.inl ((aF s92.1 1),l128))) else (some (.inr s92.2))
noncomputable def lH (l:LayoutT):Option (sheetmetalref07_State):=
  (eG l).bind fun r11=>(mk (r11.length:Int) false).bind fun l12=>(mk (l.Pieces.length:Int) false).bind fun l13=>(mk (l.Pieces.length:Int) 0).bind fun l14=>(mk (l.Pieces.length:Int) false).bind fun l15=>(aD (jE l) (0,[])).bind fun x129=>some (sheetmetalref07_State.mk l12 x129 l13 l14 l15)
noncomputable def jV (l:LayoutT) (st:sheetmetalref07_State):Int→Option (Int ⊕ (Unit ⊕ Unit)):=fun s57 =>
  if (decide (s57<(l.Pieces.length:Int))) then ((idx st.Holes s57).bind fun x80=>(idx l.Pieces s57).bind fun x81=>if ((x80.length:Int) != (x81.Cuts.length:Int)) then (some (.inr (.inl ()))) else (some (.inl (aF s57 1)))) else (some (.inr (.inr (()))))
noncomputable def fE (l:LayoutT) (st:sheetmetalref07_State) (edges:Int):Option (Bool):=
  (if ((st.Cut.length:Int) != edges) then (some true) else (if ((st.Holes.length:Int) != (l.Pieces.length:Int)) then (some true) else (if ((st.Done.length:Int) != (l.Pieces.length:Int)) then (some true) else (if ((st.Joints.length:Int) != (l.Pieces.length:Int)) then (some true) else (some ((st.Fallen.length:Int) != (l.Pieces.length:Int))))))).bind fun j2=>if j2 then (some false) else ((aD (jV l st) 0).bind fun x82=>match x82 with | .inl j83=>some false | .inr j84=>some true)
noncomputable def nK (l:(List Bool)):Int→Option (Int ⊕ (Unit ⊕ Unit)):=fun s23 =>
  if (decide (s23<(l.length:Int))) then ((idx l s23).bind fun x31=>if (!x31) then (some (.inr (.inl ()))) else (some (.inl (aF s23 1)))) else (some (.inr (.inr (()))))
noncomputable def nH (l:(List Bool)):Option (Bool):=
  (aD (nK l) 0).bind fun x32=>match x32 with | .inl j33=>some false | .inr j34=>some true
noncomputable def jD (l:(List EdgeT)) (st:sheetmetalref07_State) (piece:Int):Int→Option (Int ⊕ (Unit ⊕ Unit)):=fun s79 =>
  if (decide (s79<(l.length:Int))) then (((idx l s79).bind fun x112=>if (x112.A==piece) then ((idx st.Cut s79).bind fun x113=>some (!x113)) else ((idx l s79).bind fun x114=>if (x114.B==piece) then ((idx st.Cut s79).bind fun x115=>some (!x115)) else (some false))).bind fun j111=>if j111 then (some (.inr (.inl ()))) else (some (.inl (aF s79 1)))) else (some (.inr (.inr (()))))
noncomputable def lG (l:(List EdgeT)) (st:sheetmetalref07_State) (piece:Int):Option (Bool):=
  (aD (jD l st piece) 0).bind fun x116=>match x116 with | .inl j117=>some false | .inr j118=>some true
noncomputable def wD (s0:Spot) (g:Segment):Option (Int):=
  some (iU (iU (iU (iU 0 (aH g.X1 s0.X)) (aH s0.X g.X2)) (aH g.Y1 s0.Y)) (aH s0.Y g.Y2))
noncomputable def jB (l:LayoutT) (s4:Spot):Int→Option (Int ⊕ (Unit ⊕ Unit)):=fun s61 =>
  if (decide (s61<(l.Pieces.length:Int))) then ((idx l.Pieces s61).bind fun x84=>(fM x84.Rects s4).bind fun r85=>if r85 then (some (.inr (.inl ()))) else (some (.inl (aF s61 1)))) else (some (.inr (.inr (()))))
noncomputable def jC (es:(List EdgeT)) (st:sheetmetalref07_State) (piece:Int) (s4:Spot):Int→Option (Int ⊕ (Unit ⊕ Unit)):=fun s295 =>
  if (decide (s295<(es.length:Int))) then (((idx es s295).bind fun x388=>if (x388.A==piece) then ((idx st.Cut s295).bind fun x389=>if x389 then (some false) else ((idx es s295).bind fun x390=>(wD s4 x390.Line).bind fun r391=>some (decide (r391≤7200)))) else ((idx es s295).bind fun x392=>if (x392.B==piece) then ((idx st.Cut s295).bind fun x393=>if x393 then (some false) else ((idx es s295).bind fun x394=>(wD s4 x394.Line).bind fun r395=>some (decide (r395≤7200)))) else (some false))).bind fun j387=>if j387 then (some (.inr (.inl ()))) else (some (.inl (aF s295 1)))) else (some (.inr (.inr (()))))
noncomputable def uM (l:LayoutT) (es:(List EdgeT)) (st:sheetmetalref07_State) (piece:Int) (s4:Spot):Option (Bool):=
  (if (decide (s4.X<0)) then (some true) else (if (decide (s4.Y<0)) then (some true) else (if (decide (s4.X>l.Sheet.Width)) then (some true) else (if (decide (s4.Y>l.Sheet.Height)) then (some true) else ((fM l.Sheet.Clamps s4).bind fun r6=>some r6))))).bind fun j5=>if j5 then (some false) else ((aD (jB l s4) 0).bind fun x86=>match x86 with | .inl j87=>some false | .inr j88=>(aD (jC es st piece s4) 0).bind fun x396=>match x396 with | .inl j397=>some true | .inr j398=>some false)
noncomputable def eT (l:LayoutT) (es:(List EdgeT)) (st:sheetmetalref07_State) (x3:ItemT):Option (Int):=
  ((fE l st (es.length:Int)).bind fun r13=>if r13 then (if (decide (x3.Piece<0)) then (some true) else (if (decide (x3.Piece ≥ (l.Pieces.length:Int))) then (some true) else (if (decide (x3.Hole<(-1))) then (some true) else ((idx l.Pieces x3.Piece).bind fun x14=>if (decide (x3.Hole ≥ (x14.Cuts.length:Int))) then (some true) else (if (decide (x3.Joints<0)) then (some true) else (if (decide (x3.Joints>4)) then (some true) else (if (decide (x3.Hole ≥ 0)) then (some (x3.Joints != 0)) else (some false)))))))) else (some true)).bind fun j12=>if j12 then (some 1) else ((idx l.Pieces x3.Piece).bind fun x16=>if (decide (x3.Hole ≥ 0)) then (((idx st.Fallen x3.Piece).bind fun x58=>if x58 then (some true) else ((idx st.Holes x3.Piece).bind fun x59=>(idx x59 x3.Hole).bind fun x60=>some x60)).bind fun j57=>if j57 then (some 12) else ((idx x16.Cuts x3.Hole).bind fun x62=>(if (decide (x3.Lead.X≤x62.X)) then (some true) else (if (decide (x3.Lead.X ≥ (aF x62.X x62.W))) then (some true) else (if (decide (x3.Lead.Y≤x62.Y)) then (some true) else (some (decide (x3.Lead.Y ≥ (aF x62.Y x62.H))))))).bind fun j64=>if j64 then (some 14) else (some 0))) else (((idx st.Fallen x3.Piece).bind fun x82=>if x82 then (some true) else ((idx st.Done x3.Piece).bind fun x83=>if x83 then (some true) else ((idx st.Holes x3.Piece).bind fun x84=>(nH x84).bind fun r85=>if r85 then ((lG es st x3.Piece).bind fun r86=>some r86) else (some true)))).bind fun j81=>if j81 then (some 12) else ((if (x3.Joints==0) then ((oQ x16).bind fun r92=>some r92) else (some false)).bind fun j91=>if j91 then (some 15) else ((uM l es st x3.Piece x3.Lead).bind fun r96=>if (!r96) then (some 14) else (some 0)))))
noncomputable def jS (st:sheetmetalref07_State):Int×(List (List Bool))→Option (Int×(List (List Bool)) ⊕ (List (List Bool))):=fun s89 =>
  if (decide (s89.1<(st.Holes.length:Int))) then ((idx st.Holes s89.1).bind fun x123=>(app [] x123).bind fun l124=>(app s89.2 [l124]).bind fun l125=>some (.inl ((aF s89.1 1),l125))) else (some (.inr s89.2))
noncomputable def vZ (st:sheetmetalref07_State):Option (sheetmetalref07_State):=
  (app [] st.Cut).bind fun l9=>(app [] st.Done).bind fun l10=>(app [] st.Joints).bind fun l11=>(app [] st.Fallen).bind fun l12=>(aD (jS st) (0,[])).bind fun x126=>some (sheetmetalref07_State.mk l9 x126 l10 l11 l12)
noncomputable def sQ (s154:Int×(List Bool)):(List Bool)→Option (Int×(List Bool) ⊕ (List Bool)):=fun j183 =>
  some (.inl ((aF s154.1 1),j183))
noncomputable def jT (es:(List EdgeT)) (j73:(List Bool)×(List (List Bool))×(List Bool)×(List Int)):Int×(List Bool)→Option (Int×(List Bool) ⊕ (List Bool)):=fun s154 =>
  if (decide (s154.1<(s154.2.length:Int))) then (((lG es (sheetmetalref07_State.mk j73.1 j73.2.1 j73.2.2.1 j73.2.2.2 s154.2) s154.1).bind fun r188=>if r188 then ((idx j73.2.2.1 s154.1).bind fun x189=>if x189 then ((idx j73.2.2.2 s154.1).bind fun x190=>some (!(decide (x190>0)))) else (some true)) else (some false)).bind fun j187=>if j187 then ((idx s154.2 s154.1).bind fun x192=>sQ s154 (List.set s154.2 (Int.toNat s154.1) true)) else (sQ s154 s154.2)) else (some (.inr s154.2))
noncomputable def mY (es:(List EdgeT)) (r2:sheetmetalref07_State):((List Bool)×(List (List Bool))×(List Bool)×(List Int))→Option (sheetmetalref07_State):=fun j73 =>
  (aD (jT es j73) (0,r2.Fallen)).bind fun x193=>some (sheetmetalref07_State.mk j73.1 j73.2.1 j73.2.2.1 j73.2.2.2 x193)
noncomputable def sS (s224:Int×(List Bool)):(List Bool)→Option (Int×(List Bool) ⊕ (List Bool)):=fun j253 =>
  some (.inl ((aF s224.1 1),j253))
noncomputable def jU (es:(List EdgeT)) (x2:ItemT):Int×(List Bool)→Option (Int×(List Bool) ⊕ (List Bool)):=fun s224 =>
  if (decide (s224.1<(es.length:Int))) then (((idx es s224.1).bind fun x259=>if (x259.A==x2.Piece) then (some true) else ((idx es s224.1).bind fun x260=>some (x260.B==x2.Piece))).bind fun j258=>if j258 then ((idx s224.2 s224.1).bind fun x262=>sS s224 (List.set s224.2 (Int.toNat s224.1) true)) else (sS s224 s224.2)) else (some (.inr s224.2))
noncomputable def gX (es:(List EdgeT)) (st:sheetmetalref07_State) (x2:ItemT):Option (sheetmetalref07_State):=
  (vZ st).bind fun r2=>if (decide (x2.Hole ≥ 0)) then ((idx r2.Holes x2.Piece).bind fun x198=>(idx x198 x2.Hole).bind fun x199=>mY es r2 (r2.Cut,(List.set r2.Holes (Int.toNat x2.Piece) (List.set x198 (Int.toNat x2.Hole) true)),r2.Done,r2.Joints)) else ((idx r2.Done x2.Piece).bind fun x201=>(idx r2.Joints x2.Piece).bind fun x203=>(aD (jU es x2) (0,r2.Cut)).bind fun x263=>mY es r2 (x263,r2.Holes,(List.set r2.Done (Int.toNat x2.Piece) true),(List.set r2.Joints (Int.toNat x2.Piece) x2.Joints)))
noncomputable def bC (l:LayoutT) (items:(List ItemT)) (r2:(List EdgeT)):(Int×(List Bool)×(List (List Bool))×(List Bool)×(List Int)×(List Bool)×(List sheetmetalref07_State))→Option ((Int×(List Bool)×(List (List Bool))×(List Bool)×(List Int)×(List Bool)×(List sheetmetalref07_State)) ⊕ ((Int×Int) ⊕ (List sheetmetalref07_State))):=fun s123 =>
  if (decide (s123.1<(items.length:Int))) then ((idx items s123.1).bind fun x170=>(eT l r2 (sheetmetalref07_State.mk s123.2.1 s123.2.2.1 s123.2.2.2.1 s123.2.2.2.2.1 s123.2.2.2.2.2.1) x170).bind fun r171=>if (r171 != 0) then (some (.inr (.inl (s123.1,r171)))) else ((idx items s123.1).bind fun x176=>(gX r2 (sheetmetalref07_State.mk s123.2.1 s123.2.2.1 s123.2.2.2.1 s123.2.2.2.2.1 s123.2.2.2.2.2.1) x176).bind fun r177=>(app s123.2.2.2.2.2.2 [r177]).bind fun l179=>some (.inl ((aF s123.1 1),r177.Cut,r177.Holes,r177.Done,r177.Joints,r177.Fallen,l179)))) else (some (.inr (.inr s123.2.2.2.2.2.2)))
noncomputable def iG (l:LayoutT) (items:(List ItemT)):Option ((List sheetmetalref07_State)×Int×Int):=
  (eG l).bind fun r2=>(lH l).bind fun r4=>(aD (bC l items r2) (0,r4.Cut,r4.Holes,r4.Done,r4.Joints,r4.Fallen,[])).bind fun x180=>match x180 with | .inl j181=>some ([],j181.1,j181.2) | .inr j182=>some (j182,0,0)
noncomputable def wO (l:LayoutT) (items:(List ItemT)):Option (sheetmetalref07_State×Int×Int×(List Bool)×(List (List Bool))×(List Bool)×(List Int)×(List Bool)):=
  (dW l).bind fun r2=>if (r2 != 0) then (some ((sheetmetalref07_State.mk [] [] [] [] []),0,r2,[],[],[],[],[])) else (if (decide ((items.length:Int)>128)) then (some ((sheetmetalref07_State.mk [] [] [] [] []),0,4,[],[],[],[],[])) else (if ((items.length:Int)==0) then ((lH l).bind fun r6=>some (r6,0,0,r6.Cut,r6.Holes,r6.Done,r6.Joints,r6.Fallen)) else ((iG l items).bind fun r8=>if (r8.2.2 != 0) then (some ((sheetmetalref07_State.mk [] [] [] [] []),r8.2.1,r8.2.2,[],[],[],[],[])) else ((idx r8.1 (aH (r8.1.length:Int) 1)).bind fun x10=>some (x10,0,0,x10.Cut,x10.Holes,x10.Done,x10.Joints,x10.Fallen)))))
noncomputable def iZ (r2:sheetmetalref07_State×Int×Int×(List Bool)×(List (List Bool))×(List Bool)×(List Int)×(List Bool)):Int→Option (Int ⊕ (Unit ⊕ Unit)):=fun s45 =>
  if (decide (s45<(r2.1.Holes.length:Int))) then ((idx r2.1.Holes s45).bind fun x60=>(nH x60).bind fun r61=>if (!r61) then (some (.inr (.inl ()))) else (some (.inl (aF s45 1)))) else (some (.inr (.inr (()))))
noncomputable def yR (l:LayoutT) (items:(List ItemT)):Option (Int):=
  (wO l items).bind fun r2=>if (r2.2.2.1 != 0) then (some r2.2.2.1) else ((nH r2.1.Done).bind fun r6=>if (!r6) then (some 12) else ((aD (iZ r2) 0).bind fun x62=>match x62 with | .inl j63=>some 12 | .inr j64=>some 0))
end Go.SM
namespace Go.SM
open Go Go.VI
def wb (m n:Int):Bool:=decide (-m≤n)&&decide (n≤m)
theorem Ha {m n:Int}:wb m n=true↔-m≤n∧n≤m:=by unfold wb;simp only [Bool.and_eq_true,decide_eq_true_eq]
theorem QU (n m:Int) (h : -1000000000≤m∧m≤1000000000):Gh n m=some (wb m n):=by
  unfold Gh wb
  rw [DZ (by omega) (by omega)]
  by_cases h1 : -m≤n <;> simp [h1]
def vR (r:Rect):Prop:=(-1048576≤r.X∧r.X≤1048576)∧(-1048576≤r.Y∧r.Y≤1048576)∧0<r.W∧0<r.H∧r.X+r.W≤1048576∧r.Y+r.H≤1048576
instance (r:Rect):Decidable (vR r):=by unfold vR;infer_instance
theorem YJ (x w:Int):sK x w=some (decide ((-1048576≤x∧x≤1048576)∧0<w∧x+w≤1048576)):=by
  unfold sK
  simp only [QU _ 1048576 (by omega),Option.bind_some]
  by_cases h1:wb 1048576 x=true
  · have h1':=Ha.1 h1
    by_cases h2:0<w
    · by_cases h3:w≤2097152
      · rw [aL (by omega) (by omega)]
        simp [h1,h2,h3,h1']
      · have:¬ x+w≤1048576:=by omega
        simp [h1,h2,h3,this]
    · simp [h1,h2]
  · have h1':¬ (-1048576≤x∧x≤1048576):=fun q=>h1 (Ha.2 q)
    simp [h1];intro a b;exact absurd ⟨a,b⟩ h1'
theorem tF (r:Rect):eP r=some (decide (vR r)):=by
  unfold eP
  simp only [YJ,Option.bind_some]
  by_cases h1:(-1048576≤r.X∧r.X≤1048576)∧0<r.W∧r.X+r.W≤1048576
  · by_cases h2:(-1048576≤r.Y∧r.Y≤1048576)∧0<r.H∧r.Y+r.H≤1048576
    · have:vR r:=by unfold vR;omega
      simp [h1,h2,this]
    · have:¬ vR r:=by unfold vR;omega
      simp only [h1,h2,this,decide_true,decide_false,and_self];rfl
  · have:¬ vR r:=by unfold vR;omega
    simp only [h1,this,decide_false];rfl
def uI (a b:Rect):Prop:=vR a∧vR b∧b.X≤a.X∧a.X+a.W≤b.X+b.W∧b.Y≤a.Y∧a.Y+a.H≤b.Y+b.H
instance (a b:Rect):Decidable (uI a b):=by unfold uI;infer_instance
theorem Td (a b:Rect):xS a b=some (decide (uI a b)):=by
  unfold xS uI
  simp only [tF,Option.bind_some]
  by_cases h1:vR a
  · by_cases h2:vR b
    · have h1':=h1;have h2':=h2
      unfold vR at h1' h2'
      rw [aL (by omega) (by omega),aL (by omega) (by omega),aL (by omega) (by omega),aL (by omega) (by omega)]
      by_cases h3:b.X≤a.X <;> by_cases h4:a.X+a.W≤b.X+b.W <;> by_cases h5:b.Y≤a.Y <;> simp [h1,h2,h3,h4,h5]
    · simp [h1,h2]
  · simp [h1]
theorem XT (n:Int):jR n=some (wb 1048576 n):=by
  unfold jR wb
  by_cases h1 : -1048576≤n <;> simp [h1]
theorem Kv       (r:Rect):bP r=some (decide (vR r)):=by
  unfold bP
  simp only [XT,Option.bind_some]
  by_cases h1:wb 1048576 r.X=true
  · by_cases h2 : wb 1048576 r.Y=true
    · have h1':=Ha.1 h1
      have h2':=Ha.1 h2
      by_cases h3:r.W<1
      · have:¬ vR r:=by unfold vR;omega
        simp [h1,h2,h3,this]
      · by_cases h4:r.H<1
        · have:¬ vR r:=by unfold vR;omega
          simp [h1,h2,h3,h4,this]
        · by_cases h5:r.W>2097152
          · have:¬ vR r:=by unfold vR;omega
            simp [h1,h2,h3,h4,h5,this]
          · by_cases h6:r.H>2097152
            · have:¬ vR r:=by unfold vR;omega
              simp [h1,h2,h3,h4,h5,h6,this]
            · rw [aL (by omega) (by omega),aL (by omega) (by omega)]
              simp only [h1,h2,h3,h4,h5,h6,if_true,decide_false,Bool.false_eq_true,if_false,Option.bind_some]
              by_cases h7:wb 1048576 (r.X+r.W)=true
              · have h7':=Ha.1 h7
                by_cases h8:wb 1048576 (r.Y+r.H)=true
                · have h8':=Ha.1 h8
                  have:vR r:=by unfold vR;omega
                  simp [h7,h8,this]
                · have h8':¬ (-1048576≤r.Y+r.H∧r.Y+r.H≤1048576):=fun q=>h8 (Ha.2 q)
                  have:¬ vR r:=by unfold vR;omega
                  simp [h7,h8,this]
              · have h7':¬ (-1048576≤r.X+r.W∧r.X+r.W≤1048576):=fun q=>h7 (Ha.2 q)
                have:¬ vR r:=by unfold vR;omega
                simp [h7,this]
    · have h2':¬ (-1048576≤r.Y∧r.Y≤1048576):=fun q=>h2 (Ha.2 q)
      have:¬ vR r:=fun q=>h2' q.2.1
      simp [h1,h2,this]
  · have h1':¬ (-1048576≤r.X∧r.X≤1048576):=fun q=>h1 (Ha.2 q)
    have:¬ vR r:=fun q=>h1' q.1
    simp [h1,this]
theorem Tf (a b:Rect):kP a b=some (decide (uI a b)):=by
  unfold kP uI
  simp only [Kv,Option.bind_some]
  by_cases h1:vR a
  · by_cases h2:vR b
    · have h1':=h1;have h2':=h2
      unfold vR at h1' h2'
      rw [aL (by omega) (by omega),aL (by omega) (by omega),aL (by omega) (by omega),aL (by omega) (by omega)]
      by_cases h3:b.X≤a.X <;> by_cases h4:a.X+a.W≤b.X+b.W <;> by_cases h5:b.Y≤a.Y <;> simp [h1,h2,h3,h4,h5]
    · simp [h1,h2]
  · simp [h1]
end Go.SM
namespace Go.SM
open Go Go.VI
theorem jP {S R:Type} (n:Nat) (body:S→Option (S ⊕ R)) (st:Nat→S) (q:Nat→Bool) (no yes:R) {s0:S} (h0:st 0=s0) (step:∀ k:Nat,k<n→body (st k)=if q k then some (.inr yes) else some (.inl (st (k+1)))) (fin:body (st n)=some (.inr no)) :
    aD body s0=some (if (List.range n).any q then yes else no):=by
  have key:∀ (m k:Nat),k+m=n→(∀ j,j<k→q j=false)→aD body (st k)=some (if (List.range n).any q then yes else no):=by
    intro m
    induction m with
    | zero =>
      intro k h hb
      obtain rfl:k=n:=by omega
      have:(List.range k).any q=false:=by
        rw [List.any_eq_false];intro j hj;rw [hb j (List.mem_range.1 hj)];simp
      rw [dD fin,this];rfl
    | succ m ih =>
      intro k h hb
      have hs:=step k (by omega)
      by_cases hq:q k=true
      · rw [if_pos hq] at hs
        have:(List.range n).any q=true:=List.any_eq_true.2 ⟨k,List.mem_range.2 (by omega),hq⟩
        rw [dD hs,this];rfl
      · rw [if_neg hq] at hs
        rw [jJ hs]
        refine ih (k+1) (by omega) fun j hj=>?_
        by_cases hjk:j=k
        · subst hjk;simpa using hq
        · exact hb j (by omega)
  rw [← h0]
  exact key n 0 (by omega) (fun j hj=>absurd hj (by omega))
theorem NV {α:Type} (l:List α) (q:α→Bool) (p:Nat→Bool) (h:∀ k x,l[k]?=some x→p k=q x):(List.range l.length).any p=l.any q:=by
  rw [Bool.eq_iff_iff,List.any_eq_true,List.any_eq_true]
  constructor
  · rintro ⟨k,hk,hp⟩
    have hk':=List.mem_range.1 hk
    have hx:l[k]?=some l[k]:=by simp
    exact ⟨l[k],List.getElem_mem hk',by rw [← h k _ hx];exact hp⟩
  · rintro ⟨x,hx,hq⟩
    obtain ⟨k,hk⟩:=List.mem_iff_getElem?.1 hx
    exact ⟨k,List.mem_range.2 (List.getElem?_eq_some_iff.1 hk).1,by rw [h k _ hk];exact hq⟩
theorem fK {α S R:Type} (l:List α) (body:S→Option (S ⊕ R)) (st:Nat→S) (q:α→Bool) (no yes:R) {s0:S} (h0:st 0=s0) (step:∀ (k:Nat) (x:α),l[k]?=some x→body (st k)=if q x then some (.inr yes) else some (.inl (st (k+1)))) (fin:body (st l.length)=some (.inr no)) :
    aD body s0=some (if l.any q then yes else no):=by
  rw [jP l.length body st (fun k=>match l[k]? with | some x=>q x | none=>false) no yes h0 (fun k hk=>?_) fin]
  · rw [NV l q _ (fun k x h=>by rw [h])]
  · have hx:l[k]?=some l[k]:=by simp
    rw [step k _ hx,hx]
def ovR (a b:Rect):Prop:=vR a∧vR b∧a.X<b.X+b.W∧b.X<a.X+a.W∧a.Y<b.Y+b.H∧b.Y<a.Y+a.H
instance (a b:Rect):Decidable (ovR a b):=by unfold ovR;infer_instance
theorem Xk (a b:Rect):yC a b=some (decide (ovR a b)):=by
  unfold yC ovR
  simp only [tF,Option.bind_some]
  by_cases h1:vR a
  · by_cases h2:vR b
    · have h1':=h1;have h2':=h2
      unfold vR at h1' h2'
      rw [aL (by omega) (by omega),aL (by omega) (by omega),aL (by omega) (by omega),aL (by omega) (by omega)]
      by_cases h3:a.X<b.X+b.W <;> by_cases h4:b.X<a.X+a.W <;> by_cases h5:a.Y<b.Y+b.H <;> simp [h1,h2,h3,h4,h5]
    · simp [h1,h2]
  · simp [h1]
theorem EU (a b:Rect):rF a b=some (decide (ovR a b)):=by
  unfold rF ovR
  simp only [Kv,Option.bind_some]
  by_cases h1:vR a
  · by_cases h2:vR b
    · have h1':=h1;have h2':=h2
      unfold vR at h1' h2'
      rw [aL (by omega) (by omega),aL (by omega) (by omega),aL (by omega) (by omega),aL (by omega) (by omega)]
      by_cases h3:a.X<b.X+b.W <;> by_cases h4:b.X<a.X+a.W <;> by_cases h5:a.Y<b.Y+b.H <;> simp [h1,h2,h3,h4,h5]
    · simp [h1,h2]
  · simp [h1]
def FQ (a b:Rect):Int:=if vR a∧vR b then max 0 (max (max (b.X-(a.X+a.W)) (a.X-(b.X+b.W))) (max (b.Y-(a.Y+a.H)) (a.Y-(b.Y+b.H)))) else 0
theorem Rq (a b:Int):iU a b=max a b:=by unfold iU;split <;> omega
theorem Cc (a b:Int):nG a b=min a b:=by unfold nG;split <;> omega
theorem ES (a b:Rect):Ah a b=some (FQ a b):=by
  unfold Ah FQ
  simp only [tF,Option.bind_some]
  by_cases h1:vR a
  · by_cases h2:vR b
    · have h1':=h1;have h2':=h2
      unfold vR at h1' h2'
      rw [aT (a:=b.X) (by omega) (by omega),aT (a:=a.X) (by omega) (by omega),aT (a:=b.Y) (by omega) (by omega),aT (a:=a.Y) (by omega) (by omega),aT (by omega) (by omega),aT (by omega) (by omega),aT (by omega) (by omega),aT (by omega) (by omega)]
      simp only [h1,h2,Rq,decide_true,and_self,if_true,Bool.not_true,Option.bind_some,Bool.false_eq_true,if_false]
      congr 1
      omega
    · simp [h1,h2]
  · simp [h1]
theorem QV (a b:Rect):uJ a b=some (FQ a b):=by
  unfold uJ FQ
  simp only [Kv,Option.bind_some]
  by_cases h1:vR a
  · by_cases h2:vR b
    · have h1':=h1;have h2':=h2
      unfold vR at h1' h2'
      rw [aT (a:=b.X) (by omega) (by omega),aT (a:=a.X) (by omega) (by omega),aT (a:=b.Y) (by omega) (by omega),aT (a:=a.Y) (by omega) (by omega),aT (by omega) (by omega),aT (by omega) (by omega),aT (by omega) (by omega),aT (by omega) (by omega)]
      simp only [h1,h2,Rq,decide_true,and_self,if_true,Bool.not_true,Option.bind_some,Bool.false_eq_true,if_false]
      congr 1
      omega
    · simp [h1,h2]
  · simp [h1]
end Go.SM
namespace Go.Cells
def YM (f:Nat→Int):Nat→Int
  | 0=>0
  | n+1=>YM f n+f n
def S (a b:Int) (f:Int→Int):Int:=YM (fun k=>f (a+k)) (b-a).toNat
def Gn {β:Type} (g:Int→β):List Int→Prop
  | []=>True
  | [_]=>True
  | x::y::t=>x<y∧(∀ z,x≤z→z<y→g z=g x)∧Gn g (y::t)
def one (b:Bool):Int:=if b then 1 else 0
end Go.Cells
namespace Go.SM
open Go Go.VI Go.Cells
def inC (r:Rect) (x y:Int):Bool:=(decide (r.X≤x)&&decide (x<r.X+r.W))&&(decide (r.Y≤y)&&decide (y<r.Y+r.H))
def cov (l:List Rect) (x y:Int):Bool:=l.any fun r=>inC r x y
def AC (l:List Rect):Prop:=∀ r ∈ l,vR r
theorem XM {r:Rect} {x y:Int}:inC r x y=true↔r.X≤x∧x<r.X+r.W∧r.Y≤y∧y<r.Y+r.H:=by
  unfold inC;simp only [Bool.and_eq_true,decide_eq_true_eq];omega
end Go.SM
namespace Go.Cells
def BC (s:Int→Int) (a b:Int):Prop:=a<b∧s a≠0∧(∀ z,a≤z→z<b→s z=s a)∧s (a-1)≠s a∧s b≠s a
def oZ (s:Int→Int) (l:List (Int×Int)):Prop:=l.Pairwise (fun p q=>p.1<q.1)∧∀ a b,(a,b) ∈ l↔BC s a b
theorem Gz {α:Type} {lt:α→α→Prop} (irr:∀ x,¬ lt x x) (tr:∀ x y z,lt x y→lt y z→lt x z):∀ {l l':List α},l.Pairwise lt→l'.Pairwise lt→(∀ x,x ∈ l↔x ∈ l')→l=l'
  | [],[],_,_,_=>rfl
  | [],y::t,_,_,h=>absurd ((h y).2 List.mem_cons_self) (by simp)
  | x::t,[],_,_,h=>absurd ((h x).1 List.mem_cons_self) (by simp)
  | x::t,y::t',h1,h2,h=>by
    rw [List.pairwise_cons] at h1 h2
    have e:x=y:=by
      rcases List.mem_cons.1 ((h x).1 List.mem_cons_self) with e | m
      · exact e
      · rcases List.mem_cons.1 ((h y).2 List.mem_cons_self) with e | m'
        · exact e.symm
        · exact absurd (tr _ _ _ (h1.1 y m') (h2.1 x m)) (irr x)
    subst e
    congr 1
    refine Gz irr tr h1.2 h2.2 fun z=>?_
    constructor
    · intro m
      rcases List.mem_cons.1 ((h z).1 (List.mem_cons_of_mem _ m)) with e | m'
      · subst e;exact absurd (h1.1 _ m) (irr _)
      · exact m'
    · intro m
      rcases List.mem_cons.1 ((h z).2 (List.mem_cons_of_mem _ m)) with e | m'
      · subst e;exact absurd (h2.1 _ m) (irr _)
      · exact m'
theorem IL {s:Int→Int} {l l':List (Int×Int)} (h:oZ s l) (h':oZ s l'):l=l':=
  Gz (lt:=fun p q=>p.1<q.1) (fun _=>Int.lt_irrefl _) (fun _ _ _=>Int.lt_trans) h.1 h'.1 fun x=>(h.2 x.1 x.2).trans (h'.2 x.1 x.2).symm
def cut (s:Int→Int) (e:Int):Int→Int:=fun z=>if z<e then s z else 0
theorem Jh {s:Int→Int} {e z:Int} (h:z<e):cut s e z=s z:=if_pos h
theorem Yf {s:Int→Int} {e z:Int} (h:e≤z):cut s e z=0:=if_neg (by omega)
theorem tK {s:Int→Int} {e a b:Int}:BC (cut s e) a b↔a<b∧b≤e∧s a≠0∧(∀ z,a≤z→z<b→s z=s a)∧s (a-1)≠s a∧(b=e∨s b≠s a):=by
  unfold BC
  constructor
  · rintro ⟨h1,h2,h3,h4,h5⟩
    have ha:a<e:=by
      rcases Int.lt_or_le a e with q | q
      · exact q
      · exact absurd (Yf q) h2
    have hb:b≤e:=by
      rcases Int.lt_or_le e b with q | q
      · have:=h3 e (by omega) q
        rw [Yf (Int.le_refl e)] at this
        exact absurd this.symm h2
      · exact q
    rw [Jh ha] at h2 h3 h4 h5
    rw [Jh (by omega)] at h4
    refine ⟨h1,hb,h2,fun z p q=>?_,h4, ?_⟩
    · have:=h3 z p q;rwa [Jh (by omega)] at this
    · rcases Int.lt_or_le b e with q | q
      · right;rwa [Jh q] at h5
      · left;omega
  · rintro ⟨h1,hb,h2,h3,h4,h5⟩
    have ha:a<e:=by omega
    rw [Jh ha,Jh (show a-1<e by omega)]
    refine ⟨h1,h2,fun z p q=>?_,h4, ?_⟩
    · rw [Jh (by omega)];exact h3 z p q
    · rcases h5 with rfl | h5
      · rw [Yf (Int.le_refl _)];exact fun q=>h2 q.symm
      · rcases Int.lt_or_le b e with q | q
        · rwa [Jh q]
        · rw [Yf q];exact fun q=>h2 q.symm
theorem Zp {s:Int→Int} {e:Int} (h:∀ z,z<e→s z=0):oZ (cut s e) []:=by
  refine ⟨.nil,fun a b=>⟨fun m=>by simp at m,fun m=>?_⟩⟩
  rw [tK] at m
  exact absurd (h a (by omega)) m.2.2.1
theorem Zo {s:Int→Int} {e:Int} {l:List (Int×Int)} (h:oZ (cut s e) l) (h0:∀ z,e≤z→s z=0):oZ s l:=by
  have:cut s e=s:=funext fun z=>by
    rcases Int.lt_or_le z e with q | q
    · exact Jh q
    · rw [Yf q,h0 z q]
  rwa [this] at h
theorem YG {s:Int→Int} {e:Int} {l:List (Int×Int)} (h:oZ (cut s e) l):∀ p ∈ l,p.1<e∧p.2≤e:=fun p hp=>by
  have:=tK.1 ((h.2 p.1 p.2).1 hp)
  omega
section
variable {s:Int→Int} {e e':Int} {l:List (Int×Int)} (h:oZ (cut s e) l) (he:e<e') (hs:∀ z,e≤z→z<e'→s z=s e)
include h he hs
theorem Uo (h0:s e=0):oZ (cut s e') l:=by
  refine ⟨h.1,fun a b=>(h.2 a b).trans ?_⟩
  rw [tK,tK]
  constructor
  · rintro ⟨h1,hb,h2,h3,h4,h5⟩
    refine ⟨h1,by omega,h2,h3,h4, ?_⟩
    rcases h5 with rfl | h5
    · right;rw [h0];exact fun q=>h2 q.symm
    · exact .inr h5
  · rintro ⟨h1,hb,h2,h3,h4,h5⟩
    have ha:a<e:=by
      rcases Int.lt_or_le a e with q | q
      · exact q
      · have:=hs a q (by omega);rw [h0] at this;exact absurd this h2
    have hbe:b≤e:=by
      rcases Int.lt_or_le e b with q | q
      · have:=h3 e (by omega) q;rw [h0] at this;exact absurd this.symm h2
      · exact q
    refine ⟨h1,hbe,h2,h3,h4, ?_⟩
    rcases h5 with rfl | h5
    · left;omega
    · exact .inr h5
theorem IK (h0:s e≠0) (hd:s (e-1)≠s e):oZ (cut s e') (l++[(e,e')]):=by
  have hl:=YG h
  refine ⟨?_,fun a b=>?_⟩
  · rw [List.pairwise_append]
    refine ⟨h.1,by simp,fun p hp q hq=>?_⟩
    simp at hq
    subst hq
    exact (hl p hp).1
  · rw [List.mem_append,List.mem_singleton,h.2 a b,tK,tK]
    constructor
    · rintro (⟨h1,hb,h2,h3,h4,h5⟩ | q)
      · refine ⟨h1,by omega,h2,h3,h4, ?_⟩
        rcases h5 with rfl | h5
        · right;rw [← h3 (b-1) (by omega) (by omega)];exact fun q=>hd q.symm
        · exact .inr h5
      · injection q with q1 q2
        subst q1 q2
        exact ⟨he,Int.le_refl _,h0,hs,hd,.inl rfl⟩
    · rintro ⟨h1,hb,h2,h3,h4,h5⟩
      rcases Int.lt_or_le a e with q | q
      · left
        have hbe:b≤e:=by
          rcases Int.lt_or_le e b with q' | q'
          · have e1:=h3 e (by omega) q'
            have e2:=h3 (e-1) (by omega) (by omega)
            exact absurd (e2.trans e1.symm) hd
          · exact q'
        refine ⟨h1,hbe,h2,h3,h4, ?_⟩
        rcases h5 with rfl | h5
        · left;omega
        · exact .inr h5
      · right
        have ea:a=e:=by
          rcases Int.lt_or_le e a with q' | q'
          · have e1:=hs a q (by omega)
            have e2:=hs (a-1) (by omega) (by omega)
            exact absurd (e2.trans e1.symm) h4
          · omega
        subst ea
        have eb:b=e':=by
          rcases h5 with q' | q'
          · exact q'
          · rcases Int.lt_or_le b e' with w | w
            · exact absurd (hs b (by omega) w) q'
            · omega
        rw [eb]
theorem CP        {lo:Int} (hlo:∀ z,z<lo→s z=0) (h0:s e≠0) (hd:s (e-1)=s e):∃ l0 a,l=l0++[(a,e)]∧oZ (cut s e') (l0++[(a,e')]):=by
  -- the run that ends at e
  have open_:∃ a,BC (cut s e) a e:=by
    rcases Classical.em (∃ a,BC (cut s e) a e) with q | q
    · exact q
    · exfalso
      have key:∀ n:Nat,∀ z,e-1-n≤z→z<e→s z=s e:=by
        intro n
        induction n with
        | zero => intro z p1 p2;obtain rfl:z = e-1 := by omega
                  exact hd
        | succ n ih =>
          intro z p1 p2
          rcases Int.lt_or_le z (e-1-n) with w | w
          · obtain rfl:z=e-1-n-1:=by omega
            rcases Classical.em (s (e-1-n-1)=s e) with r | r
            · exact r
            · refine absurd ⟨e-1-n, ?_⟩ q
              have ea:=ih (e-1-n) (by omega) (by omega)
              rw [tK]
              exact ⟨by omega,Int.le_refl _,by rw [ea];exact h0,fun z a b=>by rw [ea];exact ih z a b,by rw [ea];exact r,.inl rfl⟩
          · exact ih z w p2
      have hz:=key (e-1-(min (lo-1) (e-1))).toNat (min (lo-1) (e-1)) (by omega) (by omega)
      rw [hlo _ (by omega)] at hz
      exact h0 hz.symm
  obtain ⟨a,ha⟩:=open_
  obtain ⟨a1,_,a2,a3,a4,_⟩:=tK.1 ha
  have sa:∀ z,a≤z→z<e'→s z=s a:=fun z p q=>by
    rcases Int.lt_or_le z e with w | w
    · exact a3 z p w
    · rw [hs z w q,← hd];exact a3 _ (by omega) (by omega)
  obtain ⟨l1,l2,rfl⟩:=List.append_of_mem ((h.2 a e).2 ha)
  have hp:=h.1
  rw [List.pairwise_append,List.pairwise_cons] at hp
  obtain ⟨p1,⟨p2,p3⟩,p4⟩:=hp
  have l2n:l2=[]:=by
    cases l2 with
    | nil=>rfl
    | cons q t =>
      exfalso
      have hq:=p2 q List.mem_cons_self
      have hr:=tK.1 ((h.2 q.1 q.2).1 (by simp))
      obtain ⟨r1,r2,r3,r4,r5,_⟩:=hr
      have hq:a<q.1:=hq
      refine r5 ?_
      rw [sa (q.1-1) (by omega) (by omega),sa q.1 (by omega) (by omega)]
  subst l2n
  refine ⟨l1,a,rfl, ?_,fun x y=>?_⟩
  · rw [List.pairwise_append]
    refine ⟨p1,by simp,fun q hq r hr=>?_⟩
    simp at hr
    subst hr
    exact p4 q hq (a,e) List.mem_cons_self
  · rw [List.mem_append,List.mem_singleton,tK]
    constructor
    · rintro (m | m)
      · have hx:x<a:=p4 (x,y) m (a,e) List.mem_cons_self
        obtain ⟨r1,r2,r3,r4,r5,r6⟩:=tK.1 ((h.2 x y).1 (List.mem_append_left _ m))
        have hy:y≤a:=by
          rcases Int.lt_or_le a y with q | q
          · exact absurd ((r4 (a-1) (by omega) (by omega)).trans (r4 a (by omega) q).symm) a4
          · exact q
        refine ⟨r1,by omega,r3,r4,r5, ?_⟩
        rcases r6 with r6 | r6
        · omega
        · exact .inr r6
      · injection m with m1 m2
        subst m1 m2
        exact ⟨by omega,Int.le_refl _,a2,sa,a4,.inl rfl⟩
    · rintro ⟨r1,r2,r3,r4,r5,r6⟩
      have hxe:x<e:=by
        rcases Int.lt_or_le x e with q | q
        · exact q
        · refine absurd ?_ r5
          rw [sa (x-1) (by omega) (by omega),sa x (by omega) (by omega)]
      rcases Int.lt_or_le y e with q | q
      · left
        have:(x,y) ∈ l1++[(a,e)]:=(h.2 x y).2 (tK.2 ⟨r1,by omega,r3,r4,r5,by
          rcases r6 with r6 | r6
          · omega
          · exact .inr r6⟩)
        rcases List.mem_append.1 this with m | m
        · exact m
        · simp at m;omega
      · right
        have ex:x=a:=by
          rcases Int.lt_or_le x a with w | w
          · exact absurd ((r4 (a-1) (by omega) (by omega)).trans (r4 a (by omega) (by omega)).symm) a4
          · rcases Int.lt_or_le a x with w' | w'
            · refine absurd ?_ r5
              rw [sa (x-1) (by omega) (by omega),sa x (by omega) (by omega)]
            · omega
        subst ex
        have ey:y=e':=by
          rcases r6 with r6 | r6
          · exact r6
          · rcases Int.lt_or_le y e' with w | w
            · exact absurd (sa y (by omega) w) r6
            · omega
        rw [ey]
end
theorem LA {s:Int→Int} {lo hi:Int} (hlo:∀ z,z<lo→s z=0) (hhi:∀ z,hi≤z→s z=0) {x:Int} (hx:s x≠0):∃ a b,BC s a b∧a≤x∧x<b:=by
  have left_:∀ n:Nat,(∃ a,a≤x∧(∀ z,a≤z→z≤x→s z=s x)∧s (a-1)≠s x)∨∀ z,x-n≤z→z≤x→s z=s x:=by
    intro n
    induction n with
    | zero=>right;intro z p q;rw [show z=x from by omega]
    | succ n ih =>
      rcases ih with q | q
      · exact .inl q
      · rcases Classical.em (s (x-n-1)=s x) with r | r
        · right
          intro z p1 p2
          rcases Int.lt_or_le z (x-n) with w | w
          · rw [show z=x-n-1 from by omega];exact r
          · exact q z w p2
        · left;exact ⟨x-n,by omega,fun z a b=>q z a b,r⟩
  have right_:∀ n:Nat,(∃ b,x<b∧(∀ z,x≤z→z<b→s z=s x)∧s b≠s x)∨∀ z,x≤z→z≤x+n→s z=s x:=by
    intro n
    induction n with
    | zero=>right;intro z p q;rw [show z=x from by omega]
    | succ n ih =>
      rcases ih with q | q
      · exact .inl q
      · rcases Classical.em (s (x+n+1)=s x) with r | r
        · right
          intro z p1 p2
          rcases Int.lt_or_le (x+n) z with w | w
          · rw [show z=x+n+1 from by omega];exact r
          · exact q z p1 w
        · left;exact ⟨x+n+1,by omega,fun z a b=>q z a (by omega),r⟩
  obtain ⟨a,a1,a2,a3⟩:∃ a,a≤x∧(∀ z,a≤z→z≤x→s z=s x)∧s (a-1)≠s x:=by
    rcases left_ (x-min (lo-1) x).toNat with q | q
    · exact q
    · have:=q (min (lo-1) x) (by omega) (by omega)
      rw [hlo _ (by omega)] at this
      exact absurd this.symm hx
  obtain ⟨b,b1,b2,b3⟩:∃ b,x<b∧(∀ z,x≤z→z<b→s z=s x)∧s b≠s x:=by
    rcases right_ (max hi x-x).toNat with q | q
    · exact q
    · have:=q (max hi x) (by omega) (by omega)
      rw [hhi _ (by omega)] at this
      exact absurd this.symm hx
  have ha:=a2 a (Int.le_refl a) a1
  refine ⟨a,b,⟨by omega,by rw [ha];exact hx,fun z p q=>?_,by rw [ha];exact a3,by rw [ha];exact b3⟩,a1,b1⟩
  rw [ha]
  rcases Int.lt_or_le z x with w | w
  · exact a2 z p (by omega)
  · exact b2 z w q
end Go.Cells
namespace Go.SM
open Go Go.VI Go.Cells
def xsL (l:List Rect):List Int:=l.flatMap fun r=>[r.X,r.X+r.W]
def ysL (l:List Rect):List Int:=l.flatMap fun r=>[r.Y,r.Y+r.H]
def Bf (g l:List Int):Prop:=g.Pairwise (fun x y=>x<y)∧∀ x,x ∈ g↔x ∈ l
theorem Vi {g g' l:List Int} (h:Bf g l) (h':Bf g' l):g=g':=
  Gz (lt:=fun x y=>x<y) (fun _=>Int.lt_irrefl _) (fun _ _ _=>Int.lt_trans) h.1 h'.1 fun x=>(h.2 x).trans (h'.2 x).symm
theorem Qm (a b:List Rect):xsL (a++b)=xsL a++xsL b:=by simp [xsL]
theorem Qn (a b:List Rect):ysL (a++b)=ysL a++ysL b:=by simp [ysL]
theorem Ta (l:List Rect):(xsL l).length=2*l.length:=by
  induction l with
  | nil=>rfl
  | cons r l ih=>rw [show xsL (r::l)=[r.X,r.X+r.W]++xsL l from rfl,List.length_append,ih];simp;omega
theorem Tc (l:List Rect):(ysL l).length=2*l.length:=by
  induction l with
  | nil=>rfl
  | cons r l ih=>rw [show ysL (r::l)=[r.Y,r.Y+r.H]++ysL l from rfl,List.length_append,ih];simp;omega
theorem EP {r:Rect} (h:vR r):aF r.X r.W=r.X+r.W∧aF r.Y r.H=r.Y+r.H:=by
  unfold vR at h
  exact ⟨aL (by omega) (by omega),aL (by omega) (by omega)⟩
theorem mZ {α:Type} {l:List α} {k:Nat} {x:α} (h:l[k]?=some x):l.take (k+1)=l.take k++[x]:=by rw [List.take_add_one,h];rfl
theorem mP {α:Type} {l:List α} {k:Nat} {x d:α} (h:l[k]?=some x):l.getD k d=x:=by rw [List.getD_eq_getElem?_getD,h];rfl
def ps (g:Int→Int) (xs:List Int) (k:Nat):Int:=YM (fun i=>(xs.getD (i+1) 0-xs.getD i 0)*g (xs.getD i 0)) k
theorem Qq {xs:List Int} (h:xs.Pairwise fun x y=>x<y) {i j:Nat} {x y:Int} (hij:i<j) (hx:xs[i]?=some x) (hy:xs[j]?=some y):x<y:=by
  obtain ⟨a,rfl⟩:=List.getElem?_eq_some_iff.1 hx
  obtain ⟨b,rfl⟩:=List.getElem?_eq_some_iff.1 hy
  exact List.pairwise_iff_getElem.1 h i j a b hij
structure Lines (xs:List Int):Prop where
  asc:xs.Pairwise fun x y=>x<y
  within:∀ x ∈ xs,-1048576≤x∧x≤1048576
  len:xs.length≤1000
theorem Ux {β:Type} {f:Int→β} {C:Int→Prop} (hf:∀ x z,x≤z→(∀ c,C c→(c≤z↔c≤x))→f z=f x):∀ g:List Int,g.Pairwise (fun x y=>x<y)→(∀ c,C c→(∀ x,g.head?=some x→c<x)∨c ∈ g)→Gn f g
  | [],_,_=>trivial
  | [_],_,_=>trivial
  | x::y::t,h,hc=>by
    have hxy:=(List.pairwise_cons.1 h).1 y List.mem_cons_self
    have ht:=(List.pairwise_cons.1 h).2
    refine ⟨hxy,fun z h1 h2=>hf x z h1 fun c hC=>?_,Ux hf (y::t) ht fun c hC=>?_⟩
    · rcases hc c hC with q | q
      · have:=q x rfl;omega
      · rcases List.mem_cons.1 q with rfl | q
        · omega
        · rcases List.mem_cons.1 q with rfl | q
          · omega
          · have:=(List.pairwise_cons.1 ht).1 c q;omega
    · rcases hc c hC with q | q
      · left;intro w hw;simp at hw;subst hw;have:=q x rfl;omega
      · rcases List.mem_cons.1 q with rfl | q
        · left;intro w hw;simp at hw;subst hw;exact hxy
        · exact .inr q
theorem EQ {l:List Rect} {r:Rect} (h:r ∈ l):r.X ∈ xsL l∧r.X+r.W ∈ xsL l:=by
  unfold xsL
  exact ⟨List.mem_flatMap.2 ⟨r,h,by simp⟩,List.mem_flatMap.2 ⟨r,h,by simp⟩⟩
theorem ER {l:List Rect} {r:Rect} (h:r ∈ l):r.Y ∈ ysL l∧r.Y+r.H ∈ ysL l:=by
  unfold ysL
  exact ⟨List.mem_flatMap.2 ⟨r,h,by simp⟩,List.mem_flatMap.2 ⟨r,h,by simp⟩⟩
theorem Xq {α:Type} {l:List α} {f g:α→Bool} (h:∀ x ∈ l,f x=g x):l.any f=l.any g:=by
  induction l with
  | nil=>rfl
  | cons x l ih=>simp only [List.any_cons];rw [h x List.mem_cons_self,ih fun y hy=>h y (List.mem_cons_of_mem _ hy)]
structure Has (xs ys:List Int) (l:List Rect):Prop where
  X:Lines xs
  Y:Lines ys
  x:∀ c ∈ xsL l,c ∈ xs
  y:∀ c ∈ ysL l,c ∈ ys
  v:AC l
section
variable {xs ys:List Int} {l:List Rect} (h:Has xs ys l)
include h
theorem WR {x y:Int} (hc:cov l x y=true):(∃ a ∈ xs,a≤x)∧(∃ a ∈ xs,x<a)∧(∃ a ∈ ys,a≤y)∧(∃ a ∈ ys,y<a):=by
  obtain ⟨r,hr,hb⟩:=List.any_eq_true.1 hc
  rw [XM] at hb
  exact ⟨⟨_,h.x _ (EQ hr).1,hb.1⟩,⟨_,h.x _ (EQ hr).2,hb.2.1⟩,⟨_,h.y _ (ER hr).1,hb.2.2.1⟩,⟨_,h.y _ (ER hr).2,hb.2.2.2⟩⟩
omit h in
theorem ends {x0:Int} {t:List Int} (ha:(x0::t).Pairwise fun x y=>x<y):∀ a ∈ x0::t,x0≤a∧a≤(x0::t).getLast (by simp):=fun a m=>by
  constructor
  · rcases List.mem_cons.1 m with rfl | m
    · exact Int.le_refl _
    · exact Int.le_of_lt ((List.pairwise_cons.1 ha).1 a m)
  · have e:x0::t=(x0::t).dropLast++[(x0::t).getLast (by simp)]:=(List.dropLast_concat_getLast (by simp)).symm
    rw [e,List.pairwise_append] at ha
    rw [e] at m
    rcases List.mem_append.1 m with m | m
    · exact Int.le_of_lt (ha.2.2 a m _ (by simp))
    · simp at m;omega
end
theorem EC {l:List Rect} (hv:AC l):(∀ c ∈ xsL l,-1048576≤c∧c≤1048576)∧∀ c ∈ ysL l,-1048576≤c∧c≤1048576:=by
  constructor
  · intro c hc
    obtain ⟨r,hr,hm⟩:=List.mem_flatMap.1 hc
    have:=hv r hr
    unfold vR at this
    simp at hm
    omega
  · intro c hc
    obtain ⟨r,hr,hm⟩:=List.mem_flatMap.1 hc
    have:=hv r hr
    unfold vR at this
    simp at hm
    omega
theorem CG {α:Type} [BEq α] [LawfulBEq α]:∀ {g l:List α},g.Nodup→(∀ x ∈ g,x ∈ l)→g.length≤l.length
  | [],_,_,_=>by simp
  | x::g,l,hn,h=>by
    rw [List.nodup_cons] at hn
    have:=CG (g:=g) (l:=l.erase x) hn.2 fun y hy=>(List.mem_erase_of_ne (fun e=>hn.1 (by rw [← e];exact hy))).2 (h y (List.mem_cons_of_mem _ hy))
    rw [List.length_erase_of_mem (h x List.mem_cons_self)] at this
    have hp:=List.length_pos_of_mem (h x List.mem_cons_self)
    simp only [List.length_cons];omega
theorem xO {g l:List Int} (hg:g.Pairwise fun x y=>x<y) (h:∀ x ∈ g,x ∈ l):g.length≤l.length:=by
  have hn:g.Nodup:=hg.imp fun q=>by omega
  exact CG hn h
theorem TM {xs ys:List Int} {lines l:List Rect} (hv:AC lines) (hl:lines.length≤400) (hx:Bf xs (xsL lines)) (hy:Bf ys (ysL lines)) (hs:∀ r ∈ l,r ∈ lines):Has xs ys l:=by
  have w:=EC hv
  have lx:=xO hx.1 fun x m=>(hx.2 x).1 m
  have ly:=xO hy.1 fun x m=>(hy.2 x).1 m
  rw [Ta] at lx
  rw [Tc] at ly
  refine ⟨⟨hx.1,fun x m=>w.1 x ((hx.2 x).1 m),by omega⟩,⟨hy.1,fun x m=>w.2 x ((hy.2 x).1 m),by omega⟩,fun c hc=>?_,fun c hc=>?_,fun r hr=>hv r (hs r hr)⟩
  · obtain ⟨r,hr,hm⟩:=List.mem_flatMap.1 hc
    exact (hx.2 c).2 (List.mem_flatMap.2 ⟨r,hs r hr,hm⟩)
  · obtain ⟨r,hr,hm⟩:=List.mem_flatMap.1 hc
    exact (hy.2 c).2 (List.mem_flatMap.2 ⟨r,hs r hr,hm⟩)
end Go.SM
namespace Go.SM
open Go Go.VI Go.Cells
def xR (R:List (List Rect)) (x y:Int):Option Nat:=R.findIdx? fun l=>cov l x y
def Oo (o:Option Nat):Option Int:=o.map fun i=>(i:Int)
def jM (R:List (List Rect)) (x y:Int):Option Int:=Oo (xR R x y)
def KD (R:List (List Rect)) (x y:Int):Int:=match xR R x y with
  | some i=>(i:Int)
  | none=>-1
theorem A9 (R:List (List Rect)) (x y:Int):KD R x y=match jM R x y with | some i=>i | none=>-1:=by
  unfold KD jM Oo
  cases xR R x y <;> rfl
theorem XO {R:List (List Rect)} {x y:Int} {i:Nat} (h:xR R x y=some i):i<R.length:=by
  unfold xR at h
  exact (List.findIdx?_eq_some_iff_getElem.1 h).1
theorem Yy {R:List (List Rect)} {x y x' y':Int} (h:∀ l ∈ R,cov l x y=cov l x' y'):xR R x y=xR R x' y':=by
  unfold xR
  have:∀ R:List (List Rect),(∀ l ∈ R,cov l x y=cov l x' y')→R.findIdx? (fun l=>cov l x y)=R.findIdx? fun l=>cov l x' y':=by
    intro R
    induction R with
    | nil=>intro _;rfl
    | cons l R ih =>
      intro h
      rw [List.findIdx?_cons,List.findIdx?_cons,h l List.mem_cons_self,ih fun k hk=>h k (List.mem_cons_of_mem _ hk)]
  exact this R h
theorem Ud {α R:Type} (l:List α) (body:Int→Option (Int ⊕ R)) (q:α→Bool) (yes:Nat→R) (no:R) (step:∀ (k:Nat) (x:α),l[k]?=some x→body k=if q x then some (.inr (yes k)) else some (.inl ((k+1:Nat):Int))) (fin:body (l.length:Int)=some (.inr no)) :
    aD body 0=some (match l.findIdx? q with | some i=>yes i | none=>no):=by
  have key:∀ (m k:Nat),k+m=l.length→aD body (k:Int)=some (match (l.drop k).findIdx? q with | some i=>yes (k+i) | none=>no):=by
    intro m
    induction m with
    | zero =>
      intro k h;obtain rfl:k=l.length:=by omega
      rw [List.drop_length,dD fin];rfl
    | succ m ih =>
      intro k h
      have hk:k<l.length:=by omega
      have hx:l[k]?=some l[k]:=by simp
      have hs:=step k _ hx
      rw [List.drop_eq_getElem_cons hk,List.findIdx?_cons]
      cases hq:q l[k] with
      | true=>rw [hq] at hs;rw [dD hs];simp
      | false =>
        rw [hq] at hs
        rw [jJ hs,ih (k+1) (by omega)]
        cases (l.drop (k+1)).findIdx? q with
        | none=>rfl
        | some i=>simp;congr 1;omega
  have:=key l.length 0 (by omega)
  simpa using this
structure Lay (R:List (List Rect)) (xs ys:List Int):Prop where
  x:Bf xs (xsL R.flatten)
  y:Bf ys (ysL R.flatten)
  v:AC R.flatten
  n:R.flatten.length≤400
  m:R.length≤900
section
variable {R:List (List Rect)} {xs ys:List Int} (h:Lay R xs ys)
include h
theorem Lay.has {l:List Rect} (hl:l ∈ R):Has xs ys l:=TM h.v h.n h.x h.y fun r hr=>List.mem_flatten.2 ⟨l,hl,hr⟩
theorem Lay.H7:Has xs ys R.flatten:=TM h.v h.n h.x h.y fun r hr=>hr
theorem Lay.X:Lines xs:=h.H7.X
theorem Lay.Y:Lines ys:=h.H7.Y
theorem C8 {x y:Int} {i:Nat} (hc:xR R x y=some i):(∃ a ∈ xs,a≤x)∧(∃ a ∈ xs,x<a)∧(∃ a ∈ ys,a≤y)∧(∃ a ∈ ys,y<a):=by
  unfold xR at hc
  obtain ⟨hi,h1,_⟩:=List.findIdx?_eq_some_iff_getElem.1 hc
  exact WR (h.has (List.getElem_mem hi)) h1
theorem MP:Gn (fun x=>xR R x) xs:=Ux (C:=fun c=>c ∈ xsL R.flatten) (fun x z hxz hC=>funext fun y=>Yy fun l hl=>Xq fun r hr=>by
  have hrm:r ∈ R.flatten:=List.mem_flatten.2 ⟨l,hl,hr⟩
  have h1:=hC _ (EQ hrm).1
  have h2:=hC _ (EQ hrm).2
  show ((decide (r.X≤z)&&decide (z<r.X+r.W))&&_)=((decide (r.X≤x)&&decide (x<r.X+r.W))&&_)
  rw [show decide (r.X≤z)=decide (r.X≤x) from by simp only [h1],show decide (z<r.X+r.W)=decide (x<r.X+r.W) from by
    have:(z<r.X+r.W)=(x<r.X+r.W):=by apply propext;omega
    simp only [this]]) xs h.X.asc fun c hc=>.inr ((h.x.2 c).2 hc)
theorem MQ:Gn (fun y=>fun x=>xR R x y) ys:=Ux (C:=fun c=>c ∈ ysL R.flatten) (fun y z hyz hC=>funext fun x=>Yy fun l hl=>Xq fun r hr=>by
  have hrm:r ∈ R.flatten:=List.mem_flatten.2 ⟨l,hl,hr⟩
  have h1:=hC _ (ER hrm).1
  have h2:=hC _ (ER hrm).2
  show (_&&(decide (r.Y≤z)&&decide (z<r.Y+r.H)))=(_&&(decide (r.Y≤y)&&decide (y<r.Y+r.H)))
  rw [show decide (r.Y≤z)=decide (r.Y≤y) from by simp only [h1],show decide (z<r.Y+r.H)=decide (y<r.Y+r.H) from by
    have:(z<r.Y+r.H)=(y<r.Y+r.H):=by apply propext;omega
    simp only [this]]) ys h.Y.asc fun c hc=>.inr ((h.y.2 c).2 hc)
end
def num:Option Int→Int
  | none=>0
  | some i=>i+1
def cod (a b:Option Int):Int:=if a=b then 0 else num a*1000+num b
theorem EF {a b:Option Int} (ha:∀ i,a=some i→0≤i) (hb:∀ i,b=some i→0≤i) (h:num a=num b):a=b:=by
  cases a with
  | none=>cases b with
    | none=>rfl
    | some j=>have:=hb j rfl;simp only [num] at h;omega
  | some i=>cases b with
    | none=>have:=ha i rfl;simp only [num] at h;omega
    | some j=>simp only [num] at h;rw [show i=j by omega]
def SmO (a:Option Int):Prop:=∀ i,a=some i→0≤i∧i<900
theorem Ug {a:Option Int} (h:SmO a):0≤num a∧num a≤900:=by
  cases a with
  | none=>simp [num]
  | some i=>have:=h i rfl;simp only [num];omega
theorem Xw {a b:Option Int} (ha:SmO a) (hb:SmO b):cod a b=0↔a=b:=by
  unfold cod
  constructor
  · intro h
    split at h
    · assumption
    · have:=Ug ha;have:=Ug hb
      exact EF (fun i e=>(ha i e).1) (fun i e=>(hb i e).1) (by omega)
  · intro h;rw [if_pos h]
theorem WQ {a b a' b':Option Int} (ha:SmO a) (hb:SmO b) (ha':SmO a') (hb':SmO b') (h0:cod a b≠0) (h:cod a b=cod a' b'):a=a'∧b=b':=by
  have h0':cod a' b'≠0:=by rw [← h];exact h0
  unfold cod at h h0 h0'
  split at h
  · rename_i e;rw [if_pos e] at h0;exact absurd rfl h0
  · split at h
    · rename_i e;rw [if_pos e] at h0';exact absurd rfl h0'
    · have:=Ug ha;have:=Ug hb;have:=Ug ha';have:=Ug hb'
      exact ⟨EF (fun i e=>(ha i e).1) (fun i e=>(ha' i e).1) (by omega),EF (fun i e=>(hb i e).1) (fun i e=>(hb' i e).1) (by omega)⟩
theorem xN {R:List (List Rect)} (hm:R.length≤900) (x y:Int):SmO (jM R x y):=fun i h=>by
  unfold jM Oo at h
  cases e:xR R x y with
  | none=>rw [e] at h;cases h
  | some j=>rw [e] at h;have:=XO e;simp at h;omega
def hS (R:List (List Rect)) (y:Int) (z:Int):Int:=cod (jM R z y) (jM R z (y-1))
def vS (R:List (List Rect)) (x:Int) (z:Int):Int:=cod (jM R x z) (jM R (x-1) z)
noncomputable def oG (s:Int→Int):List (Int×Int):=open Classical in if h:∃ L,oZ s L then Classical.choose h else []
theorem Su {s:Int→Int} {L:List (Int×Int)} (h:oZ s L):oG s=L:=by
  unfold oG
  have hx:∃ L,oZ s L:=⟨L,h⟩
  rw [dif_pos hx]
  exact IL (Classical.choose_spec hx) h
theorem Iy {β γ:Type} (f:β→γ) {g:Int→β}:∀ {l:List Int},Gn g l→Gn (fun x=>f (g x)) l
  | [],_=>trivial
  | [_],_=>trivial
  | _::_::_,h=>⟨h.1,fun z a b=>congrArg f (h.2.1 z a b),Iy f h.2.2⟩
theorem zK {β:Type} {f:Int→β}:∀ {xs:List Int},Gn f xs→∀ {k:Nat} {x x':Int},xs[k]?=some x→xs[k+1]?=some x'→x<x'∧∀ z,x≤z→z<x'→f z=f x
  | [],_,k,x,x',h,_=>by simp at h
  | [_],_,k,x,x',_,h=>by simp at h
  | a::b::t,hs,0,x,x',h,h'=>by
    simp at h h'
    subst h h'
    exact ⟨hs.1,hs.2.1⟩
  | a::b::t,hs,k+1,x,x',h,h'=>by
    simp only [List.getElem?_cons_succ] at h h'
    exact zK hs.2.2 h h'
structure Al (A B:Int→Option Int) (xs:List Int):Prop where
  st:Gn (fun z=>(A z,B z)) xs
  len:xs.length≤1000
  sa:∀ z,SmO (A z)
  sb:∀ z,SmO (B z)
  low:∀ x0,xs[0]?=some x0→∀ z,z<x0→A z=none∧B z=none
  high:∀ x1,xs[xs.length-1]?=some x1→∀ z,x1≤z→A z=none∧B z=none
  emp:xs=[]→∀ z,A z=none∧B z=none
theorem BF {g:List Int} {a b:Int} (hg:g.Pairwise fun x y=>x<y) (ha:g[0]?=some a) (hb:b ∈ g):a≤b:=by
  obtain ⟨i,hi⟩:=List.mem_iff_getElem?.1 hb
  rcases Nat.eq_zero_or_pos i with q | q
  · subst q;rw [ha] at hi;injection hi with hi;omega
  · have:=Qq hg q ha hi;omega
theorem FC {g:List Int} {a b:Int} (hg:g.Pairwise fun x y=>x<y) (ha:g[g.length-1]?=some a) (hb:b ∈ g):b≤a:=by
  obtain ⟨i,hi⟩:=List.mem_iff_getElem?.1 hb
  have:=aP hi
  by_cases q:i=g.length-1
  · subst q;rw [ha] at hi;injection hi with hi;omega
  · have:=Qq hg (show i<g.length-1 by omega) hi ha;omega
section
variable {R:List (List Rect)} {xs ys:List Int} (h:Lay R xs ys)
include h
theorem Xb:(∀ x0,xs[0]?=some x0→∀ x y,x<x0→xR R x y=none)∧(∀ x1,xs[xs.length-1]?=some x1→∀ x y,x1≤x→xR R x y=none)∧(xs=[]→∀ x y,xR R x y=none) ∧
    (∀ y0,ys[0]?=some y0→∀ x y,y<y0→xR R x y=none)∧(∀ y1,ys[ys.length-1]?=some y1→∀ x y,y1≤y→xR R x y=none)∧(ys=[]→∀ x y,xR R x y=none):=by
  have no:∀ {x y:Int},(∀ i,xR R x y≠some i)→xR R x y=none:=fun {x y} hn=>by
    cases e:xR R x y with
    | none=>rfl
    | some i=>exact absurd e (hn i)
  refine ⟨fun x0 h0 x y hx=>no fun i e=>?_,fun x0 h0 x y hx=>no fun i e=>?_,fun h0 x y=>no fun i e=>?_,fun x0 h0 x y hx=>no fun i e=>?_,fun x0 h0 x y hx=>no fun i e=>?_,fun h0 x y=>no fun i e=>?_⟩ <;> obtain ⟨⟨a,ha,a1⟩,⟨b,hb,b1⟩,⟨c,hc,c1⟩,⟨d,hd,d1⟩⟩:=C8 h e
  · have:=BF h.X.asc h0 ha;omega
  · have:=FC h.X.asc h0 hb;omega
  · rw [h0] at ha;cases ha
  · have:=BF h.Y.asc h0 hc;omega
  · have:=FC h.Y.asc h0 hd;omega
  · rw [h0] at hc;cases hc
omit h in
theorem uP {x y:Int} (e:xR R x y=none):jM R x y=none:=by unfold jM Oo;rw [e];rfl
theorem G7 (y:Int):Al (fun z=>jM R z y) (fun z=>jM R z (y-1)) xs:=by
  obtain ⟨o1,o2,o3,_⟩:=Xb h
  exact ⟨Iy (fun f:Int→Option Nat=>(Oo (f y),Oo (f (y-1)))) (g:=fun x=>xR R x) (MP h),h.X.len,fun z=>xN h.m _ _,fun z=>xN h.m _ _,
    fun x0 h0 z hz=>⟨uP (o1 x0 h0 z _ hz),uP (o1 x0 h0 z _ hz)⟩,fun x0 h0 z hz=>⟨uP (o2 x0 h0 z _ hz),uP (o2 x0 h0 z _ hz)⟩,fun h0 z=>⟨uP (o3 h0 z _),uP (o3 h0 z _)⟩⟩
theorem G8 (x:Int):Al (fun z=>jM R x z) (fun z=>jM R (x-1) z) ys:=by
  obtain ⟨_,_,_,o1,o2,o3⟩:=Xb h
  exact ⟨Iy (fun f:Int→Option Nat=>(Oo (f x),Oo (f (x-1)))) (g:=fun y=>fun x=>xR R x y) (MQ h),h.Y.len,fun z=>xN h.m _ _,fun z=>xN h.m _ _,
    fun x0 h0 z hz=>⟨uP (o1 x0 h0 _ z hz),uP (o1 x0 h0 _ z hz)⟩,fun x0 h0 z hz=>⟨uP (o2 x0 h0 _ z hz),uP (o2 x0 h0 _ z hz)⟩,fun h0 z=>⟨uP (o3 h0 _ z),uP (o3 h0 _ z)⟩⟩
end
section
variable {A B:Int→Option Int} {xs:List Int} (h:Al A B xs)
include h
theorem Al.s0 (z:Int):cod (A z) (B z)=0↔A z=B z:=Xw (h.sa z) (h.sb z)
theorem Al.inj {z w:Int} (h0:cod (A z) (B z)≠0) (e:cod (A z) (B z)=cod (A w) (B w)):A z=A w∧B z=B w:=WQ (h.sa z) (h.sb z) (h.sa w) (h.sb w) h0 e
theorem Al.lo:∃ lo,∀ z,z<lo→cod (A z) (B z)=0:=by
  have e0:∀ z,A z=none∧B z=none→cod (A z) (B z)=0:=fun z q=>by rw [q.1,q.2];rfl
  cases hx:xs[0]? with
  | none=>exact ⟨0,fun z _=>e0 z (h.emp (by simpa using hx) z)⟩
  | some x0=>exact ⟨x0,fun z hz=>e0 z (h.low x0 hx z hz)⟩
theorem Al.before {k:Nat} {x e:Int} (hx:xs[k]?=some x) (he:xs[k+1]?=some e):A (e-1)=A x∧B (e-1)=B x:=by
  obtain ⟨h1,h2⟩:=zK h.st hx he
  have:=h2 (e-1) (by omega) (by omega)
  injection this with q1 q2
  exact ⟨q1,q2⟩
end
end Go.SM
namespace Go.VI
theorem lX {S R:Type} (μ:S→Nat) (I:S→Prop) (Q:R→Prop) (body:S→Option (S ⊕ R))
    (step:∀ s,I s→(∃ s',body s=some (.inl s')∧I s'∧μ s'<μ s)∨(∃ r,body s=some (.inr r)∧Q r)):∀ s,I s→∃ r,aD body s=some r∧Q r:=by
  have key:∀ (n:Nat) s,μ s<n→I s→∃ r,aD body s=some r∧Q r:=by
    intro n
    induction n with
    | zero=>intro s h;exact absurd h (Nat.not_lt_zero _)
    | succ n ih =>
      intro s h hs
      rcases step s hs with ⟨s',e,hs',hm⟩ | ⟨r,e,hr⟩
      · rw [jJ e];exact ih s' (by omega) hs'
      · exact ⟨r,dD e,hr⟩
  exact fun s hs=>key (μ s+1) s (Nat.lt_succ_self _) hs
section
variable {α:Type} (d:α)
def gz (l:List α) (i:Int):α:=l.getD i.toNat d
theorem iO {l:List α} {i:Int} (h:0≤i) (h2:i<l.length):idx l i=some (gz d l i):=by
  unfold idx gz
  rw [if_pos h,List.getD_eq_getElem?_getD,List.getElem?_eq_getElem (by omega)]
  rfl
theorem TK {l:List α} {i k:Int} (hi:0≤i) (hk:0≤k) (h:i<l.length) (v:α):gz d (l.set i.toNat v) k=if k=i then v else gz d l k:=by
  unfold gz
  rw [List.getD_eq_getElem?_getD,List.getD_eq_getElem?_getD,List.getElem?_set]
  by_cases e:k=i
  · subst e
    rw [if_pos rfl,if_pos (by omega),if_pos rfl];rfl
  · rw [if_neg (by omega),if_neg e]
def sw (l:List α) (i j:Int):List α:=(l.set i.toNat (gz d l j)).set j.toNat (gz d l i)
theorem Zx (l:List α) (i j:Int):(sw d l i j).length=l.length:=by simp [sw]
theorem qF {l:List α} {i j k:Int} (hi:0≤i) (hj:0≤j) (hk:0≤k) (h1:i<l.length) (h2:j<l.length):gz d (sw d l i j) k=if k=j then gz d l i else if k=i then gz d l j else gz d l k:=by
  unfold sw
  rw [TK d hj hk (by rw [List.length_set];exact h2),TK d hi hk h1]
inductive On (a b:Int):List α→List α→Prop
  | refl (l:List α):On a b l l
  | step {l l':List α} (h:On a b l l') (i j:Int) (hi:a≤i) (hi':i<b) (hj:a≤j) (hj':j<b) (ha:0≤a) (hb:b≤l'.length):On a b l (sw d l' i j)
theorem On.len {a b:Int} {l l':List α} (h:On d a b l l'):l'.length=l.length:=by
  induction h with
  | refl=>rfl
  | step h i j _ _ _ _ _ _ ih=>rw [Zx,ih]
theorem On.trans {a b:Int} {l l' l'':List α} (h:On d a b l l') (h':On d a b l' l''):On d a b l l'':=by
  induction h' with
  | refl=>exact h
  | step _ i j hi hi' hj hj' ha hb ih=>exact .step ih i j hi hi' hj hj' ha hb
theorem On.mono {a b a' b':Int} {l l':List α} (h:On d a b l l') (h0:0≤a') (h1:a'≤a) (h2:b≤b') (h3:b'≤l.length):On d a' b' l l':=by
  induction h with
  | refl=>exact .refl _
  | step h i j hi hi' hj hj' ha hb ih=>exact .step ih i j (by omega) (by omega) (by omega) (by omega) h0 (by rw [h.len];exact h3)
theorem On.out {a b:Int} {l l':List α} (h:On d a b l l') {k:Int} (hk:0≤k) (hk':k<a∨b≤k):gz d l' k=gz d l k:=by
  induction h with
  | refl=>rfl
  | step h i j hi hi' hj hj' ha hb ih =>
    rw [qF d (by omega) (by omega) hk (by omega) (by omega),if_neg (by omega),if_neg (by omega),ih]
theorem On.all {a b:Int} {l l':List α} (h:On d a b l l') (Q:α→Prop) (hq:∀ k,a≤k→k<b→Q (gz d l k)):∀ k,a≤k→k<b→Q (gz d l' k):=by
  induction h with
  | refl=>exact hq
  | step h i j hi hi' hj hj' ha hb ih =>
    intro k h1 h2
    rw [qF d (by omega) (by omega) (by omega) (by omega) (by omega)]
    split
    · exact ih i hi hi'
    · split
      · exact ih j hj hj'
      · exact ih k h1 h2
theorem YN {l:List α} {i j:Int} (hi:0≤i) (hj:0≤j) (h1:i<l.length) (h2:j<l.length):(sw d l i j).Perm l:=by
  unfold sw gz
  have e1:l.getD i.toNat d=l[i.toNat]'(by omega):=by rw [List.getD_eq_getElem?_getD,List.getElem?_eq_getElem (by omega)];rfl
  have e2:l.getD j.toNat d=l[j.toNat]'(by omega):=by rw [List.getD_eq_getElem?_getD,List.getElem?_eq_getElem (by omega)];rfl
  rw [e1,e2]
  exact List.set_set_perm (by omega) (by omega)
theorem On.perm {a b:Int} {l l':List α} (h:On d a b l l'):l'.Perm l:=by
  induction h with
  | refl=>exact .refl _
  | step h i j hi hi' hj hj' ha hb ih=>exact (YN d (by omega) (by omega) (by omega) (by omega)).trans ih
def Asc (lt:α→α→Bool) (a b:Int) (l:List α):Prop:=∀ i j,a≤i→i<j→j<b→lt (gz d l j) (gz d l i)=false
structure Vu (lt:α→α→Bool):Prop where
  asymm:∀ x y,lt x y=true→lt y x=false
  neg:∀ x y z,lt x z=true→lt x y=true∨lt y z=true
theorem Vu.le_trans {lt:α→α→Bool} (w:Vu lt) {x y z:α} (h1:lt y x=false) (h2:lt z y=false):lt z x=false:=by
  cases h:lt z x with
  | false=>rfl
  | true=>rcases w.neg z y x h with q | q <;> simp_all
theorem Vu.irrefl {lt:α→α→Bool} (w:Vu lt) (x:α):lt x x=false:=by
  cases h:lt x x with
  | false=>rfl
  | true=>have:=w.asymm x x h;simp_all
end
end Go.VI
namespace Go.SM
open Go Go.VI
abbrev Br (α:Type):Type 1:=∀ (β:Type),α→α→(Bool→Option β)→Option β
def brC {α:Type} (cmp:α→α→Option Int):Br α:=fun _ x y k=>(cmp x y).bind fun r=>k (decide (r<0))
noncomputable def sM:(Int×Int)→Option (Int):=fun j3 =>
  (Me (ByteArray.mk #[0,1,2,2,3,3,3,3,4,4,4,4,4,4,4,4,5,5,5,5,5,5,5,5,5,5,5,5,5,5,5,5,6,6,6,6,6,6,6,6,6,6,6,6,6,6,6,6,6,6,6,6,6,6,6,6,6,6,6,6,6,6,6,6,7,7,7,7,7,7,7,7,7,7,7,7,7,7,7,7,7,7,7,7,7,7,7,7,7,7,7,7,7,7,7,7,7,7,7,7,7,7,7,7,7,7,7,7,7,7,7,7,7,7,7,7,7,7,7,7,7,7,7,7,7,7,7,7,8,8,8,8,8,8,8,8,8,8,8,8,8,8,8,8,8,8,8,8,8,8,8,8,8,8,8,8,8,8,8,8,8,8,8,8,8,8,8,8,8,8,8,8,8,8,8,8,8,8,8,8,8,8,8,8,8,8,8,8,8,8,8,8,8,8,8,8,8,8,8,8,8,8,8,8,8,8,8,8,8,8,8,8,8,8,8,8,8,8,8,8,8,8,8,8,8,8,8,8,8,8,8,8,8,8,8,8,8,8,8,8,8,8,8,8,8,8,8,8,8,8,8,8,8,8,8,8]) (IntKind.wrap .u8 j3.1)).bind fun x5=>some (aF j3.2 (IntKind.wrap .i64 x5))
noncomputable def wF:(Int×Int)→Option (Int):=fun j2 =>
  if (decide (j2.1 ≥ 256)) then (sM ((Int.fdiv j2.1 (2^(min (Int.toNat 8) 64))),(aF j2.2 8))) else (sM (j2.1,j2.2))
noncomputable def yZ:(Int×Int)→Option (Int):=fun j1 =>
  if (decide (j1.1 ≥ 65536)) then (wF ((Int.fdiv j1.1 (2^(min (Int.toNat 16) 64))),(aF j1.2 16))) else (wF (j1.1,j1.2))
noncomputable def Ou (x0:Int):Option (Int):=
  if (decide (x0 ≥ 4294967296)) then (yZ ((Int.fdiv x0 (2^(min (Int.toNat 32) 64))),32)) else (yZ (x0,0))
noncomputable def Gi (x0:Int):Option (Int):=
  (Ou x0).bind fun r2=>some r2
noncomputable def yD (length:Int):Option (Int):=
  (Gi (IntKind.wrap .u64 length)).bind fun r2=>if (decide (0≤r2)) then (some (IntKind.wrap .u64 (1*2^(min (Int.toNat r2) 64)))) else none
noncomputable def Ih (h0_0:Int):Option (Int):=
  some (jI .u64 (jI .u64 (jI .u64 h0_0 (IntKind.wrap .u64 (h0_0*2^(min (Int.toNat 13) 64)))) (Int.fdiv (jI .u64 h0_0 (IntKind.wrap .u64 (h0_0*2^(min (Int.toNat 13) 64)))) (2^(min (Int.toNat 7) 64)))) (IntKind.wrap .u64 ((jI .u64 (jI .u64 h0_0 (IntKind.wrap .u64 (h0_0*2^(min (Int.toNat 13) 64)))) (Int.fdiv (jI .u64 h0_0 (IntKind.wrap .u64 (h0_0*2^(min (Int.toNat 13) 64)))) (2^(min (Int.toNat 7) 64))))*2^(min (Int.toNat 17) 64))))
noncomputable def sG {α:Type} (br:Br α) (a:Int):Int×(List α)→Option (Int×(List α) ⊕ (List α)):=fun s723 =>
  (if (decide (s723.1>a)) then ((idx s723.2 s723.1).bind fun x785=>(idx s723.2 (aH s723.1 1)).bind fun x786=>br _ x785 x786 fun r787=>some r787) else (some false)).bind fun j784=>if j784 then ((idx s723.2 (aH s723.1 1)).bind fun x808=>(idx s723.2 s723.1).bind fun x809=>(idx s723.2 s723.1).bind fun x810=>(idx (List.set s723.2 (Int.toNat s723.1) x808) (aH s723.1 1)).bind fun x811=>some (.inl ((aH s723.1 1),(List.set (List.set s723.2 (Int.toNat s723.1) x808) (Int.toNat (aH s723.1 1)) x809)))) else (some (.inr s723.2))
noncomputable def wM {α:Type} (br:Br α) (a:Int) (b:Int):Int×(List α)→Option (Int×(List α) ⊕ (List α)):=fun s272 =>
  if (decide (s272.1<b)) then ((aD (sG br a) (s272.1,s272.2)).bind fun x812=>some (.inl ((aF s272.1 1),x812))) else (some (.inr s272.2))
noncomputable def zJ {α:Type} (br:Br α) (a:Int) (b:Int) (h0:(List α)):Option ((List α)):=
  (aD (wM br a b) ((aF a 1),h0)).bind fun x813=>some x813
noncomputable def vL {α:Type} (br:Br α) (first:Int) (s53:Int×(List α)):Int→Option (Int×(List α) ⊕ ((List α) ⊕ (List α))):=fun j115 =>
  (idx s53.2 (aF first s53.1)).bind fun x131=>(idx s53.2 (aF first j115)).bind fun x132=>br _ x131 x132 fun r133=>if (!r133) then (some (.inr (.inr s53.2))) else ((idx s53.2 (aF first j115)).bind fun x142=>(idx s53.2 (aF first s53.1)).bind fun x143=>(idx s53.2 (aF first s53.1)).bind fun x144=>(idx (List.set s53.2 (Int.toNat (aF first s53.1)) x142) (aF first j115)).bind fun x145=>some (.inl (j115,(List.set (List.set s53.2 (Int.toNat (aF first s53.1)) x142) (Int.toNat (aF first j115)) x143))))
noncomputable def Ec {α:Type} (br:Br α) (hi:Int) (first:Int):Int×(List α)→Option (Int×(List α) ⊕ ((List α) ⊕ (List α))):=fun s53 =>
  if (decide ((aF (lL 2 s53.1) 1) ≥ hi)) then (some (.inr (.inl s53.2))) else ((if (decide ((aF (aF (lL 2 s53.1) 1) 1)<hi)) then ((idx s53.2 (aF first (aF (lL 2 s53.1) 1))).bind fun x153=>(idx s53.2 (aF (aF first (aF (lL 2 s53.1) 1)) 1)).bind fun x154=>br _ x153 x154 fun r155=>some r155) else (some false)).bind fun j152=>if j152 then (vL br first s53 (aF (aF (lL 2 s53.1) 1) 1)) else (vL br first s53 (aF (lL 2 s53.1) 1)))
noncomputable def Aw {α:Type} (br:Br α) (lo:Int) (hi:Int) (first:Int) (h0:(List α)):Option ((List α)):=
  (aD (Ec br hi first) (lo,h0)).bind fun x156=>match x156 with | .inl j157=>some j157 | .inr j158=>some j158
noncomputable def Ea {α:Type} (br:Br α) (a:Int) (b:Int):Int×(List α)→Option (Int×(List α) ⊕ (List α)):=fun s21 =>
  if (decide (s21.1 ≥ 0)) then ((Aw br s21.1 (aH b a) a s21.2).bind fun r29=>some (.inl ((aH s21.1 1),r29))) else (some (.inr s21.2))
noncomputable def Eb {α:Type} (br:Br α) (a:Int):Int×(List α)→Option (Int×(List α) ⊕ (List α)):=fun s60 =>
  if (decide (s60.1 ≥ 0)) then ((idx s60.2 (aF a s60.1)).bind fun x111=>(idx s60.2 a).bind fun x112=>(idx s60.2 a).bind fun x113=>(idx (List.set s60.2 (Int.toNat a) x111) (aF a s60.1)).bind fun x114=>(Aw br 0 s60.1 a (List.set (List.set s60.2 (Int.toNat a) x111) (Int.toNat (aF a s60.1)) x112)).bind fun r116=>some (.inl ((aH s60.1 1),r116))) else (some (.inr s60.2))
noncomputable def Lh {α:Type} (br:Br α) (a:Int) (b:Int) (h0:(List α)):Option ((List α)):=
  (aD (Ea br a b) ((wN (aH (aH b a) 1) 2),h0)).bind fun x30=>(aD (Eb br a) ((aH (aH b a) 1),x30)).bind fun x117=>some x117
noncomputable def sF {α:Type} (br:Br α) (a:Int) (s34:Int×Int×(List α)):Int→Option (Int×Int×(List α) ⊕ (List α)):=fun j82 =>
  (idx s34.2.2 (aF a j82)).bind fun x91=>(idx s34.2.2 s34.1).bind fun x92=>(idx s34.2.2 s34.1).bind fun x93=>(idx (List.set s34.2.2 (Int.toNat s34.1) x91) (aF a j82)).bind fun x94=>some (.inl ((aF s34.1 1),(jI .u64 (jI .u64 (jI .u64 s34.2.1 (IntKind.wrap .u64 (s34.2.1*2^(min (Int.toNat 13) 64)))) (Int.fdiv (jI .u64 s34.2.1 (IntKind.wrap .u64 (s34.2.1*2^(min (Int.toNat 13) 64)))) (2^(min (Int.toNat 7) 64)))) (IntKind.wrap .u64 ((jI .u64 (jI .u64 s34.2.1 (IntKind.wrap .u64 (s34.2.1*2^(min (Int.toNat 13) 64)))) (Int.fdiv (jI .u64 s34.2.1 (IntKind.wrap .u64 (s34.2.1*2^(min (Int.toNat 13) 64)))) (2^(min (Int.toNat 7) 64))))*2^(min (Int.toNat 17) 64)))),(List.set (List.set s34.2.2 (Int.toNat s34.1) x91) (Int.toNat (aF a j82)) x92)))
noncomputable def wL {α:Type} (br:Br α) (a:Int) (b:Int) (r2:Int):Int×Int×(List α)→Option (Int×Int×(List α) ⊕ (List α)):=fun s34 =>
  if (decide (s34.1≤(aF (aF a (lL (wN (aH b a) 4) 2)) 1))) then ((Ih s34.2.1).bind fun r81=>if (decide ((IntKind.wrap .i64 (Ru .u64 r81 (IntKind.wrap .u64 (r2-1)))) ≥ (aH b a))) then (sF br a s34 (aH (IntKind.wrap .i64 (Ru .u64 r81 (IntKind.wrap .u64 (r2-1)))) (aH b a))) else (sF br a s34 (IntKind.wrap .i64 (Ru .u64 r81 (IntKind.wrap .u64 (r2-1)))))) else (some (.inr s34.2.2))
noncomputable def zI {α:Type} (br:Br α) (a:Int) (b:Int) (h0:(List α)):Option ((List α)):=
  if (decide ((aH b a) ≥ 8)) then ((yD (aH b a)).bind fun r2=>(aD (wL br a b r2) ((aH (aF a (lL (wN (aH b a) 4) 2)) 1),(IntKind.wrap .u64 (aH b a)),h0)).bind fun x95=>some x95) else (some h0)
noncomputable def Ig {α:Type} (br:Br α) (data:(List α)) (a:Int) (b:Int) (h0_0:Int):Option (Int×Int×Int):=
  (idx data b).bind fun x16=>(idx data a).bind fun x17=>br _ x16 x17 fun r18=>if r18 then (some (b,a,(aF h0_0 1))) else (some (a,b,h0_0))
noncomputable def Nu {α:Type} (br:Br α) (data:(List α)) (a:Int) (b:Int) (c:Int) (h0_0:Int):Option (Int×Int):=
  (Ig br data a b h0_0).bind fun r2=>(Ig br data r2.2.1 c r2.2.2).bind fun r4=>(Ig br data r2.1 r4.1 r4.2.2).bind fun r6=>some (r6.2.1,r6.2.2)
noncomputable def pX {α:Type} (br:Br α) (data:(List α)) (a:Int) (h0_0:Int):Option (Int×Int):=
  (Nu br data (aH a 1) a (aF a 1) h0_0).bind fun r2=>some (r2.1,r2.2)
noncomputable def uN {α:Type} (br:Br α):(Int×Int)→Option (Int×Int):=fun j16 =>
  if (j16.2==0) then (some (j16.1,1)) else (if (j16.2==12) then (some (j16.1,2)) else (some (j16.1,0)))
noncomputable def uO {α:Type} (br:Br α) (data:(List α)):(Int×Int×Int×Int)→Option (Int×Int):=fun j23 =>
  (Nu br data j23.1 j23.2.1 j23.2.2.1 j23.2.2.2).bind fun r25=>uN br (r25.1,r25.2)
noncomputable def Dz {α:Type} (br:Br α) (data:(List α)) (a:Int) (b:Int):Option (Int×Int):=
  if (decide ((aH b a) ≥ 8)) then (if (decide ((aH b a) ≥ 50)) then ((pX br data (aF a (lL (wN (aH b a) 4) 1)) 0).bind fun r27=>(pX br data (aF a (lL (wN (aH b a) 4) 2)) r27.2).bind fun r29=>(pX br data (aF a (lL (wN (aH b a) 4) 3)) r29.2).bind fun r31=>uO br data (r27.1,r29.1,r31.1,r31.2)) else (uO br data ((aF a (lL (wN (aH b a) 4) 1)),(aF a (lL (wN (aH b a) 4) 2)),(aF a (lL (wN (aH b a) 4) 3)),0))) else (uN br ((aF a (lL (wN (aH b a) 4) 2)),0))
noncomputable def xQ {α:Type} (br:Br α):Int×Int×(List α)→Option (Int×Int×(List α) ⊕ (List α)):=fun s14 =>
  if (decide (s14.1<s14.2.1)) then ((idx s14.2.2 s14.2.1).bind fun x35=>(idx s14.2.2 s14.1).bind fun x36=>(idx s14.2.2 s14.1).bind fun x37=>(idx (List.set s14.2.2 (Int.toNat s14.1) x35) s14.2.1).bind fun x38=>some (.inl ((aF s14.1 1),(aH s14.2.1 1),(List.set (List.set s14.2.2 (Int.toNat s14.1) x35) (Int.toNat s14.2.1) x36)))) else (some (.inr s14.2.2))
noncomputable def Bh {α:Type} (br:Br α) (a:Int) (b:Int) (h0:(List α)):Option ((List α)):=
  (aD (xQ br) (a,(aH b 1),h0)).bind fun x39=>some x39
noncomputable def nZ {α:Type} (br:Br α) (s5515:Int×Int×(List α)):Int×(List α)→Option (Int×Int×(List α) ⊕ (Bool×(List α) ⊕ (List α))):=fun j7581 =>
  some (.inl (j7581.1,(aF s5515.2.1 1),j7581.2))
noncomputable def kH {α:Type} (br:Br α) (b:Int) (s5515:Int×Int×(List α)):Int→Option (Int ⊕ Int):=fun s7666 =>
  (if (decide (s7666<b)) then ((idx s5515.2.2 s7666).bind fun x7704=>(idx s5515.2.2 (aH s7666 1)).bind fun x7705=>br _ x7704 x7705 fun r7706=>some (!r7706)) else (some false)).bind fun j7703=>if j7703 then (some (.inl (aF s7666 1))) else (some (.inr s7666))
noncomputable def kI {α:Type} (br:Br α) (b:Int):Int×(List α)→Option (Int×(List α) ⊕ (List α)):=fun s7965 =>
  if (decide (s7965.1<b)) then ((idx s7965.2 s7965.1).bind fun x8071=>(idx s7965.2 (aH s7965.1 1)).bind fun x8072=>br _ x8071 x8072 fun r8073=>if (!r8073) then (some (.inr s7965.2)) else ((idx s7965.2 (aH s7965.1 1)).bind fun x8082=>(idx s7965.2 s7965.1).bind fun x8083=>(idx s7965.2 s7965.1).bind fun x8084=>(idx (List.set s7965.2 (Int.toNat s7965.1) x8082) (aH s7965.1 1)).bind fun x8085=>some (.inl ((aF s7965.1 1),(List.set (List.set s7965.2 (Int.toNat s7965.1) x8082) (Int.toNat (aH s7965.1 1)) x8083))))) else (some (.inr s7965.2))
noncomputable def kG {α:Type} (br:Br α) (b:Int) (s5515:Int×Int×(List α)) (x7707:Int):(List α)→Option (Int×Int×(List α) ⊕ (Bool×(List α) ⊕ (List α))):=fun j7903 =>
  if (decide ((aH b x7707) ≥ 2)) then ((aD (kI br b) ((aF x7707 1),j7903)).bind fun x8086=>nZ br s5515 (x7707,x8086)) else (nZ br s5515 (x7707,j7903))
noncomputable def kJ {α:Type} (br:Br α):Int×(List α)→Option (Int×(List α) ⊕ (List α)):=fun s8148 =>
  if (decide (s8148.1 ≥ 1)) then ((idx s8148.2 s8148.1).bind fun x8254=>(idx s8148.2 (aH s8148.1 1)).bind fun x8255=>br _ x8254 x8255 fun r8256=>if (!r8256) then (some (.inr s8148.2)) else ((idx s8148.2 (aH s8148.1 1)).bind fun x8265=>(idx s8148.2 s8148.1).bind fun x8266=>(idx s8148.2 s8148.1).bind fun x8267=>(idx (List.set s8148.2 (Int.toNat s8148.1) x8265) (aH s8148.1 1)).bind fun x8268=>some (.inl ((aH s8148.1 1),(List.set (List.set s8148.2 (Int.toNat s8148.1) x8265) (Int.toNat (aH s8148.1 1)) x8266))))) else (some (.inr s8148.2))
noncomputable def oC {α:Type} (br:Br α) (a:Int) (b:Int):Int×Int×(List α)→Option (Int×Int×(List α) ⊕ (Bool×(List α) ⊕ (List α))):=fun s5515 =>
  if (decide (s5515.2.1<5)) then ((aD (kH br b s5515) s5515.1).bind fun x7707=>if (x7707==b) then (some (.inr (.inl (true,s5515.2.2)))) else (if (decide ((aH b a)<50)) then (some (.inr (.inl (false,s5515.2.2)))) else ((idx s5515.2.2 (aH x7707 1)).bind fun x7716=>(idx s5515.2.2 x7707).bind fun x7717=>(idx s5515.2.2 x7707).bind fun x7718=>(idx (List.set s5515.2.2 (Int.toNat x7707) x7716) (aH x7707 1)).bind fun x7719=>if (decide ((aH x7707 a) ≥ 2)) then ((aD (kJ br) ((aH x7707 1),(List.set (List.set s5515.2.2 (Int.toNat x7707) x7716) (Int.toNat (aH x7707 1)) x7717))).bind fun x8269=>kG br b s5515 x7707 x8269) else (kG br b s5515 x7707 (List.set (List.set s5515.2.2 (Int.toNat x7707) x7716) (Int.toNat (aH x7707 1)) x7717))))) else (some (.inr (.inr s5515.2.2)))
noncomputable def sN {α:Type} (br:Br α) (a:Int) (b:Int) (h0:(List α)):Option (Bool×(List α)):=
  (aD (oC br a b) ((aF a 1),0,h0)).bind fun x8270=>match x8270 with | .inl j8271=>some (j8271.1,j8271.2) | .inr j8272=>some (false,j8272)
noncomputable def pY {α:Type} (br:Br α) (a:Int) (s1073:Int×Int×(List α)):Int→Option (Int ⊕ Int):=fun s1422 =>
  (if (decide (s1422≤s1073.2.1)) then ((idx s1073.2.2 a).bind fun x1460=>(idx s1073.2.2 s1422).bind fun x1461=>br _ x1460 x1461 fun r1462=>some (!r1462)) else (some false)).bind fun j1459=>if j1459 then (some (.inl (aF s1422 1))) else (some (.inr s1422))
noncomputable def qD {α:Type} (br:Br α) (a:Int) (s1073:Int×Int×(List α)) (x1463:Int):Int→Option (Int ⊕ Int):=fun s1548 =>
  (if (decide (x1463≤s1548)) then ((idx s1073.2.2 a).bind fun x1586=>(idx s1073.2.2 s1548).bind fun x1587=>br _ x1586 x1587 fun r1588=>some r1588) else (some false)).bind fun j1585=>if j1585 then (some (.inl (aH s1548 1))) else (some (.inr s1548))
noncomputable def vJ {α:Type} (br:Br α) (a:Int):Int×Int×(List α)→Option (Int×Int×(List α) ⊕ Int×(List α)):=fun s1073 =>
  (aD (pY br a s1073) s1073.1).bind fun x1463=>(aD (qD br a s1073 x1463) s1073.2.1).bind fun x1589=>if (decide (x1463>x1589)) then (some (.inr (x1463,s1073.2.2))) else ((idx s1073.2.2 x1589).bind fun x1598=>(idx s1073.2.2 x1463).bind fun x1599=>(idx s1073.2.2 x1463).bind fun x1600=>(idx (List.set s1073.2.2 (Int.toNat x1463) x1598) x1589).bind fun x1601=>some (.inl ((aF x1463 1),(aH x1589 1),(List.set (List.set s1073.2.2 (Int.toNat x1463) x1598) (Int.toNat x1589) x1599))))
noncomputable def yF {α:Type} (br:Br α) (a:Int) (b:Int) (pivot:Int) (h0:(List α)):Option (Int×(List α)):=
  (idx h0 pivot).bind fun x9=>(idx h0 a).bind fun x10=>(idx h0 a).bind fun x11=>(idx (List.set h0 (Int.toNat a) x9) pivot).bind fun x12=>(aD (vJ br a) ((aF a 1),(aH b 1),(List.set (List.set h0 (Int.toNat a) x9) (Int.toNat pivot) x10))).bind fun x1602=>some (x1602.1,x1602.2)
noncomputable def xI {α:Type} (br:Br α) (a:Int) (b:Int) (pivot:Int) (h0:(List α)) (x9:α) (x10:α):Int→Option (Int ⊕ Int):=fun s97 =>
  (if (decide (s97≤(aH b 1))) then ((idx (List.set (List.set h0 (Int.toNat a) x9) (Int.toNat pivot) x10) s97).bind fun x135=>(idx (List.set (List.set h0 (Int.toNat a) x9) (Int.toNat pivot) x10) a).bind fun x136=>br _ x135 x136 fun r137=>some r137) else (some false)).bind fun j134=>if j134 then (some (.inl (aF s97 1))) else (some (.inr s97))
noncomputable def xJ {α:Type} (br:Br α) (a:Int) (pivot:Int) (h0:(List α)) (x9:α) (x10:α) (x138:Int):Int→Option (Int ⊕ Int):=fun s223 =>
  (if (decide (x138≤s223)) then ((idx (List.set (List.set h0 (Int.toNat a) x9) (Int.toNat pivot) x10) s223).bind fun x261=>(idx (List.set (List.set h0 (Int.toNat a) x9) (Int.toNat pivot) x10) a).bind fun x262=>br _ x261 x262 fun r263=>some (!r263)) else (some false)).bind fun j260=>if j260 then (some (.inl (aH s223 1))) else (some (.inr s223))
noncomputable def xK {α:Type} (br:Br α) (a:Int) (s1361:Int×Int×(List α)):Int→Option (Int ⊕ Int):=fun s1710 =>
  (if (decide (s1710≤s1361.2.1)) then ((idx s1361.2.2 s1710).bind fun x1748=>(idx s1361.2.2 a).bind fun x1749=>br _ x1748 x1749 fun r1750=>some r1750) else (some false)).bind fun j1747=>if j1747 then (some (.inl (aF s1710 1))) else (some (.inr s1710))
noncomputable def xL {α:Type} (br:Br α) (a:Int) (s1361:Int×Int×(List α)) (x1751:Int):Int→Option (Int ⊕ Int):=fun s1836 =>
  (if (decide (x1751≤s1836)) then ((idx s1361.2.2 s1836).bind fun x1874=>(idx s1361.2.2 a).bind fun x1875=>br _ x1874 x1875 fun r1876=>some (!r1876)) else (some false)).bind fun j1873=>if j1873 then (some (.inl (aH s1836 1))) else (some (.inr s1836))
noncomputable def xM {α:Type} (br:Br α) (a:Int):Int×Int×(List α)→Option (Int×Int×(List α) ⊕ Int×(List α)):=fun s1361 =>
  (aD (xK br a s1361) s1361.1).bind fun x1751=>(aD (xL br a s1361 x1751) s1361.2.1).bind fun x1877=>if (decide (x1751>x1877)) then (some (.inr (x1877,s1361.2.2))) else ((idx s1361.2.2 x1877).bind fun x1886=>(idx s1361.2.2 x1751).bind fun x1887=>(idx s1361.2.2 x1751).bind fun x1888=>(idx (List.set s1361.2.2 (Int.toNat x1751) x1886) x1877).bind fun x1889=>some (.inl ((aF x1751 1),(aH x1877 1),(List.set (List.set s1361.2.2 (Int.toNat x1751) x1886) (Int.toNat x1877) x1887))))
noncomputable def Cb {α:Type} (br:Br α) (a:Int) (b:Int) (pivot:Int) (h0:(List α)):Option (Int×Bool×(List α)):=
  (idx h0 pivot).bind fun x9=>(idx h0 a).bind fun x10=>(idx h0 a).bind fun x11=>(idx (List.set h0 (Int.toNat a) x9) pivot).bind fun x12=>(aD (xI br a b pivot h0 x9 x10) (aF a 1)).bind fun x138=>(aD (xJ br a pivot h0 x9 x10 x138) (aH b 1)).bind fun x264=>if (decide (x138>x264)) then ((idx (List.set (List.set h0 (Int.toNat a) x9) (Int.toNat pivot) x10) a).bind fun x285=>(idx (List.set (List.set h0 (Int.toNat a) x9) (Int.toNat pivot) x10) x264).bind fun x286=>(idx (List.set (List.set h0 (Int.toNat a) x9) (Int.toNat pivot) x10) x264).bind fun x287=>(idx (List.set (List.set (List.set h0 (Int.toNat a) x9) (Int.toNat pivot) x10) (Int.toNat x264) x285) a).bind fun x288=>some (x264,true,(List.set (List.set (List.set (List.set h0 (Int.toNat a) x9) (Int.toNat pivot) x10) (Int.toNat x264) x285) (Int.toNat a) x286))) else ((idx (List.set (List.set h0 (Int.toNat a) x9) (Int.toNat pivot) x10) x264).bind fun x297=>(idx (List.set (List.set h0 (Int.toNat a) x9) (Int.toNat pivot) x10) x138).bind fun x298=>(idx (List.set (List.set h0 (Int.toNat a) x9) (Int.toNat pivot) x10) x138).bind fun x299=>(idx (List.set (List.set (List.set h0 (Int.toNat a) x9) (Int.toNat pivot) x10) (Int.toNat x138) x297) x264).bind fun x300=>(aD (xM br a) ((aF x138 1),(aH x264 1),(List.set (List.set (List.set (List.set h0 (Int.toNat a) x9) (Int.toNat pivot) x10) (Int.toNat x138) x297) (Int.toNat x264) x298))).bind fun x1890=>(idx x1890.2 a).bind fun x1899=>(idx x1890.2 x1890.1).bind fun x1900=>(idx x1890.2 x1890.1).bind fun x1901=>(idx (List.set x1890.2 (Int.toNat x1890.1) x1899) a).bind fun x1902=>some (x1890.1,false,(List.set (List.set x1890.2 (Int.toNat x1890.1) x1899) (Int.toNat a) x1900)))
noncomputable def wP {α:Type} (br:Br α) (self:Int→Int→Int→(List α)→Option ((List α))) (s59:Int×Int×Int×Bool×Bool×(List α)) (j127:Int×(List α)) (j132:Int×Int×(List α)):Bool×Bool×(List α)→Option (Int×Int×Int×Bool×Bool×(List α) ⊕ (List α)):=fun j136 =>
  (if (decide (s59.1>0)) then ((idx j136.2.2 (aH s59.1 1)).bind fun x156=>(idx j136.2.2 j132.1).bind fun x157=>br _ x156 x157 fun r158=>some (!r158)) else (some false)).bind fun j155=>if j155 then ((yF br s59.1 s59.2.1 j132.1 j136.2.2).bind fun r160=>some (.inl (r160.1,s59.2.1,j127.1,j136.1,j136.2.1,r160.2))) else ((Cb br s59.1 s59.2.1 j132.1 j136.2.2).bind fun r162=>if (decide ((aH r162.1 s59.1)<(aH s59.2.1 r162.1))) then ((self s59.1 r162.1 j127.1 r162.2.2).bind fun r164=>some (.inl ((aF r162.1 1),s59.2.1,j127.1,(decide ((aH r162.1 s59.1) ≥ (wN (aH s59.2.1 s59.1) 8))),r162.2.1,r164))) else ((self (aF r162.1 1) s59.2.1 j127.1 r162.2.2).bind fun r166=>some (.inl (s59.1,r162.1,j127.1,(decide ((aH s59.2.1 r162.1) ≥ (wN (aH s59.2.1 s59.1) 8))),r162.2.1,r166))))
noncomputable def wQ {α:Type} (br:Br α) (self:Int→Int→Int→(List α)→Option ((List α))) (s59:Int×Int×Int×Bool×Bool×(List α)) (j127:Int×(List α)):Int×Int×(List α)→Option (Int×Int×Int×Bool×Bool×(List α) ⊕ (List α)):=fun j132 =>
  (if s59.2.2.2.1 then (if s59.2.2.2.2.1 then (some (true,true,(j132.2.1==1))) else (some (true,false,false))) else (some (false,s59.2.2.2.2.1,false))).bind fun j167=>if j167.2.2 then ((sN br s59.1 s59.2.1 j132.2.2).bind fun r169=>if r169.1 then (some (.inr r169.2)) else (wP br self s59 j127 j132 (j167.1,j167.2.1,r169.2))) else (wP br self s59 j127 j132 (j167.1,j167.2.1,j132.2.2))
noncomputable def wR {α:Type} (br:Br α) (self:Int→Int→Int→(List α)→Option ((List α))) (s59:Int×Int×Int×Bool×Bool×(List α)):Int×(List α)→Option (Int×Int×Int×Bool×Bool×(List α) ⊕ (List α)):=fun j127 =>
  (Dz br j127.2 s59.1 s59.2.1).bind fun r129=>if (r129.2==2) then ((Bh br s59.1 s59.2.1 j127.2).bind fun r171=>wQ br self s59 j127 ((aH (aH s59.2.1 1) (aH r129.1 s59.1)),1,r171)) else (wQ br self s59 j127 (r129.1,r129.2,j127.2))
noncomputable def Ao {α:Type} (br:Br α) (self:Int→Int→Int→(List α)→Option ((List α))):Int×Int×Int×Bool×Bool×(List α)→Option (Int×Int×Int×Bool×Bool×(List α) ⊕ (List α)):=fun s59 =>
  if (decide ((aH s59.2.1 s59.1)≤12)) then ((zJ br s59.1 s59.2.1 s59.2.2.2.2.2).bind fun r120=>some (.inr r120)) else (if (s59.2.2.1==0) then ((Lh br s59.1 s59.2.1 s59.2.2.2.2.2).bind fun r124=>some (.inr r124)) else (if (!s59.2.2.2.1) then ((zI br s59.1 s59.2.1 s59.2.2.2.2.2).bind fun r173=>wR br self s59 ((aH s59.2.2.1 1),r173)) else (wR br self s59 (s59.2.2.1,s59.2.2.2.2.2))))
noncomputable def uE {α:Type} (br:Br α) (self:Int→Int→Int→(List α)→Option ((List α))) (a:Int) (b:Int) (limit:Int) (h0:(List α)):Option ((List α)):=
  (aD (Ao br self) (a,b,limit,true,true,h0)).bind fun x174=>some x174
noncomputable def qE {α:Type} (br:Br α):Nat→Int→Int→Int→(List α)→Option ((List α))
  | 0=>fun _ _ _ _=>none
  | n+1=>uE br (qE br n)
noncomputable def Yo {α:Type} (br:Br α) (a:Int) (b:Int) (limit:Int) (h0:(List α)):Option ((List α)):=qE br 1000 a b limit h0
noncomputable def Le {α:Type} (br:Br α) (h0:(List α)):Option ((List α)):=
  (Gi (IntKind.wrap .u64 (h0.length:Int))).bind fun r3=>(Yo br 0 (h0.length:Int) r3 h0).bind fun r4=>some r4
end Go.SM
