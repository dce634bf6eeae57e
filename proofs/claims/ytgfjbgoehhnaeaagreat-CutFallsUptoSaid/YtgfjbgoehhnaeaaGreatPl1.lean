/- What the functions compute, part 1. -/
import Derived.Test.YtgfjbgoehhnaeaaGreatVHC3
import Derived.Test.YtgfjbgoehhnaeaaGreatVHC4
import Derived.Lib.IndexMore
set_option linter.unusedVariables false
set_option linter.unusedSimpArgs false
set_option linter.unusedSectionVars false
namespace Go.Cells
def wH (f:Nat→Int):Nat→Int
 | 0=>0
 | n+1=>wH f n+f n
def S (a b:Int) (f:Int→Int):Int:=wH (fun k=>f (a+k)) (b-a).toNat
theorem wJ {f g:Nat→Int}:∀ {n:Nat},(∀ k,k<n→f k=g k)→wH f n=wH g n
 | 0,_=>rfl
 | n+1,h=>by simp only [wH];rw [wJ fun k hk=>h k (by omega),h n (by omega)]
def Ko {β:Type} (g:Int→β):List Int→Prop
 | []=>True
 | [_]=>True
 | x::y::t=>x<y∧(∀ z,x≤z→z<y→g z=g x)∧Ko g (y::t)
def one (b:Bool):Int:=if b then 1 else 0
end Go.Cells
namespace Go.SM
open Go Go.VI
structure Rect where
 X:Int
 Y:Int
 W:Int
 H:Int
def aB (x:Rect):List PV:=[(vI x.X),(vI x.Y),(vI x.W),(vI x.H)]
abbrev aW (l:List Rect):PV:=.sl (List.map aB l)
abbrev kQ (e:Nat) (l:List Rect):HO:=.row e [] (List.map aB l)
structure Sheet where
 Name:ByteArray
 Material:ByteArray
 Gauge:Int
 Grain:Int
 Width:Int
 Height:Int
 Clamps:(List Rect)
 Used:(List Rect)
def pK (x:Sheet):List PV:=[(vS x.Name),(vS x.Material),(vI x.Gauge),(vI x.Grain),(vI x.Width),(vI x.Height),(.sl (List.map aB x.Clamps)),(.sl (List.map aB x.Used))]
structure Piece where
 Name:ByteArray
 Material:ByteArray
 Gauge:Int
 Grain:Int
 Rects:(List Rect)
 Cuts:(List Rect)
 Forms:(List Rect)
def aU (x:Piece):List PV:=[(vS x.Name),(vS x.Material),(vI x.Gauge),(vI x.Grain),(.sl (List.map aB x.Rects)),(.sl (List.map aB x.Cuts)),(.sl (List.map aB x.Forms))]
abbrev cK (l:List Piece):PV:=.sl (List.map aU l)
structure LayoutT where
 Sheet:Sheet
 Pieces:(List Piece)
def aQ (x:LayoutT):List PV:=[(vS x.Sheet.Name),(vS x.Sheet.Material),(vI x.Sheet.Gauge),(vI x.Sheet.Grain),(vI x.Sheet.Width),(vI x.Sheet.Height),(.sl (List.map aB x.Sheet.Clamps)),(.sl (List.map aB x.Sheet.Used)),(.sl (List.map aU x.Pieces))]
structure Segment where
 X1:Int
 Y1:Int
 X2:Int
 Y2:Int
def Aq (x:Segment):List PV:=[(vI x.X1),(vI x.Y1),(vI x.X2),(vI x.Y2)]
structure EdgeT where
 Line:Segment
 A:Int
 B:Int
def bE (x:EdgeT):List PV:=[(vI x.Line.X1),(vI x.Line.Y1),(vI x.Line.X2),(vI x.Line.Y2),(vI x.A),(vI x.B)]
abbrev bD (l:List EdgeT):PV:=.sl (List.map bE l)
abbrev fE (e:Nat) (l:List EdgeT):HO:=.row e [] (List.map bE l)
structure cut_nothing where
structure Spot where
 X:Int
 Y:Int
def R9 (x:Spot):List PV:=[(vI x.X),(vI x.Y)]
structure ItemT where
 Piece:Int
 Hole:Int
 Joints:Int
 Lead:Spot
def bH (x:ItemT):List PV:=[(vI x.Piece),(vI x.Hole),(vI x.Joints),(vI x.Lead.X),(vI x.Lead.Y)]
abbrev Gp (l:List ItemT):PV:=.sl (List.map bH l)
structure cut_State where
 Cut:(List Bool)
 Holes:(List (List Bool))
 Done:(List Bool)
 Joints:(List Int)
 Fallen:(List Bool)
def bI (x:cut_State):List PV:=[(.sl (List.map cB x.Cut)),(.sl (List.map (cS cB) x.Holes)),(.sl (List.map cB x.Done)),(.sl (List.map cI x.Joints)),(.sl (List.map cB x.Fallen))]
structure sheetmetalref06_Line where
 At:Segment
 Low:Int
 High:Int
def aO (x:sheetmetalref06_Line):List PV:=[(vI x.At.X1),(vI x.At.Y1),(vI x.At.X2),(vI x.At.Y2),(vI x.Low),(vI x.High)]
abbrev aZ (e:Nat) (l:List sheetmetalref06_Line):HO:=.row e [] (List.map aO l)
structure sheetmetalref07_State where
 Cut:(List Bool)
 Holes:(List (List Bool))
 Done:(List Bool)
 Joints:(List Int)
 Fallen:(List Bool)
def aD (x:sheetmetalref07_State):List PV:=[(.sl (List.map cB x.Cut)),(.sl (List.map (cS cB) x.Holes)),(.sl (List.map cB x.Done)),(.sl (List.map cI x.Joints)),(.sl (List.map cB x.Fallen))]
abbrev bB (e:Nat) (l:List sheetmetalref07_State):HO:=.row e [] (List.map aD l)
def BH (x:Rect):Prop:=R64 x.X∧R64 x.Y∧R64 x.W∧R64 x.H
def Ov (x:Rect):Prop:=R64 x.X∧R64 x.Y∧R64 x.W∧R64 x.H
def KC (x:Sheet):Prop:=RT x.Name∧RT x.Material∧R64 x.Gauge∧R64 x.Grain∧R64 x.Width∧R64 x.Height∧(RLN 1048576 Ov) x.Clamps∧(RLN 1048576 Ov) x.Used
def BG (x:Piece):Prop:=RT x.Name∧RT x.Material∧R64 x.Gauge∧R64 x.Grain∧(RLN 1048576 Ov) x.Rects∧(RLN 1048576 Ov) x.Cuts∧(RLN 1048576 Ov) x.Forms
def vV (x:LayoutT):Prop:=KC x.Sheet∧(RLN 1048576 BG) x.Pieces
def PZ (x:Spot):Prop:=R64 x.X∧R64 x.Y
def BF (x:ItemT):Prop:=R64 x.Piece∧R64 x.Hole∧R64 x.Joints∧PZ x.Lead
end Go.SM
namespace Go.SM
open Go Go.VI
def strings_Contains (s sub:ByteArray):Option Bool:=if s.size<4294967281 then some (Go.Lib.contains s.data.toList sub.data.toList) else none
noncomputable def tV (s0:ByteArray):Int→Option (Int ⊕ (Unit ⊕ Unit)):=fun s41 =>
 if (decide (s41<(s0.size:Int))) then ((Rn s0 s41).bind fun x52=>(if (decide (x52<97)) then (if (decide (x52<48)) then (some true) else (some (decide (x52>57)))) else (if (decide (x52>122)) then (if (decide (x52<48)) then (some true) else (some (decide (x52>57)))) else (some false))).bind fun j53=>if j53 then (some (.inr (.inl ()))) else (some (.inl (aL s41 1)))) else (some (.inr (.inr (()))))
noncomputable def lQ (s0:ByteArray):Option (Bool):=
 (if (decide ((s0.size:Int)<1)) then (some true) else (if (decide ((s0.size:Int)>8)) then (some true) else ((Rn s0 0).bind fun x9=>if (decide (x9<97)) then (some true) else ((Rn s0 0).bind fun x10=>some (decide (x10>122)))))).bind fun j8=>if j8 then (some false) else ((aK (tV s0) 0).bind fun x54=>match x54 with | .inl j55=>some false | .inr j56=>(Zv (ByteArray.mk #[32]) s0).bind fun s60=>(Zv s60 (ByteArray.mk #[32])).bind fun s61=>(strings_Contains (ByteArray.mk #[32,112,97,114,116,32,109,97,116,101,114,105,97,108,32,98,97,115,101,32,102,108,97,110,103,101,32,104,111,108,101,32,99,117,116,32,102,111,114,109,32,101,97,115,116,32,115,111,117,116,104,32,119,101,115,116,32,110,111,114,116,104,32,117,112,32,100,111,119,110,32,99,108,111,115,101,117,112,32,99,108,111,115,101,100,111,119,110,32,103,114,97,105,110,32,120,32,121,32,116,97,98,108,101,32,97,110,103,108,101,32,109,97,99,104,105,110,101,32,112,117,110,99,104,32,100,105,101,32,102,114,97,109,101,32,103,97,117,103,101,32,112,111,108,121,32,115,116,97,116,105,111,110,115,32]) s61).bind fun r62=>some (!r62))
noncomputable def Dr (n:Int) (lo:Int) (hi:Int):Option (Bool):=
 (if (decide (lo≤n)) then (some (decide (n≤hi))) else (some false)).bind fun j1=>some j1
noncomputable def Ik (gauge:Int) (grain:Int):Option (Bool):=
 ((Dr gauge 1 60).bind fun r4=>if r4 then ((Dr grain 0 2).bind fun r5=>some r5) else (some false)).bind fun j3=>some j3
noncomputable def Ju (n:Int) (most:Int):Option (Bool):=
 (if (decide ((vZ most)≤n)) then (some (decide (n≤most))) else (some false)).bind fun j1=>some j1
noncomputable def vE (x0:Int) (w:Int):Option (Bool):=
 ((Ju x0 1048576).bind fun r3=>if r3 then (if (decide (w>0)) then (if (decide (w≤2097152)) then (some (decide ((aL x0 w)≤1048576))) else (some false)) else (some false)) else (some false)).bind fun j2=>some j2
noncomputable def fT (r0:Rect):Option (Bool):=
 ((vE r0.X r0.W).bind fun r4=>if r4 then ((vE r0.Y r0.H).bind fun r5=>some r5) else (some false)).bind fun j3=>some j3
noncomputable def yX (l:(List Rect)):Int→Option (Int ⊕ (Unit ⊕ Unit)):=fun s39 =>
 if (decide (s39<(l.length:Int))) then ((idx l s39).bind fun x53=>(fT x53).bind fun r55=>if (!r55) then (some (.inr (.inl ()))) else (some (.inl (aL s39 1)))) else (some (.inr (.inr (()))))
noncomputable def yA (l:(List Rect)):Option (Bool):=
 (aK (yX l) 0).bind fun x56=>match x56 with | .inl j57=>some false | .inr j58=>some true
noncomputable def Pm (s0:Sheet) (margin:Int):Option (Rect×Bool):=
 (fT (Rect.mk margin margin (aJ s0.Width (lZ 2 margin)) (aJ s0.Height (lZ 2 margin)))).bind fun r3=>some ((Rect.mk margin margin (aJ s0.Width (lZ 2 margin)) (aJ s0.Height (lZ 2 margin))),r3)
noncomputable def Au (a:Rect) (b:Rect):Option (Bool):=
 ((fT a).bind fun r4=>if r4 then ((fT b).bind fun r5=>if r5 then (if (decide (b.X≤a.X)) then (if (decide ((aL a.X a.W)≤(aL b.X b.W))) then (if (decide (b.Y≤a.Y)) then (some (decide ((aL a.Y a.H)≤(aL b.Y b.H)))) else (some false)) else (some false)) else (some false)) else (some false)) else (some false)).bind fun j3=>some j3
noncomputable def mV (r38:Rect×Bool) (x388:(List Rect)):Int→Option (Int ⊕ (Unit ⊕ Unit)):=fun s398 =>
 if (decide (s398<(x388.length:Int))) then ((idx x388 s398).bind fun x412=>(Au x412 r38.1).bind fun r414=>if (!r414) then (some (.inr (.inl ()))) else (some (.inl (aL s398 1)))) else (some (.inr (.inr (()))))
noncomputable def mW (s0:Sheet) (r38:Rect×Bool):Int→Option (Int ⊕ (Unit ⊕ Unit)):=fun s293 =>
 if (decide (s293<([s0.Clamps,s0.Used].length:Int))) then ((idx [s0.Clamps,s0.Used] s293).bind fun x388=>(aK (mV r38 x388) 0).bind fun x415=>match x415 with | .inl j416=>some (.inr (.inl ())) | .inr j417=>some (.inl (aL s293 1))) else (some (.inr (.inr (()))))
noncomputable def kP (s0:Sheet):Option (Int):=
 ((lQ s0.Name).bind fun r22=>if r22 then ((lQ s0.Material).bind fun r23=>some (!r23)) else (some true)).bind fun j21=>if j21 then (some 2) else (((Ik s0.Gauge s0.Grain).bind fun r28=>if r28 then ((Dr s0.Width 1 1048576).bind fun r29=>if r29 then ((Dr s0.Height 1 1048576).bind fun r30=>some (!r30)) else (some true)) else (some true)).bind fun j27=>if j27 then (some 1) else ((if (decide ((s0.Clamps.length:Int)>4)) then (some true) else (some (decide ((s0.Used.length:Int)>48)))).bind fun j31=>if j31 then (some 4) else (((yA s0.Clamps).bind fun r35=>if r35 then ((yA s0.Used).bind fun r36=>some (!r36)) else (some true)).bind fun j34=>if j34 then (some 1) else ((Pm s0 0).bind fun r38=>(aK (mW s0 r38) 0).bind fun x418=>match x418 with | .inl j419=>some 13 | .inr j420=>some 0))))
noncomputable def Bi (a:Rect) (b:Rect):Option (Bool):=
 ((fT a).bind fun r4=>if r4 then ((fT b).bind fun r5=>if r5 then (if (decide (a.X<(aL b.X b.W))) then (if (decide (b.X<(aL a.X a.W))) then (if (decide (a.Y<(aL b.Y b.H))) then (some (decide (b.Y<(aL a.Y a.H)))) else (some false)) else (some false)) else (some false)) else (some false)) else (some false)).bind fun j3=>some j3
noncomputable def Il (a:Rect) (b:Rect):Option (Bool):=
 (if ((aJ (nO (aL a.X a.W) (aL b.X b.W)) (fF a.X b.X))==0) then (if (decide ((aJ (nO (aL a.Y a.H) (aL b.Y b.H)) (fF a.Y b.Y))>0)) then (some true) else (if ((aJ (nO (aL a.Y a.H) (aL b.Y b.H)) (fF a.Y b.Y))==0) then (some (decide ((aJ (nO (aL a.X a.W) (aL b.X b.W)) (fF a.X b.X))>0))) else (some false))) else (if ((aJ (nO (aL a.Y a.H) (aL b.Y b.H)) (fF a.Y b.Y))==0) then (some (decide ((aJ (nO (aL a.X a.W) (aL b.X b.W)) (fF a.X b.X))>0))) else (some false))).bind fun j1=>some j1
noncomputable def oL (s598:Int×(List Bool)×(List Int)):((List Bool)×(List Int))→Option ((Int×(List Bool)×(List Int)) ⊕ ((List Bool)×(List Int))):=fun j651 =>
 some (.inl ((aL s598.1 1),j651.1,j651.2))
noncomputable def lN (l:(List Rect)) (x561:Int):(Int×(List Bool)×(List Int))→Option ((Int×(List Bool)×(List Int)) ⊕ ((List Bool)×(List Int))):=fun s598 =>
 if (decide (s598.1<(l.length:Int))) then (((idx s598.2.1 s598.1).bind fun x661=>if x661 then (some false) else ((idx l x561).bind fun x662=>(idx l s598.1).bind fun x663=>(Il x662 x663).bind fun r664=>some r664)).bind fun j660=>if j660 then ((idx s598.2.1 s598.1).bind fun x666=>(app s598.2.2 [s598.1]).bind fun l668=>oL s598 ((List.set s598.2.1 (Int.toNat s598.1) true),l668)) else (oL s598 (s598.2.1,s598.2.2))) else (some (.inr (s598.2.1,s598.2.2)))
noncomputable def oM (l:(List Rect)):((List Bool)×(List Int))→Option (((List Bool)×(List Int)) ⊕ (List Bool)):=fun s449 =>
 if (decide ((s449.2.length:Int)>0)) then ((idx s449.2 0).bind fun x561=>if (decide (1≤s449.2.length)) then ((aK (lN l x561) (0,s449.1,(List.drop 1 s449.2))).bind fun x669=>some (.inl (x669.1,x669.2))) else none) else (some (.inr s449.1))
noncomputable def tT (x670:(List Bool)):Int→Option (Int ⊕ (Unit ⊕ Unit)):=fun s693 =>
 if (decide (s693<(x670.length:Int))) then ((idx x670 s693).bind fun x701=>if (!x701) then (some (.inr (.inl ()))) else (some (.inl (aL s693 1)))) else (some (.inr (.inr (()))))
noncomputable def Bt (l:(List Rect)):Option (Bool):=
 (mk (l.length:Int) false).bind fun l2=>(idx l2 0).bind fun x4=>(aK (oM l) ((List.set l2 (Int.toNat 0) true),[0])).bind fun x670=>(aK (tT x670) 0).bind fun x702=>match x702 with | .inl j703=>some false | .inr j704=>some true
noncomputable def vJ (h0:Rect) (l:(List Rect)):Int→Option (Int ⊕ (Unit ⊕ Unit)):=fun s31 =>
 if (decide (s31<(l.length:Int))) then ((idx l s31).bind fun x42=>(if (decide (h0.X>x42.X)) then (if (decide (h0.Y>x42.Y)) then (if (decide ((aL h0.X h0.W)<(aL x42.X x42.W))) then (some (decide ((aL h0.Y h0.H)<(aL x42.Y x42.H)))) else (some false)) else (some false)) else (some false)).bind fun j43=>if j43 then (some (.inr (.inl ()))) else (some (.inl (aL s31 1)))) else (some (.inr (.inr (()))))
noncomputable def yV (h0:Rect) (l:(List Rect)):Option (Bool):=
 (aK (vJ h0 l) 0).bind fun x44=>match x44 with | .inl j45=>some true | .inr j46=>some false
noncomputable def Ee (a:Rect) (b:Rect):Option (Int):=
 ((fT a).bind fun r9=>if r9 then ((fT b).bind fun r10=>some (!r10)) else (some true)).bind fun j8=>if j8 then (some 0) else (some (fF (fF (fF (fF 0 (aJ (aJ b.X a.X) a.W)) (aJ (aJ a.X b.X) b.W)) (aJ (aJ b.Y a.Y) a.H)) (aJ (aJ a.Y b.Y) b.H)))
noncomputable def xX (x0:Piece) (l6:(List Rect)):Int→Option (Int ⊕ (Unit ⊕ Unit)):=fun s69 =>
 if (decide (s69<(l6.length:Int))) then ((idx l6 s69).bind fun x92=>(if (decide (s69<(x0.Cuts.length:Int))) then (if (x92.W==1) then (some true) else (if (x92.H==1) then (some true) else ((yV x92 x0.Rects).bind fun r96=>some (!r96)))) else ((yV x92 x0.Rects).bind fun r97=>some (!r97))).bind fun j95=>if j95 then (some (.inr (.inl ()))) else (some (.inl (aL s69 1)))) else (some (.inr (.inr (()))))
noncomputable def xY (x472:Rect) (l474:(List Rect)):Int→Option (Int ⊕ (Unit ⊕ Unit)):=fun s484 =>
 if (decide (s484<(l474.length:Int))) then ((idx l474 s484).bind fun x498=>(Ee x472 x498).bind fun r500=>if (r500==0) then (some (.inr (.inl ()))) else (some (.inl (aL s484 1)))) else (some (.inr (.inr (()))))
noncomputable def xZ (l6:(List Rect)):Int→Option (Int ⊕ (Unit ⊕ Unit)):=fun s371 =>
 if (decide (s371<(l6.length:Int))) then ((idx l6 s371).bind fun x472=>(slc l6 0 s371).bind fun l474=>(aK (xY x472 l474) 0).bind fun x501=>match x501 with | .inl j502=>some (.inr (.inl ())) | .inr j503=>some (.inl (aL s371 1))) else (some (.inr (.inr (()))))
noncomputable def Rh (x0:Piece):Option (Int):=
 (app [] x0.Cuts).bind fun l5=>(app l5 x0.Forms).bind fun l6=>(aK (xX x0 l6) 0).bind fun x98=>match x98 with | .inl j99=>some 13 | .inr j100=>(aK (xZ l6) 0).bind fun x504=>match x504 with | .inl j505=>some 7 | .inr j506=>some 0
noncomputable def dD (x0:Piece):(Int×Int×Int)→Option ((Int×Int×Int) ⊕ (Int×Int)):=fun s57 =>
 if (decide (s57.2.2<(x0.Rects.length:Int))) then ((idx x0.Rects s57.2.2).bind fun x65=>some (.inl ((nO s57.1 x65.X),(nO s57.2.1 x65.Y),(aL s57.2.2 1)))) else (some (.inr (s57.1,s57.2.1)))
noncomputable def mR (x440:Rect) (l442:(List Rect)):Int→Option (Int ⊕ (Unit ⊕ Unit)):=fun s452 =>
 if (decide (s452<(l442.length:Int))) then ((idx l442 s452).bind fun x466=>(Bi x440 x466).bind fun r468=>if r468 then (some (.inr (.inl ()))) else (some (.inl (aL s452 1)))) else (some (.inr (.inr (()))))
noncomputable def mU (x0:Piece):Int→Option (Int ⊕ (Unit ⊕ Unit)):=fun s339 =>
 if (decide (s339<(x0.Rects.length:Int))) then ((idx x0.Rects s339).bind fun x440=>(slc x0.Rects 0 s339).bind fun l442=>(aK (mR x440 l442) 0).bind fun x469=>match x469 with | .inl j470=>some (.inr (.inl ())) | .inr j471=>some (.inl (aL s339 1))) else (some (.inr (.inr (()))))
noncomputable def fG (x0:Piece):Option (Int):=
 ((lQ x0.Name).bind fun r19=>if r19 then ((lQ x0.Material).bind fun r20=>some (!r20)) else (some true)).bind fun j18=>if j18 then (some 2) else ((Ik x0.Gauge x0.Grain).bind fun r22=>if (!r22) then (some 1) else ((if (decide ((x0.Rects.length:Int)>12)) then (some true) else (if (decide ((x0.Cuts.length:Int)>12)) then (some true) else (some (decide ((x0.Forms.length:Int)>12))))).bind fun j23=>if j23 then (some 4) else ((if ((x0.Rects.length:Int)==0) then (some true) else ((yA x0.Rects).bind fun r28=>if r28 then ((yA x0.Cuts).bind fun r29=>if r29 then ((yA x0.Forms).bind fun r30=>some (!r30)) else (some true)) else (some true))).bind fun j27=>if j27 then (some 1) else ((idx x0.Rects 0).bind fun x35=>(idx x0.Rects 0).bind fun x36=>(aK (dD x0) (x35.X,x36.Y,0)).bind fun x66=>(if (x66.1 != 0) then (some true) else (some (x66.2 != 0))).bind fun j68=>if j68 then (some 1) else ((aK (mU x0) 0).bind fun x472=>match x472 with | .inl j473=>some 7 | .inr j474=>(Bt x0.Rects).bind fun r478=>if (!r478) then (some 6) else ((Rh x0).bind fun r480=>some r480))))))
noncomputable def mE (s:(List Rect)):Option (List Rect):=app [] s
noncomputable def Jm (s107:Int×(List Rect)):(List Rect)→Option (Int×(List Rect) ⊕ (List Rect)):=fun j145 =>
 some (.inl ((aL s107.1 1),j145))
noncomputable def Eo (x1:Int) (y:Int) (r2:(List Rect)):Int×(List Rect)→Option (Int×(List Rect) ⊕ (List Rect)):=fun s107 =>
 if (decide (s107.1<(r2.length:Int))) then ((idx s107.2 s107.1).bind fun x147=>(if (decide (x147.X<(-4194304))) then (some true) else (if (decide (x147.X>4194304)) then (some true) else (if (decide (x147.Y<(-4194304))) then (some true) else (some (decide (x147.Y>4194304)))))).bind fun j151=>if j151 then ((s107.2[Int.toNat s107.1]?).bind fun x153=>Jm s107 (List.set s107.2 (Int.toNat s107.1) (Rect.mk x153.X x153.Y 0 x153.H))) else ((s107.2[Int.toNat s107.1]?).bind fun x156=>(s107.2[Int.toNat s107.1]?).bind fun x157=>Jm s107 (List.set (List.set s107.2 (Int.toNat s107.1) (Rect.mk (aJ x156.X x1) x157.Y x157.W x157.H)) (Int.toNat s107.1) (Rect.mk (((Rect.mk (aJ x156.X x1) x157.Y x157.W x157.H)).X) (aJ (((Rect.mk (aJ x156.X x1) x157.Y x157.W x157.H)).Y) y) (((Rect.mk (aJ x156.X x1) x157.Y x157.W x157.H)).W) (((Rect.mk (aJ x156.X x1) x157.Y x157.W x157.H)).H))))) else (some (.inr s107.2))
noncomputable def Nb (l:(List Rect)) (x1:Int) (y:Int):Option ((List Rect)):=
 (mE l).bind fun r2=>(aK (Eo x1 y r2) (0,r2)).bind fun x158=>some x158
noncomputable def tC (x0:Piece):Int→Option (Int ⊕ (Unit ⊕ Unit)):=fun s39 =>
 if (decide (s39<(x0.Rects.length:Int))) then ((idx x0.Rects s39).bind fun x53=>(fT x53).bind fun r55=>if (!r55) then (some (.inr (.inl ()))) else (some (.inl (aL s39 1)))) else (some (.inr (.inr (()))))
noncomputable def gF (x0:Piece):(Int×Int×Int)→Option ((Int×Int×Int) ⊕ (Int×Int)):=fun s89 =>
 if (decide (s89.2.2<(x0.Rects.length:Int))) then ((idx x0.Rects s89.2.2).bind fun x97=>some (.inl ((nO s89.1 x97.X),(nO s89.2.1 x97.Y),(aL s89.2.2 1)))) else (some (.inr (s89.1,s89.2.1)))
noncomputable def qZ (x0:Piece):Option (Int):=
 (aK (tC x0) 0).bind fun x56=>match x56 with | .inl j57=>some 1 | .inr j58=>if ((x0.Rects.length:Int)==0) then ((fG x0).bind fun r62=>some r62) else ((idx x0.Rects 0).bind fun x67=>(idx x0.Rects 0).bind fun x68=>(aK (gF x0) (x67.X,x68.Y,0)).bind fun x98=>(Nb x0.Rects x98.1 x98.2).bind fun r105=>(Nb x0.Cuts x98.1 x98.2).bind fun r106=>(Nb x0.Forms x98.1 x98.2).bind fun r107=>(fG (Piece.mk x0.Name x0.Material x0.Gauge x0.Grain r105 r106 r107)).bind fun r109=>some r109)
noncomputable def Js (x0:Rect) (a_0:Int) (a_1:Int) (a_2:Int) (a_3:Int):Option (Bool):=
 (Bi (Rect.mk a_0 a_1 a_2 a_3) x0).bind fun r2=>some r2
noncomputable def bC (s0:(List Rect)) (f_0_0:Int) (f_0_1:Int) (f_0_2:Int) (f_0_3:Int):Int→Option (Int ⊕ (Int ⊕ Unit)):=fun s39 =>
 if (decide (s39<(s0.length:Int))) then ((idx s0 s39).bind fun x54=>(Js x54 f_0_0 f_0_1 f_0_2 f_0_3).bind fun r55=>if r55 then (some (.inr (.inl s39))) else (some (.inl (aL s39 1)))) else (some (.inr (.inr (()))))
noncomputable def eT (s0:(List Rect)) (f_0_0:Int) (f_0_1:Int) (f_0_2:Int) (f_0_3:Int):Option (Int):=
 (aK (bC s0 f_0_0 f_0_1 f_0_2 f_0_3) 0).bind fun x56=>match x56 with | .inl j57=>some j57 | .inr j58=>some (-1)
noncomputable def dU (s0:(List Rect)) (f_0_0:Int) (f_0_1:Int) (f_0_2:Int) (f_0_3:Int):Option (Bool):=
 (eT s0 f_0_0 f_0_1 f_0_2 f_0_3).bind fun r2=>some (decide (r2 ≥ 0))
noncomputable def He (r0:Rect) (l:(List Rect)):Option (Bool):=
 (dU l r0.X r0.Y r0.W r0.H).bind fun r2=>some r2
noncomputable def bZ (l:LayoutT):Int→Option (Int ⊕ (Int ⊕ Unit)):=fun s43 =>
 if (decide (s43<(l.Pieces.length:Int))) then ((idx l.Pieces s43).bind fun x57=>(qZ x57).bind fun r59=>if (r59 != 0) then (some (.inr (.inl r59))) else (some (.inl (aL s43 1)))) else (some (.inr (.inr (()))))
noncomputable def wO (l:LayoutT) (x742:Piece):Int→Option (Int ⊕ (Unit ⊕ Unit)):=fun s762 =>
 if (decide (s762<(x742.Rects.length:Int))) then ((idx x742.Rects s762).bind fun x791=>((Au x791 (Rect.mk 0 0 l.Sheet.Width l.Sheet.Height)).bind fun r796=>if r796 then ((He x791 l.Sheet.Clamps).bind fun r797=>if r797 then (some true) else ((He x791 l.Sheet.Used).bind fun r798=>some r798)) else (some true)).bind fun j795=>if j795 then (some (.inr (.inl ()))) else (some (.inl (aL s762 1)))) else (some (.inr (.inr (()))))
noncomputable def wP (l:LayoutT):Int→Option (Int ⊕ (Unit ⊕ Unit)):=fun s557 =>
 if (decide (s557<(l.Pieces.length:Int))) then ((idx l.Pieces s557).bind fun x742=>(aK (wO l x742) 0).bind fun x799=>match x799 with | .inl j800=>some (.inr (.inl ())) | .inr j801=>some (.inl (aL s557 1))) else (some (.inr (.inr (()))))
noncomputable def wQ (x2958:Piece) (x3119:Piece):Int→Option (Int ⊕ (Unit ⊕ Unit)):=fun s3129 =>
 if (decide (s3129<(x2958.Rects.length:Int))) then ((idx x2958.Rects s3129).bind fun x3143=>(He x3143 x3119.Rects).bind fun r3145=>if r3145 then (some (.inr (.inl ()))) else (some (.inl (aL s3129 1)))) else (some (.inr (.inr (()))))
noncomputable def wR (x2958:Piece) (l2960:(List Piece)):Int→Option (Int ⊕ (Unit ⊕ Unit)):=fun s3024 =>
 if (decide (s3024<(l2960.length:Int))) then ((idx l2960 s3024).bind fun x3119=>(aK (wQ x2958 x3119) 0).bind fun x3146=>match x3146 with | .inl j3147=>some (.inr (.inl ())) | .inr j3148=>some (.inl (aL s3024 1))) else (some (.inr (.inr (()))))
noncomputable def wS (l:LayoutT):Int→Option (Int ⊕ (Unit ⊕ Unit)):=fun s2371 =>
 if (decide (s2371<(l.Pieces.length:Int))) then ((idx l.Pieces s2371).bind fun x2958=>(slc l.Pieces 0 s2371).bind fun l2960=>(aK (wR x2958 l2960) 0).bind fun x3149=>match x3149 with | .inl j3150=>some (.inr (.inl ())) | .inr j3151=>some (.inl (aL s2371 1))) else (some (.inr (.inr (()))))
noncomputable def vX (l:LayoutT):Option (Int):=
 (kP l.Sheet).bind fun r4=>if (r4 != 0) then (some r4) else (if (decide ((l.Pieces.length:Int)>8)) then (some 4) else ((aK (bZ l) 0).bind fun x60=>match x60 with | .inl j61=>some j61 | .inr j62=>(aK (wP l) 0).bind fun x802=>match x802 with | .inl j803=>some 13 | .inr j804=>(aK (wS l) 0).bind fun x3152=>match x3152 with | .inl j3153=>some 7 | .inr j3154=>some 0))
noncomputable def wE (n:Int) (lo:Int) (hi:Int):Option (Bool):=
 (if (decide (n ≥ lo)) then (some (decide (n≤hi))) else (some false)).bind fun j1=>some j1
noncomputable def uM:Option (ByteArray):=
 some (ByteArray.mk #[32,112,97,114,116,32,109,97,116,101,114,105,97,108,32,98,97,115,101,32,102,108,97,110,103,101,32,104,111,108,101,32,99,117,116,32,102,111,114,109,32,101,97,115,116,32,115,111,117,116,104,32,119,101,115,116,32,110,111,114,116,104,32,117,112,32,100,111,119,110,32,99,108,111,115,101,117,112,32,99,108,111,115,101,100,111,119,110,32,103,114,97,105,110,32,120,32,121,32,116,97,98,108,101,32,97,110,103,108,101,32,109,97,99,104,105,110,101,32,112,117,110,99,104,32,100,105,101,32,102,114,97,109,101,32,103,97,117,103,101,32,112,111,108,121,32,115,116,97,116,105,111,110,115,32])
noncomputable def jD (text:ByteArray) (s1:ByteArray):Int→Option (Int ⊕ (Unit ⊕ Unit)):=fun s55 =>
 if (decide ((aL (aL s55 (s1.size:Int)) 2)≤(text.size:Int))) then ((ZQ text s55 (aL (aL s55 (s1.size:Int)) 2)).bind fun s77=>(Zv (ByteArray.mk #[32]) s1).bind fun s78=>(Zv s78 (ByteArray.mk #[32])).bind fun s79=>if (s77.toList==s79.toList) then (some (.inr (.inl ()))) else (some (.inl (aL s55 1)))) else (some (.inr (.inr (()))))
noncomputable def pQ (text:ByteArray) (s1:ByteArray):Option (Bool):=
 (aK (jD text s1) 0).bind fun x80=>match x80 with | .inl j81=>some true | .inr j82=>some false
noncomputable def gV (s0:ByteArray):Int→Option (Int ⊕ (Unit ⊕ Unit)):=fun s101 =>
 if (decide (s101<(s0.size:Int))) then (((Rn s0 s101).bind fun x135=>if (decide (x135 ≥ 97)) then ((Rn s0 s101).bind fun x136=>some (decide (x136≤122))) else (some false)).bind fun j134=>(if j134 then (some false) else ((Rn s0 s101).bind fun x140=>if (decide (x140<48)) then (some true) else ((Rn s0 s101).bind fun x141=>some (decide (x141>57))))).bind fun j139=>if j139 then (some (.inr (.inl ()))) else (some (.inl (aL s101 1)))) else (some (.inr (.inr (()))))
noncomputable def eQ (s0:ByteArray):Option (Bool):=
 ((wE (s0.size:Int) 1 8).bind fun r12=>if r12 then ((Rn s0 0).bind fun x13=>if (decide (x13<97)) then (some true) else ((Rn s0 0).bind fun x14=>some (decide (x14>122)))) else (some true)).bind fun j11=>if j11 then (some false) else ((aK (gV s0) 0).bind fun x142=>match x142 with | .inl j143=>some false | .inr j144=>(uM).bind fun r147=>(pQ r147 s0).bind fun r148=>some (!r148))
noncomputable def mY (name:ByteArray) (material:ByteArray) (gauge:Int) (grain:Int):Option (Int):=
 ((eQ name).bind fun r9=>if r9 then ((eQ material).bind fun r10=>some (!r10)) else (some true)).bind fun j8=>if j8 then (some 2) else ((if (decide (gauge<1)) then (some true) else (if (decide (gauge>60)) then (some true) else (if (decide (grain<0)) then (some true) else (some (decide (grain>2)))))).bind fun j12=>if j12 then (some 1) else (some 0))
noncomputable def iZ (n:Int):Option (Bool):=
 (if (decide (n ≥ (-1048576))) then (some (decide (n≤1048576))) else (some false)).bind fun j1=>some j1
noncomputable def bU (r0:Rect):Option (Bool):=
 ((iZ r0.X).bind fun r9=>if r9 then ((iZ r0.Y).bind fun r10=>if r10 then (if (decide (r0.W<1)) then (some true) else (if (decide (r0.H<1)) then (some true) else (if (decide (r0.W>2097152)) then (some true) else (some (decide (r0.H>2097152)))))) else (some true)) else (some true)).bind fun j8=>if j8 then (some false) else (((iZ (aL r0.X r0.W)).bind fun r14=>if r14 then ((iZ (aL r0.Y r0.H)).bind fun r15=>some r15) else (some false)).bind fun j13=>some j13)
noncomputable def jE (l:(List Rect)):Int→Option (Int ⊕ (Unit ⊕ Unit)):=fun s39 =>
 if (decide (s39<(l.length:Int))) then ((idx l s39).bind fun x54=>(bU x54).bind fun r55=>if (!r55) then (some (.inr (.inl ()))) else (some (.inl (aL s39 1)))) else (some (.inr (.inr (()))))
noncomputable def dJ (l:(List Rect)):Option (Bool):=
 (aK (jE l) 0).bind fun x56=>match x56 with | .inl j57=>some false | .inr j58=>some true
noncomputable def jC (a:Rect) (b:Rect):Option (Bool):=
 ((bU a).bind fun r4=>if r4 then ((bU b).bind fun r5=>if r5 then (if (decide (a.X ≥ b.X)) then (if (decide (a.Y ≥ b.Y)) then (if (decide ((aL a.X a.W)≤(aL b.X b.W))) then (some (decide ((aL a.Y a.H)≤(aL b.Y b.H)))) else (some false)) else (some false)) else (some false)) else (some false)) else (some false)).bind fun j3=>some j3
noncomputable def jF (s0:Sheet) (l:(List Rect)):Int→Option (Int ⊕ (Unit ⊕ Unit)):=fun s55 =>
 if (decide (s55<(l.length:Int))) then ((idx l s55).bind fun x78=>(jC x78 (Rect.mk 0 0 s0.Width s0.Height)).bind fun r79=>if (!r79) then (some (.inr (.inl ()))) else (some (.inl (aL s55 1)))) else (some (.inr (.inr (()))))
noncomputable def lT (s0:Sheet) (l:(List Rect)):Option (Bool):=
 (aK (jF s0 l) 0).bind fun x80=>match x80 with | .inl j81=>some false | .inr j82=>some true
noncomputable def jP (s0:Sheet):Option (Int):=
 (mY s0.Name s0.Material s0.Gauge s0.Grain).bind fun r2=>if (r2 != 0) then (some r2) else ((if (decide (s0.Width<1)) then (some true) else (if (decide (s0.Width>1048576)) then (some true) else (if (decide (s0.Height<1)) then (some true) else (some (decide (s0.Height>1048576)))))).bind fun j4=>if j4 then (some 1) else ((if (decide ((s0.Clamps.length:Int)>4)) then (some true) else (some (decide ((s0.Used.length:Int)>48)))).bind fun j6=>if j6 then (some 4) else (((dJ s0.Clamps).bind fun r15=>if r15 then ((dJ s0.Used).bind fun r16=>some (!r16)) else (some true)).bind fun j14=>if j14 then (some 1) else (((lT s0 s0.Clamps).bind fun r25=>if r25 then ((lT s0 s0.Used).bind fun r26=>some (!r26)) else (some true)).bind fun j24=>if j24 then (some 13) else (some 0)))))
noncomputable def nS (s61:Int×(List Rect)) (x84:Rect):(Int×Int)→Option (Int×(List Rect) ⊕ (List Rect)):=fun j86 =>
 (app s61.2 [(Rect.mk j86.1 j86.2 x84.W x84.H)]).bind fun l88=>some (.inl ((aL s61.1 1),l88))
noncomputable def nT (l:(List Rect)) (x1:Int) (y:Int):Int×(List Rect)→Option (Int×(List Rect) ⊕ (List Rect)):=fun s61 =>
 if (decide (s61.1<(l.length:Int))) then ((idx l s61.1).bind fun x84=>(if (decide (x84.X>(-2147483648))) then (if (decide (x84.X<2147483648)) then (if (decide (x84.Y>(-2147483648))) then (some (decide (x84.Y<2147483648))) else (some false)) else (some false)) else (some false)).bind fun j89=>if j89 then (nS s61 x84 ((aL x84.X x1),(aL x84.Y y))) else (nS s61 x84 (x84.X,x84.Y))) else (some (.inr s61.2))
noncomputable def jU (l:(List Rect)) (x1:Int) (y:Int):Option ((List Rect)):=
 (aK (nT l x1 y) (0,[])).bind fun x90=>some x90
noncomputable def yD (x0:Piece) (dx:Int) (dy:Int):Option (Piece):=
 (jU x0.Rects dx dy).bind fun r2=>(jU x0.Cuts dx dy).bind fun r4=>(jU x0.Forms dx dy).bind fun r6=>some (Piece.mk x0.Name x0.Material x0.Gauge x0.Grain r2 r4 r6)
noncomputable def oU (x0:Piece):(Int×Int×Int)→Option ((Int×Int×Int) ⊕ (Int×Int)):=fun s47 =>
 if (decide (s47.2.2<(x0.Rects.length:Int))) then ((idx x0.Rects s47.2.2).bind fun x61=>(idx x0.Rects s47.2.2).bind fun x63=>some (.inl ((nO s47.1 x61.X),(nO s47.2.1 x63.Y),(aL s47.2.2 1)))) else (some (.inr (s47.1,s47.2.1)))
noncomputable def uB (x0:Piece):Option (Piece×Bool×ByteArray×ByteArray×Int×Int×(List Rect)×(List Rect)×(List Rect)):=
 (dJ x0.Rects).bind fun r4=>if (!r4) then (some (x0,false,x0.Name,x0.Material,x0.Gauge,x0.Grain,x0.Rects,x0.Cuts,x0.Forms)) else (if ((x0.Rects.length:Int)==0) then (some (x0,true,x0.Name,x0.Material,x0.Gauge,x0.Grain,x0.Rects,x0.Cuts,x0.Forms)) else ((idx x0.Rects 0).bind fun x9=>(idx x0.Rects 0).bind fun x10=>(aK (oU x0) (x9.X,x10.Y,1)).bind fun x64=>(yD x0 (vZ x64.1) (vZ x64.2)).bind fun r66=>some (r66,true,r66.Name,r66.Material,r66.Gauge,r66.Grain,r66.Rects,r66.Cuts,r66.Forms)))
noncomputable def uO (l:(List Rect)):(Int×Int×Int)→Option ((Int×Int×Int) ⊕ (Int×Int)):=fun s43 =>
 if (decide (s43.2.2<(l.length:Int))) then ((idx l s43.2.2).bind fun x57=>(idx l s43.2.2).bind fun x59=>some (.inl ((nO s43.1 x57.X),(nO s43.2.1 x59.Y),(aL s43.2.2 1)))) else (some (.inr (s43.1,s43.2.1)))
noncomputable def rY (l:(List Rect)):Option (Int×Int):=
 (idx l 0).bind fun x5=>(idx l 0).bind fun x6=>(aK (uO l) (x5.X,x6.Y,1)).bind fun x60=>some (x60.1,x60.2)
noncomputable def nR (a:Rect) (b:Rect):Option (Bool):=
 ((bU a).bind fun r4=>if r4 then ((bU b).bind fun r5=>if r5 then (if (decide (a.X<(aL b.X b.W))) then (if (decide (b.X<(aL a.X a.W))) then (if (decide (a.Y<(aL b.Y b.H))) then (some (decide (b.Y<(aL a.Y a.H)))) else (some false)) else (some false)) else (some false)) else (some false)) else (some false)).bind fun j3=>some j3
noncomputable def jW (r0:Rect) (l:(List Rect)):Int→Option (Int ⊕ (Unit ⊕ Unit)):=fun s55 =>
 if (decide (s55<(l.length:Int))) then ((idx l s55).bind fun x78=>(nR r0 x78).bind fun r79=>if r79 then (some (.inr (.inl ()))) else (some (.inl (aL s55 1)))) else (some (.inr (.inr (()))))
noncomputable def iD (r0:Rect) (l:(List Rect)):Option (Bool):=
 (aK (jW r0 l) 0).bind fun x80=>match x80 with | .inl j81=>some true | .inr j82=>some false
noncomputable def uP (a:Rect) (b:Rect):Option (Bool):=
 (if ((aJ (nO (aL a.X a.W) (aL b.X b.W)) (fF a.X b.X))==0) then (if (decide ((aJ (nO (aL a.Y a.H) (aL b.Y b.H)) (fF a.Y b.Y))>0)) then (some true) else (if ((aJ (nO (aL a.Y a.H) (aL b.Y b.H)) (fF a.Y b.Y))==0) then (some (decide ((aJ (nO (aL a.X a.W) (aL b.X b.W)) (fF a.X b.X))>0))) else (some false))) else (if ((aJ (nO (aL a.Y a.H) (aL b.Y b.H)) (fF a.Y b.Y))==0) then (some (decide ((aJ (nO (aL a.X a.W) (aL b.X b.W)) (fF a.X b.X))>0))) else (some false))).bind fun j1=>some j1
noncomputable def eX (s1438:Int×(List Bool)×(List Int)):((List Bool)×(List Int))→Option ((Int×(List Bool)×(List Int)) ⊕ ((List Bool)×(List Int))):=fun j1500 =>
 some (.inl ((aL s1438.1 1),j1500.1,j1500.2))
noncomputable def dG (l:(List Rect)) (s1017:Int×(List Bool)×(List Int)):(Int×(List Bool)×(List Int))→Option ((Int×(List Bool)×(List Int)) ⊕ ((List Bool)×(List Int))):=fun s1438 =>
 if (decide (s1438.1<(l.length:Int))) then (((idx s1438.2.1 s1438.1).bind fun x1512=>if x1512 then (some false) else ((idx s1438.2.2 s1017.1).bind fun x1513=>(idx l x1513).bind fun x1514=>(idx l s1438.1).bind fun x1515=>(uP x1514 x1515).bind fun r1516=>some r1516)).bind fun j1511=>if j1511 then ((idx s1438.2.1 s1438.1).bind fun x1518=>(app s1438.2.2 [s1438.1]).bind fun l1520=>eX s1438 ((List.set s1438.2.1 (Int.toNat s1438.1) true),l1520)) else (eX s1438 (s1438.2.1,s1438.2.2))) else (some (.inr (s1438.2.1,s1438.2.2)))
noncomputable def eY (l:(List Rect)):(Int×(List Bool)×(List Int))→Option ((Int×(List Bool)×(List Int)) ⊕ (List Int)):=fun s1017 =>
 if (decide (s1017.1<(s1017.2.2.length:Int))) then ((aK (dG l s1017) (0,s1017.2.1,s1017.2.2)).bind fun x1521=>some (.inl ((aL s1017.1 1),x1521.1,x1521.2))) else (some (.inr s1017.2.2))
noncomputable def mH (l:(List Rect)):Option (Bool):=
 (mk (l.length:Int) false).bind fun l2=>(idx l2 0).bind fun x4=>(aK (eY l) (0,(List.set l2 (Int.toNat 0) true),[0])).bind fun x1522=>some ((x1522.length:Int)==(l.length:Int))
noncomputable def kU (r0:Rect) (l:(List Rect)):Int→Option (Int ⊕ (Unit ⊕ Unit)):=fun s159 =>
 if (decide (s159<(l.length:Int))) then (((idx l s159).bind fun x230=>if (decide (r0.X>x230.X)) then ((idx l s159).bind fun x231=>if (decide (r0.Y>x231.Y)) then ((idx l s159).bind fun x232=>(idx l s159).bind fun x233=>if (decide ((aL r0.X r0.W)<(aL x232.X x233.W))) then ((idx l s159).bind fun x234=>(idx l s159).bind fun x235=>some (decide ((aL r0.Y r0.H)<(aL x234.Y x235.H)))) else (some false)) else (some false)) else (some false)).bind fun j229=>if j229 then (some (.inr (.inl ()))) else (some (.inl (aL s159 1)))) else (some (.inr (.inr (()))))
noncomputable def tY (r0:Rect) (l:(List Rect)):Option (Bool):=
 (aK (kU r0 l) 0).bind fun x236=>match x236 with | .inl j237=>some true | .inr j238=>some false
noncomputable def rU (a:Rect) (b:Rect):Option (Int):=
 ((bU a).bind fun r9=>if r9 then ((bU b).bind fun r10=>some (!r10)) else (some true)).bind fun j8=>if j8 then (some 0) else (some (fF (fF (fF 0 (aJ (aJ a.X b.X) b.W)) (aJ (aJ b.X a.X) a.W)) (fF (fF 0 (aJ (aJ a.Y b.Y) b.H)) (aJ (aJ b.Y a.Y) a.H))))
noncomputable def eZ (x0:Piece):Int→Option (Int ⊕ (Unit ⊕ Unit)):=fun s101 =>
 if (decide (s101<(x0.Rects.length:Int))) then ((idx x0.Rects s101).bind fun x135=>(slc x0.Rects 0 s101).bind fun l136=>(iD x135 l136).bind fun r137=>if r137 then (some (.inr (.inl ()))) else (some (.inl (aL s101 1)))) else (some (.inr (.inr (()))))
noncomputable def fA (x0:Piece) (l150:(List Rect)):Int→Option (Int ⊕ (Unit ⊕ Unit)):=fun s261 =>
 if (decide (s261<(l150.length:Int))) then (((idx l150 s261).bind fun x310=>(tY x310 x0.Rects).bind fun r311=>if r311 then (if (decide (s261<(x0.Cuts.length:Int))) then ((idx l150 s261).bind fun x312=>if (x312.W==1) then (some true) else ((idx l150 s261).bind fun x313=>some (x313.H==1))) else (some false)) else (some true)).bind fun j309=>if j309 then (some (.inr (.inl ()))) else (some (.inl (aL s261 1)))) else (some (.inr (.inr (()))))
noncomputable def fB (l150:(List Rect)) (s567:Int):Int→Option (Int ⊕ (Unit ⊕ Unit)):=fun s764 =>
 if (decide (s764<s567)) then ((idx l150 s567).bind fun x798=>(idx l150 s764).bind fun x799=>(rU x798 x799).bind fun r800=>if (r800==0) then (some (.inr (.inl ()))) else (some (.inl (aL s764 1)))) else (some (.inr (.inr (()))))
noncomputable def fC (l150:(List Rect)):Int→Option (Int ⊕ (Unit ⊕ Unit)):=fun s567 =>
 if (decide (s567<(l150.length:Int))) then ((aK (fB l150 s567) 0).bind fun x801=>match x801 with | .inl j802=>some (.inr (.inl ())) | .inr j803=>some (.inl (aL s567 1))) else (some (.inr (.inr (()))))
noncomputable def cO (x0:Piece):Option (Int):=
 (mY x0.Name x0.Material x0.Gauge x0.Grain).bind fun r2=>if (r2 != 0) then (some r2) else ((if (decide ((x0.Rects.length:Int)>12)) then (some true) else (if (decide ((x0.Cuts.length:Int)>12)) then (some true) else (some (decide ((x0.Forms.length:Int)>12))))).bind fun j4=>if j4 then (some 4) else ((if ((x0.Rects.length:Int)==0) then (some true) else ((dJ x0.Rects).bind fun r16=>if r16 then ((dJ x0.Cuts).bind fun r17=>if r17 then ((dJ x0.Forms).bind fun r18=>some (!r18)) else (some true)) else (some true))).bind fun j15=>if j15 then (some 1) else ((rY x0.Rects).bind fun r20=>(if (r20.1 != 0) then (some true) else (some (r20.2 != 0))).bind fun j22=>if j22 then (some 1) else ((aK (eZ x0) 0).bind fun x138=>match x138 with | .inl j139=>some 7 | .inr j140=>(mH x0.Rects).bind fun r144=>if (!r144) then (some 6) else ((app [] x0.Cuts).bind fun l149=>(app l149 x0.Forms).bind fun l150=>(aK (fA x0 l150) 0).bind fun x314=>match x314 with | .inl j315=>some 13 | .inr j316=>(aK (fC l150) 0).bind fun x804=>match x804 with | .inl j805=>some 7 | .inr j806=>some 0)))))
noncomputable def bW (l:LayoutT):Int→Option (Int ⊕ (Int ⊕ Unit)):=fun s57 =>
 if (decide (s57<(l.Pieces.length:Int))) then ((idx l.Pieces s57).bind fun x78=>(uB x78).bind fun r79=>if (!r79.2.1) then (some (.inr (.inl 1))) else ((cO (Piece.mk r79.1.Name r79.1.Material r79.1.Gauge r79.1.Grain r79.1.Rects r79.1.Cuts r79.1.Forms)).bind fun r81=>if (r81 != 0) then (some (.inr (.inl r81))) else (some (.inl (aL s57 1))))) else (some (.inr (.inr (()))))
noncomputable def iH (l:LayoutT) (x1424:Piece):Int→Option (Int ⊕ (Unit ⊕ Unit)):=fun s1464 =>
 if (decide (s1464<(x1424.Rects.length:Int))) then (((idx x1424.Rects s1464).bind fun x1535=>(jC x1535 (Rect.mk 0 0 l.Sheet.Width l.Sheet.Height)).bind fun r1536=>if r1536 then ((idx x1424.Rects s1464).bind fun x1537=>(iD x1537 l.Sheet.Clamps).bind fun r1538=>if r1538 then (some true) else ((idx x1424.Rects s1464).bind fun x1539=>(iD x1539 l.Sheet.Used).bind fun r1540=>some r1540)) else (some true)).bind fun j1534=>if j1534 then (some (.inr (.inl ()))) else (some (.inl (aL s1464 1)))) else (some (.inr (.inr (()))))
noncomputable def iI (l:LayoutT):Int→Option (Int ⊕ (Unit ⊕ Unit)):=fun s1059 =>
 if (decide (s1059<(l.Pieces.length:Int))) then ((idx l.Pieces s1059).bind fun x1424=>(aK (iH l x1424) 0).bind fun x1541=>match x1541 with | .inl j1542=>some (.inr (.inl ())) | .inr j1543=>some (.inl (aL s1059 1))) else (some (.inr (.inr (()))))
noncomputable def iJ (l:LayoutT) (s3717:Int) (s5514:Int):Int→Option (Int ⊕ (Unit ⊕ Unit)):=fun s5811 =>
 (idx l.Pieces s3717).bind fun x5843=>if (decide (s5811<(x5843.Rects.length:Int))) then ((idx l.Pieces s3717).bind fun x5864=>(idx x5864.Rects s5811).bind fun x5865=>(idx l.Pieces s5514).bind fun x5866=>(iD x5865 x5866.Rects).bind fun r5867=>if r5867 then (some (.inr (.inl ()))) else (some (.inl (aL s5811 1)))) else (some (.inr (.inr (()))))
noncomputable def iK (l:LayoutT) (s3717:Int):Int→Option (Int ⊕ (Unit ⊕ Unit)):=fun s5514 =>
 if (decide (s5514<s3717)) then ((aK (iJ l s3717 s5514) 0).bind fun x5868=>match x5868 with | .inl j5869=>some (.inr (.inl ())) | .inr j5870=>some (.inl (aL s5514 1))) else (some (.inr (.inr (()))))
noncomputable def iL (l:LayoutT):Int→Option (Int ⊕ (Unit ⊕ Unit)):=fun s3717 =>
 if (decide (s3717<(l.Pieces.length:Int))) then ((aK (iK l s3717) 0).bind fun x5871=>match x5871 with | .inl j5872=>some (.inr (.inl ())) | .inr j5873=>some (.inl (aL s3717 1))) else (some (.inr (.inr (()))))
noncomputable def dP (l:LayoutT):Option (Int):=
 (jP l.Sheet).bind fun r2=>if (r2 != 0) then (some r2) else (if (decide ((l.Pieces.length:Int)>8)) then (some 4) else ((aK (bW l) 0).bind fun x82=>match x82 with | .inl j83=>some j83 | .inr j84=>(aK (iI l) 0).bind fun x1544=>match x1544 with | .inl j1545=>some 13 | .inr j1546=>(aK (iL l) 0).bind fun x5874=>match x5874 with | .inl j5875=>some 7 | .inr j5876=>some 0))
end Go.SM
namespace Go.SM
open Go Go.VI
end Go.SM
namespace Go.SM
open Go Go.VI
def wb (m n:Int):Bool:=decide (-m≤n)&&decide (n≤m)
theorem Ls {m n:Int}:wb m n=true↔-m≤n∧n≤m:=by unfold wb;simp only [Bool.and_eq_true,decide_eq_true_eq]
theorem VE (n m:Int) (h : -1000000000≤m∧m≤1000000000):Ju n m=some (wb m n):=by
 unfold Ju wb
 rw [IZ (by omega) (by omega)]
 by_cases h1 : -m≤n <;> simp [h1]
def vR (r:Rect):Prop:=(-1048576≤r.X∧r.X≤1048576)∧(-1048576≤r.Y∧r.Y≤1048576)∧0<r.W∧0<r.H∧r.X+r.W≤1048576∧r.Y+r.H≤1048576
instance (r:Rect):Decidable (vR r):=by unfold vR;infer_instance
theorem M4 (x w:Int):vE x w=some (decide ((-1048576≤x∧x≤1048576)∧0<w∧x+w≤1048576)):=by
 unfold vE
 simp only [VE _ 1048576 (by omega),Option.bind_some]
 by_cases h1:wb 1048576 x=true
 ·have h1':=Ls.1 h1
  by_cases h2:0<w
  ·by_cases h3:w≤2097152
   ·rw [aS (by omega) (by omega)]
    simp [h1,h2,h3,h1']
   ·have:¬ x+w≤1048576:=by omega
    simp [h1,h2,h3,this]
  ·simp [h1,h2]
 ·have h1':¬ (-1048576≤x∧x≤1048576):=fun q=>h1 (Ls.2 q)
  simp [h1];intro a b;exact absurd ⟨a,b⟩ h1'
theorem vW (r:Rect):fT r=some (decide (vR r)):=by
 unfold fT
 simp only [M4,Option.bind_some]
 by_cases h1:(-1048576≤r.X∧r.X≤1048576)∧0<r.W∧r.X+r.W≤1048576
 ·by_cases h2:(-1048576≤r.Y∧r.Y≤1048576)∧0<r.H∧r.Y+r.H≤1048576
  ·have:vR r:=by unfold vR;omega
   simp [h1,h2,this]
  ·have:¬ vR r:=by unfold vR;omega
   simp only [h1,h2,this,decide_true,decide_false,and_self];rfl
 ·have:¬ vR r:=by unfold vR;omega
  simp only [h1,this,decide_false];rfl
def wZ (a b:Rect):Prop:=vR a∧vR b∧b.X≤a.X∧a.X+a.W≤b.X+b.W∧b.Y≤a.Y∧a.Y+a.H≤b.Y+b.H
instance (a b:Rect):Decidable (wZ a b):=by unfold wZ;infer_instance
theorem Xj (a b:Rect):Au a b=some (decide (wZ a b)):=by
 unfold Au wZ
 simp only [vW,Option.bind_some]
 by_cases h1:vR a
 ·by_cases h2:vR b
  ·have h1':=h1;have h2':=h2
   unfold vR at h1' h2'
   rw [aS (by omega) (by omega),aS (by omega) (by omega),aS (by omega) (by omega),aS (by omega) (by omega)]
   by_cases h3:b.X≤a.X <;> by_cases h4:a.X+a.W≤b.X+b.W <;> by_cases h5:b.Y≤a.Y <;> simp [h1,h2,h3,h4,h5]
  ·simp [h1,h2]
 ·simp [h1]
theorem I7 (n:Int):iZ n=some (wb 1048576 n):=by
 unfold iZ wb
 by_cases h1 : -1048576≤n <;> simp [h1]
theorem Ql (r:Rect):bU r=some (decide (vR r)):=by
 unfold bU
 simp only [I7,Option.bind_some]
 by_cases h1:wb 1048576 r.X=true
 ·by_cases h2 : wb 1048576 r.Y=true
  ·have h1':=Ls.1 h1
   have h2':=Ls.1 h2
   by_cases h3:r.W<1
   ·have:¬ vR r:=by unfold vR;omega
    simp [h1,h2,h3,this]
   ·by_cases h4:r.H<1
    ·have:¬ vR r:=by unfold vR;omega
     simp [h1,h2,h3,h4,this]
    ·by_cases h5:r.W>2097152
     ·have:¬ vR r:=by unfold vR;omega
      simp [h1,h2,h3,h4,h5,this]
     ·by_cases h6:r.H>2097152
      ·have:¬ vR r:=by unfold vR;omega
       simp [h1,h2,h3,h4,h5,h6,this]
      ·rw [aS (by omega) (by omega),aS (by omega) (by omega)]
       simp only [h1,h2,h3,h4,h5,h6,if_true,decide_false,Bool.false_eq_true,if_false,Option.bind_some]
       by_cases h7:wb 1048576 (r.X+r.W)=true
       ·have h7':=Ls.1 h7
        by_cases h8:wb 1048576 (r.Y+r.H)=true
        ·have h8':=Ls.1 h8
         have:vR r:=by unfold vR;omega
         simp [h7,h8,this]
        ·have h8':¬ (-1048576≤r.Y+r.H∧r.Y+r.H≤1048576):=fun q=>h8 (Ls.2 q)
         have:¬ vR r:=by unfold vR;omega
         simp [h7,h8,this]
       ·have h7':¬ (-1048576≤r.X+r.W∧r.X+r.W≤1048576):=fun q=>h7 (Ls.2 q)
        have:¬ vR r:=by unfold vR;omega
        simp [h7,this]
  ·have h2':¬ (-1048576≤r.Y∧r.Y≤1048576):=fun q=>h2 (Ls.2 q)
   have:¬ vR r:=fun q=>h2' q.2.1
   simp [h1,h2,this]
 ·have h1':¬ (-1048576≤r.X∧r.X≤1048576):=fun q=>h1 (Ls.2 q)
  have:¬ vR r:=fun q=>h1' q.1
  simp [h1,this]
theorem Xk (a b:Rect):jC a b=some (decide (wZ a b)):=by
 unfold jC wZ
 simp only [Ql,Option.bind_some]
 by_cases h1:vR a
 ·by_cases h2:vR b
  ·have h1':=h1;have h2':=h2
   unfold vR at h1' h2'
   rw [aS (by omega) (by omega),aS (by omega) (by omega),aS (by omega) (by omega),aS (by omega) (by omega)]
   by_cases h3:b.X≤a.X <;> by_cases h4:a.X+a.W≤b.X+b.W <;> by_cases h5:b.Y≤a.Y <;> simp [h1,h2,h3,h4,h5]
  ·simp [h1,h2]
 ·simp [h1]
end Go.SM
namespace Go.SM
open Go Go.VI
theorem kS {S R:Type} (n:Nat) (body:S→Option (S ⊕ R)) (st:Nat→S) (q:Nat→Bool) (no yes:R) {s0:S} (h0:st 0=s0) (step:∀ k:Nat,k<n→body (st k)=if q k then some (.inr yes) else some (.inl (st (k+1)))) (fin:body (st n)=some (.inr no)) :
  aK body s0=some (if (List.range n).any q then yes else no):=by
 have key:∀ (m k:Nat),k+m=n→(∀ j,j<k→q j=false)→aK body (st k)=some (if (List.range n).any q then yes else no):=by
  intro m
  induction m with
  | zero =>
    intro k h hb
    obtain rfl:k=n:=by omega
    have:(List.range k).any q=false:=by
     rw [List.any_eq_false];intro j hj;rw [hb j (List.mem_range.1 hj)];simp
    rw [eP fin,this];rfl
  | succ m ih =>
    intro k h hb
    have hs:=step k (by omega)
    by_cases hq:q k=true
    ·rw [if_pos hq] at hs
     have:(List.range n).any q=true:=List.any_eq_true.2 ⟨k,List.mem_range.2 (by omega),hq⟩
     rw [eP hs,this];rfl
    ·rw [if_neg hq] at hs
     rw [kJ hs]
     refine ih (k+1) (by omega) fun j hj=>?_
     by_cases hjk:j=k
     ·subst hjk;simpa using hq
     ·exact hb j (by omega)
 rw [← h0]
 exact key n 0 (by omega) (fun j hj=>absurd hj (by omega))
theorem SC {α:Type} (l:List α) (q:α→Bool) (p:Nat→Bool) (h:∀ k x,l[k]?=some x→p k=q x):(List.range l.length).any p=l.any q:=by
 rw [Bool.eq_iff_iff,List.any_eq_true,List.any_eq_true]
 constructor
 ·rintro ⟨k,hk,hp⟩
  have hk':=List.mem_range.1 hk
  have hx:l[k]?=some l[k]:=by simp
  exact ⟨l[k],List.getElem_mem hk',by rw [← h k _ hx];exact hp⟩
 ·rintro ⟨x,hx,hq⟩
  obtain ⟨k,hk⟩:=List.mem_iff_getElem?.1 hx
  exact ⟨k,List.mem_range.2 (List.getElem?_eq_some_iff.1 hk).1,by rw [h k _ hk];exact hq⟩
theorem gX {α S R:Type} (l:List α) (body:S→Option (S ⊕ R)) (st:Nat→S) (q:α→Bool) (no yes:R) {s0:S} (h0:st 0=s0) (step:∀ (k:Nat) (x:α),l[k]?=some x→body (st k)=if q x then some (.inr yes) else some (.inl (st (k+1)))) (fin:body (st l.length)=some (.inr no)) :
  aK body s0=some (if l.any q then yes else no):=by
 rw [kS l.length body st (fun k=>match l[k]? with | some x=>q x | none=>false) no yes h0 (fun k hk=>?_) fin]
 ·rw [SC l q _ (fun k x h=>by rw [h])]
 ·have hx:l[k]?=some l[k]:=by simp
  rw [step k _ hx,hx]
def ovR (a b:Rect):Prop:=vR a∧vR b∧a.X<b.X+b.W∧b.X<a.X+a.W∧a.Y<b.Y+b.H∧b.Y<a.Y+a.H
instance (a b:Rect):Decidable (ovR a b):=by unfold ovR;infer_instance
theorem BD (a b:Rect):Bi a b=some (decide (ovR a b)):=by
 unfold Bi ovR
 simp only [vW,Option.bind_some]
 by_cases h1:vR a
 ·by_cases h2:vR b
  ·have h1':=h1;have h2':=h2
   unfold vR at h1' h2'
   rw [aS (by omega) (by omega),aS (by omega) (by omega),aS (by omega) (by omega),aS (by omega) (by omega)]
   by_cases h3:a.X<b.X+b.W <;> by_cases h4:b.X<a.X+a.W <;> by_cases h5:a.Y<b.Y+b.H <;> simp [h1,h2,h3,h4,h5]
  ·simp [h1,h2]
 ·simp [h1]
theorem KA (a b:Rect):nR a b=some (decide (ovR a b)):=by
 unfold nR ovR
 simp only [Ql,Option.bind_some]
 by_cases h1:vR a
 ·by_cases h2:vR b
  ·have h1':=h1;have h2':=h2
   unfold vR at h1' h2'
   rw [aS (by omega) (by omega),aS (by omega) (by omega),aS (by omega) (by omega),aS (by omega) (by omega)]
   by_cases h3:a.X<b.X+b.W <;> by_cases h4:b.X<a.X+a.W <;> by_cases h5:a.Y<b.Y+b.H <;> simp [h1,h2,h3,h4,h5]
  ·simp [h1,h2]
 ·simp [h1]
def KW (a b:Rect):Int:=if vR a∧vR b then max 0 (max (max (b.X-(a.X+a.W)) (a.X-(b.X+b.W))) (max (b.Y-(a.Y+a.H)) (a.Y-(b.Y+b.H)))) else 0
theorem Wj (a b:Int):fF a b=max a b:=by unfold fF;split <;> omega
theorem Gh (a b:Int):nO a b=min a b:=by unfold nO;split <;> omega
theorem JX (a b:Rect):Ee a b=some (KW a b):=by
 unfold Ee KW
 simp only [vW,Option.bind_some]
 by_cases h1:vR a
 ·by_cases h2:vR b
  ·have h1':=h1;have h2':=h2
   unfold vR at h1' h2'
   rw [bA (a:=b.X) (by omega) (by omega),bA (a:=a.X) (by omega) (by omega),bA (a:=b.Y) (by omega) (by omega),bA (a:=a.Y) (by omega) (by omega),bA (by omega) (by omega),bA (by omega) (by omega),bA (by omega) (by omega),bA (by omega) (by omega)]
   simp only [h1,h2,Wj,decide_true,and_self,if_true,Bool.not_true,Option.bind_some,Bool.false_eq_true,if_false]
   congr 1
   omega
  ·simp [h1,h2]
 ·simp [h1]
theorem VF (a b:Rect):rU a b=some (KW a b):=by
 unfold rU KW
 simp only [Ql,Option.bind_some]
 by_cases h1:vR a
 ·by_cases h2:vR b
  ·have h1':=h1;have h2':=h2
   unfold vR at h1' h2'
   rw [bA (a:=b.X) (by omega) (by omega),bA (a:=a.X) (by omega) (by omega),bA (a:=b.Y) (by omega) (by omega),bA (a:=a.Y) (by omega) (by omega),bA (by omega) (by omega),bA (by omega) (by omega),bA (by omega) (by omega),bA (by omega) (by omega)]
   simp only [h1,h2,Wj,decide_true,and_self,if_true,Bool.not_true,Option.bind_some,Bool.false_eq_true,if_false]
   congr 1
   omega
  ·simp [h1,h2]
 ·simp [h1]
end Go.SM
namespace Go.SM
open Go Go.VI Go.Cells
def inC (r:Rect) (x y:Int):Bool:=(decide (r.X≤x)&&decide (x<r.X+r.W))&&(decide (r.Y≤y)&&decide (y<r.Y+r.H))
def cov (l:List Rect) (x y:Int):Bool:=l.any fun r=>inC r x y
def EN (l:List Rect):Prop:=∀ r ∈ l,vR r
theorem H7 {r:Rect} {x y:Int}:inC r x y=true↔r.X≤x∧x<r.X+r.W∧r.Y≤y∧y<r.Y+r.H:=by
 unfold inC;simp only [Bool.and_eq_true,decide_eq_true_eq];omega
end Go.SM
namespace Go.Cells
def FI (s:Int→Int) (a b:Int):Prop:=a<b∧s a≠0∧(∀ z,a≤z→z<b→s z=s a)∧s (a-1)≠s a∧s b≠s a
def sJ (s:Int→Int) (l:List (Int×Int)):Prop:=l.Pairwise (fun p q=>p.1<q.1)∧∀ a b,(a,b) ∈ l↔FI s a b
theorem Lp {α:Type} {lt:α→α→Prop} (irr:∀ x,¬ lt x x) (tr:∀ x y z,lt x y→lt y z→lt x z):∀ {l l':List α},l.Pairwise lt→l'.Pairwise lt→(∀ x,x ∈ l↔x ∈ l')→l=l'
 | [],[],_,_,_=>rfl
 | [],y::t,_,_,h=>absurd ((h y).2 List.mem_cons_self) (by simp)
 | x::t,[],_,_,h=>absurd ((h x).1 List.mem_cons_self) (by simp)
 | x::t,y::t',h1,h2,h=>by
   rw [List.pairwise_cons] at h1 h2
   have e:x=y:=by
    rcases List.mem_cons.1 ((h x).1 List.mem_cons_self) with e | m
    ·exact e
    ·rcases List.mem_cons.1 ((h y).2 List.mem_cons_self) with e | m'
     ·exact e.symm
     ·exact absurd (tr _ _ _ (h1.1 y m') (h2.1 x m)) (irr x)
   subst e
   congr 1
   refine Lp irr tr h1.2 h2.2 fun z=>?_
   constructor
   ·intro m
    rcases List.mem_cons.1 ((h z).1 (List.mem_cons_of_mem _ m)) with e | m'
    ·subst e;exact absurd (h1.1 _ m) (irr _)
    ·exact m'
   ·intro m
    rcases List.mem_cons.1 ((h z).2 (List.mem_cons_of_mem _ m)) with e | m'
    ·subst e;exact absurd (h2.1 _ m) (irr _)
    ·exact m'
theorem MQ {s:Int→Int} {l l':List (Int×Int)} (h:sJ s l) (h':sJ s l'):l=l':=
 Lp (lt:=fun p q=>p.1<q.1) (fun _=>Int.lt_irrefl _) (fun _ _ _=>Int.lt_trans) h.1 h'.1 fun x=>(h.2 x.1 x.2).trans (h'.2 x.1 x.2).symm
def cut (s:Int→Int) (e:Int):Int→Int:=fun z=>if z<e then s z else 0
theorem Pi {s:Int→Int} {e z:Int} (h:z<e):cut s e z=s z:=if_pos h
theorem BX {s:Int→Int} {e z:Int} (h:e≤z):cut s e z=0:=if_neg (by omega)
theorem wD {s:Int→Int} {e a b:Int}:FI (cut s e) a b↔a<b∧b≤e∧s a≠0∧(∀ z,a≤z→z<b→s z=s a)∧s (a-1)≠s a∧(b=e∨s b≠s a):=by
 unfold FI
 constructor
 ·rintro ⟨h1,h2,h3,h4,h5⟩
  have ha:a<e:=by
   rcases Int.lt_or_le a e with q | q
   ·exact q
   ·exact absurd (BX q) h2
  have hb:b≤e:=by
   rcases Int.lt_or_le e b with q | q
   ·have:=h3 e (by omega) q
    rw [BX (Int.le_refl e)] at this
    exact absurd this.symm h2
   ·exact q
  rw [Pi ha] at h2 h3 h4 h5
  rw [Pi (by omega)] at h4
  refine ⟨h1,hb,h2,fun z p q=>?_,h4, ?_⟩
  ·have:=h3 z p q;rwa [Pi (by omega)] at this
  ·rcases Int.lt_or_le b e with q | q
   ·right;rwa [Pi q] at h5
   ·left;omega
 ·rintro ⟨h1,hb,h2,h3,h4,h5⟩
  have ha:a<e:=by omega
  rw [Pi ha,Pi (show a-1<e by omega)]
  refine ⟨h1,h2,fun z p q=>?_,h4, ?_⟩
  ·rw [Pi (by omega)];exact h3 z p q
  ·rcases h5 with rfl | h5
   ·rw [BX (Int.le_refl _)];exact fun q=>h2 q.symm
   ·rcases Int.lt_or_le b e with q | q
    ·rwa [Pi q]
    ·rw [BX q];exact fun q=>h2 q.symm
theorem EA {s:Int→Int} {e:Int} (h:∀ z,z<e→s z=0):sJ (cut s e) []:=by
 refine ⟨.nil,fun a b=>⟨fun m=>by simp at m,fun m=>?_⟩⟩
 rw [wD] at m
 exact absurd (h a (by omega)) m.2.2.1
theorem DZ {s:Int→Int} {e:Int} {l:List (Int×Int)} (h:sJ (cut s e) l) (h0:∀ z,e≤z→s z=0):sJ s l:=by
 have:cut s e=s:=funext fun z=>by
  rcases Int.lt_or_le z e with q | q
  ·exact Pi q
  ·rw [BX q,h0 z q]
 rwa [this] at h
theorem L8 {s:Int→Int} {e:Int} {l:List (Int×Int)} (h:sJ (cut s e) l):∀ p ∈ l,p.1<e∧p.2≤e:=fun p hp=>by
 have:=wD.1 ((h.2 p.1 p.2).1 hp)
 omega
section
variable {s:Int→Int} {e e':Int} {l:List (Int×Int)} (h:sJ (cut s e) l) (he:e<e') (hs:∀ z,e≤z→z<e'→s z=s e)
include h he hs
theorem Yi (h0:s e=0):sJ (cut s e') l:=by
 refine ⟨h.1,fun a b=>(h.2 a b).trans ?_⟩
 rw [wD,wD]
 constructor
 ·rintro ⟨h1,hb,h2,h3,h4,h5⟩
  refine ⟨h1,by omega,h2,h3,h4, ?_⟩
  rcases h5 with rfl | h5
  ·right;rw [h0];exact fun q=>h2 q.symm
  ·exact .inr h5
 ·rintro ⟨h1,hb,h2,h3,h4,h5⟩
  have ha:a<e:=by
   rcases Int.lt_or_le a e with q | q
   ·exact q
   ·have:=hs a q (by omega);rw [h0] at this;exact absurd this h2
  have hbe:b≤e:=by
   rcases Int.lt_or_le e b with q | q
   ·have:=h3 e (by omega) q;rw [h0] at this;exact absurd this.symm h2
   ·exact q
  refine ⟨h1,hbe,h2,h3,h4, ?_⟩
  rcases h5 with rfl | h5
  ·left;omega
  ·exact .inr h5
theorem MP (h0:s e≠0) (hd:s (e-1)≠s e):sJ (cut s e') (l++[(e,e')]):=by
 have hl:=L8 h
 refine ⟨?_,fun a b=>?_⟩
 ·rw [List.pairwise_append]
  refine ⟨h.1,by simp,fun p hp q hq=>?_⟩
  simp at hq
  subst hq
  exact (hl p hp).1
 ·rw [List.mem_append,List.mem_singleton,h.2 a b,wD,wD]
  constructor
  ·rintro (⟨h1,hb,h2,h3,h4,h5⟩ | q)
   ·refine ⟨h1,by omega,h2,h3,h4, ?_⟩
    rcases h5 with rfl | h5
    ·right;rw [← h3 (b-1) (by omega) (by omega)];exact fun q=>hd q.symm
    ·exact .inr h5
   ·injection q with q1 q2
    subst q1 q2
    exact ⟨he,Int.le_refl _,h0,hs,hd,.inl rfl⟩
  ·rintro ⟨h1,hb,h2,h3,h4,h5⟩
   rcases Int.lt_or_le a e with q | q
   ·left
    have hbe:b≤e:=by
     rcases Int.lt_or_le e b with q' | q'
     ·have e1:=h3 e (by omega) q'
      have e2:=h3 (e-1) (by omega) (by omega)
      exact absurd (e2.trans e1.symm) hd
     ·exact q'
    refine ⟨h1,hbe,h2,h3,h4, ?_⟩
    rcases h5 with rfl | h5
    ·left;omega
    ·exact .inr h5
   ·right
    have ea:a=e:=by
     rcases Int.lt_or_le e a with q' | q'
     ·have e1:=hs a q (by omega)
      have e2:=hs (a-1) (by omega) (by omega)
      exact absurd (e2.trans e1.symm) h4
     ·omega
    subst ea
    have eb:b=e':=by
     rcases h5 with q' | q'
     ·exact q'
     ·rcases Int.lt_or_le b e' with w | w
      ·exact absurd (hs b (by omega) w) q'
      ·omega
    rw [eb]
theorem GX {lo:Int} (hlo:∀ z,z<lo→s z=0) (h0:s e≠0) (hd:s (e-1)=s e):∃ l0 a,l=l0++[(a,e)]∧sJ (cut s e') (l0++[(a,e')]):=by
 -- the run that ends at e
 have open_:∃ a,FI (cut s e) a e:=by
  rcases Classical.em (∃ a,FI (cut s e) a e) with q | q
  ·exact q
  ·exfalso
   have key:∀ n:Nat,∀ z,e-1-n≤z→z<e→s z=s e:=by
    intro n
    induction n with
    | zero => intro z p1 p2;obtain rfl:z = e-1 := by omega
              exact hd
    | succ n ih =>
      intro z p1 p2
      rcases Int.lt_or_le z (e-1-n) with w | w
      ·obtain rfl:z=e-1-n-1:=by omega
       rcases Classical.em (s (e-1-n-1)=s e) with r | r
       ·exact r
       ·refine absurd ⟨e-1-n, ?_⟩ q
        have ea:=ih (e-1-n) (by omega) (by omega)
        rw [wD]
        exact ⟨by omega,Int.le_refl _,by rw [ea];exact h0,fun z a b=>by rw [ea];exact ih z a b,by rw [ea];exact r,.inl rfl⟩
      ·exact ih z w p2
   have hz:=key (e-1-(min (lo-1) (e-1))).toNat (min (lo-1) (e-1)) (by omega) (by omega)
   rw [hlo _ (by omega)] at hz
   exact h0 hz.symm
 obtain ⟨a,ha⟩:=open_
 obtain ⟨a1,_,a2,a3,a4,_⟩:=wD.1 ha
 have sa:∀ z,a≤z→z<e'→s z=s a:=fun z p q=>by
  rcases Int.lt_or_le z e with w | w
  ·exact a3 z p w
  ·rw [hs z w q,← hd];exact a3 _ (by omega) (by omega)
 obtain ⟨l1,l2,rfl⟩:=List.append_of_mem ((h.2 a e).2 ha)
 have hp:=h.1
 rw [List.pairwise_append,List.pairwise_cons] at hp
 obtain ⟨p1,⟨p2,p3⟩,p4⟩:=hp
 have l2n:l2=[]:=by
  cases l2 with
  | nil=>rfl
  | cons q t =>
    exfalso
    have hq:=p2 q List.mem_cons_self
    have hr:=wD.1 ((h.2 q.1 q.2).1 (by simp))
    obtain ⟨r1,r2,r3,r4,r5,_⟩:=hr
    have hq:a<q.1:=hq
    refine r5 ?_
    rw [sa (q.1-1) (by omega) (by omega),sa q.1 (by omega) (by omega)]
 subst l2n
 refine ⟨l1,a,rfl, ?_,fun x y=>?_⟩
 ·rw [List.pairwise_append]
  refine ⟨p1,by simp,fun q hq r hr=>?_⟩
  simp at hr
  subst hr
  exact p4 q hq (a,e) List.mem_cons_self
 ·rw [List.mem_append,List.mem_singleton,wD]
  constructor
  ·rintro (m | m)
   ·have hx:x<a:=p4 (x,y) m (a,e) List.mem_cons_self
    obtain ⟨r1,r2,r3,r4,r5,r6⟩:=wD.1 ((h.2 x y).1 (List.mem_append_left _ m))
    have hy:y≤a:=by
     rcases Int.lt_or_le a y with q | q
     ·exact absurd ((r4 (a-1) (by omega) (by omega)).trans (r4 a (by omega) q).symm) a4
     ·exact q
    refine ⟨r1,by omega,r3,r4,r5, ?_⟩
    rcases r6 with r6 | r6
    ·omega
    ·exact .inr r6
   ·injection m with m1 m2
    subst m1 m2
    exact ⟨by omega,Int.le_refl _,a2,sa,a4,.inl rfl⟩
  ·rintro ⟨r1,r2,r3,r4,r5,r6⟩
   have hxe:x<e:=by
    rcases Int.lt_or_le x e with q | q
    ·exact q
    ·refine absurd ?_ r5
     rw [sa (x-1) (by omega) (by omega),sa x (by omega) (by omega)]
   rcases Int.lt_or_le y e with q | q
   ·left
    have:(x,y) ∈ l1++[(a,e)]:=(h.2 x y).2 (wD.2 ⟨r1,by omega,r3,r4,r5,by
     rcases r6 with r6 | r6
     ·omega
     ·exact .inr r6⟩)
    rcases List.mem_append.1 this with m | m
    ·exact m
    ·simp at m;omega
   ·right
    have ex:x=a:=by
     rcases Int.lt_or_le x a with w | w
     ·exact absurd ((r4 (a-1) (by omega) (by omega)).trans (r4 a (by omega) (by omega)).symm) a4
     ·rcases Int.lt_or_le a x with w' | w'
      ·refine absurd ?_ r5
       rw [sa (x-1) (by omega) (by omega),sa x (by omega) (by omega)]
      ·omega
    subst ex
    have ey:y=e':=by
     rcases r6 with r6 | r6
     ·exact r6
     ·rcases Int.lt_or_le y e' with w | w
      ·exact absurd (sa y (by omega) w) r6
      ·omega
    rw [ey]
end
theorem PL {s:Int→Int} {lo hi:Int} (hlo:∀ z,z<lo→s z=0) (hhi:∀ z,hi≤z→s z=0) {x:Int} (hx:s x≠0):∃ a b,FI s a b∧a≤x∧x<b:=by
 have left_:∀ n:Nat,(∃ a,a≤x∧(∀ z,a≤z→z≤x→s z=s x)∧s (a-1)≠s x)∨∀ z,x-n≤z→z≤x→s z=s x:=by
  intro n
  induction n with
  | zero=>right;intro z p q;rw [show z=x from by omega]
  | succ n ih =>
    rcases ih with q | q
    ·exact .inl q
    ·rcases Classical.em (s (x-n-1)=s x) with r | r
     ·right
      intro z p1 p2
      rcases Int.lt_or_le z (x-n) with w | w
      ·rw [show z=x-n-1 from by omega];exact r
      ·exact q z w p2
     ·left;exact ⟨x-n,by omega,fun z a b=>q z a b,r⟩
 have right_:∀ n:Nat,(∃ b,x<b∧(∀ z,x≤z→z<b→s z=s x)∧s b≠s x)∨∀ z,x≤z→z≤x+n→s z=s x:=by
  intro n
  induction n with
  | zero=>right;intro z p q;rw [show z=x from by omega]
  | succ n ih =>
    rcases ih with q | q
    ·exact .inl q
    ·rcases Classical.em (s (x+n+1)=s x) with r | r
     ·right
      intro z p1 p2
      rcases Int.lt_or_le (x+n) z with w | w
      ·rw [show z=x+n+1 from by omega];exact r
      ·exact q z p1 w
     ·left;exact ⟨x+n+1,by omega,fun z a b=>q z a (by omega),r⟩
 obtain ⟨a,a1,a2,a3⟩:∃ a,a≤x∧(∀ z,a≤z→z≤x→s z=s x)∧s (a-1)≠s x:=by
  rcases left_ (x-min (lo-1) x).toNat with q | q
  ·exact q
  ·have:=q (min (lo-1) x) (by omega) (by omega)
   rw [hlo _ (by omega)] at this
   exact absurd this.symm hx
 obtain ⟨b,b1,b2,b3⟩:∃ b,x<b∧(∀ z,x≤z→z<b→s z=s x)∧s b≠s x:=by
  rcases right_ (max hi x-x).toNat with q | q
  ·exact q
  ·have:=q (max hi x) (by omega) (by omega)
   rw [hhi _ (by omega)] at this
   exact absurd this.symm hx
 have ha:=a2 a (Int.le_refl a) a1
 refine ⟨a,b,⟨by omega,by rw [ha];exact hx,fun z p q=>?_,by rw [ha];exact a3,by rw [ha];exact b3⟩,a1,b1⟩
 rw [ha]
 rcases Int.lt_or_le z x with w | w
 ·exact a2 z p (by omega)
 ·exact b2 z w q
end Go.Cells
namespace Go.SM
open Go Go.VI Go.Cells
def xsL (l:List Rect):List Int:=l.flatMap fun r=>[r.X,r.X+r.W]
def ysL (l:List Rect):List Int:=l.flatMap fun r=>[r.Y,r.Y+r.H]
def Ew (g l:List Int):Prop:=g.Pairwise (fun x y=>x<y)∧∀ x,x ∈ g↔x ∈ l
theorem Yy {g g' l:List Int} (h:Ew g l) (h':Ew g' l):g=g':=
 Lp (lt:=fun x y=>x<y) (fun _=>Int.lt_irrefl _) (fun _ _ _=>Int.lt_trans) h.1 h'.1 fun x=>(h.2 x).trans (h'.2 x).symm
theorem Vi (a b:List Rect):xsL (a++b)=xsL a++xsL b:=by simp [xsL]
theorem Vj (a b:List Rect):ysL (a++b)=ysL a++ysL b:=by simp [ysL]
theorem Xh (l:List Rect):(xsL l).length=2*l.length:=by
 induction l with
 | nil=>rfl
 | cons r l ih=>rw [show xsL (r::l)=[r.X,r.X+r.W]++xsL l from rfl,List.length_append,ih];simp;omega
theorem Xi (l:List Rect):(ysL l).length=2*l.length:=by
 induction l with
 | nil=>rfl
 | cons r l ih=>rw [show ysL (r::l)=[r.Y,r.Y+r.H]++ysL l from rfl,List.length_append,ih];simp;omega
theorem JU {r:Rect} (h:vR r):aL r.X r.W=r.X+r.W∧aL r.Y r.H=r.Y+r.H:=by
 unfold vR at h
 exact ⟨aS (by omega) (by omega),aS (by omega) (by omega)⟩
theorem oZ {α:Type} {l:List α} {k:Nat} {x:α} (h:l[k]?=some x):l.take (k+1)=l.take k++[x]:=by rw [List.take_add_one,h];rfl
theorem nM {α:Type} {l:List α} {k:Nat} {x d:α} (h:l[k]?=some x):l.getD k d=x:=by rw [List.getD_eq_getElem?_getD,h];rfl
def ps (g:Int→Int) (xs:List Int) (k:Nat):Int:=wH (fun i=>(xs.getD (i+1) 0-xs.getD i 0)*g (xs.getD i 0)) k
theorem Vm {xs:List Int} (h:xs.Pairwise fun x y=>x<y) {i j:Nat} {x y:Int} (hij:i<j) (hx:xs[i]?=some x) (hy:xs[j]?=some y):x<y:=by
 obtain ⟨a,rfl⟩:=List.getElem?_eq_some_iff.1 hx
 obtain ⟨b,rfl⟩:=List.getElem?_eq_some_iff.1 hy
 exact List.pairwise_iff_getElem.1 h i j a b hij
structure Lines (xs:List Int):Prop where
 asc:xs.Pairwise fun x y=>x<y
 within:∀ x ∈ xs,-1048576≤x∧x≤1048576
 len:xs.length≤1000
theorem Yo {β:Type} {f:Int→β} {C:Int→Prop} (hf:∀ x z,x≤z→(∀ c,C c→(c≤z↔c≤x))→f z=f x):∀ g:List Int,g.Pairwise (fun x y=>x<y)→(∀ c,C c→(∀ x,g.head?=some x→c<x)∨c ∈ g)→Ko f g
 | [],_,_=>trivial
 | [_],_,_=>trivial
 | x::y::t,h,hc=>by
   have hxy:=(List.pairwise_cons.1 h).1 y List.mem_cons_self
   have ht:=(List.pairwise_cons.1 h).2
   refine ⟨hxy,fun z h1 h2=>hf x z h1 fun c hC=>?_,Yo hf (y::t) ht fun c hC=>?_⟩
   ·rcases hc c hC with q | q
    ·have:=q x rfl;omega
    ·rcases List.mem_cons.1 q with rfl | q
     ·omega
     ·rcases List.mem_cons.1 q with rfl | q
      ·omega
      ·have:=(List.pairwise_cons.1 ht).1 c q;omega
   ·rcases hc c hC with q | q
    ·left;intro w hw;simp at hw;subst hw;have:=q x rfl;omega
    ·rcases List.mem_cons.1 q with rfl | q
     ·left;intro w hw;simp at hw;subst hw;exact hxy
     ·exact .inr q
theorem JV {l:List Rect} {r:Rect} (h:r ∈ l):r.X ∈ xsL l∧r.X+r.W ∈ xsL l:=by
 unfold xsL
 exact ⟨List.mem_flatMap.2 ⟨r,h,by simp⟩,List.mem_flatMap.2 ⟨r,h,by simp⟩⟩
theorem JW {l:List Rect} {r:Rect} (h:r ∈ l):r.Y ∈ ysL l∧r.Y+r.H ∈ ysL l:=by
 unfold ysL
 exact ⟨List.mem_flatMap.2 ⟨r,h,by simp⟩,List.mem_flatMap.2 ⟨r,h,by simp⟩⟩
theorem BJ {α:Type} {l:List α} {f g:α→Bool} (h:∀ x ∈ l,f x=g x):l.any f=l.any g:=by
 induction l with
 | nil=>rfl
 | cons x l ih=>simp only [List.any_cons];rw [h x List.mem_cons_self,ih fun y hy=>h y (List.mem_cons_of_mem _ hy)]
structure Has (xs ys:List Int) (l:List Rect):Prop where
 X:Lines xs
 Y:Lines ys
 x:∀ c ∈ xsL l,c ∈ xs
 y:∀ c ∈ ysL l,c ∈ ys
 v:EN l
section
variable {xs ys:List Int} {l:List Rect} (h:Has xs ys l)
include h
theorem D8 {x y:Int} (hc:cov l x y=true):(∃ a ∈ xs,a≤x)∧(∃ a ∈ xs,x<a)∧(∃ a ∈ ys,a≤y)∧(∃ a ∈ ys,y<a):=by
 obtain ⟨r,hr,hb⟩:=List.any_eq_true.1 hc
 rw [H7] at hb
 exact ⟨⟨_,h.x _ (JV hr).1,hb.1⟩,⟨_,h.x _ (JV hr).2,hb.2.1⟩,⟨_,h.y _ (JW hr).1,hb.2.2.1⟩,⟨_,h.y _ (JW hr).2,hb.2.2.2⟩⟩
omit h in
theorem ends {x0:Int} {t:List Int} (ha:(x0::t).Pairwise fun x y=>x<y):∀ a ∈ x0::t,x0≤a∧a≤(x0::t).getLast (by simp):=fun a m=>by
 constructor
 ·rcases List.mem_cons.1 m with rfl | m
  ·exact Int.le_refl _
  ·exact Int.le_of_lt ((List.pairwise_cons.1 ha).1 a m)
 ·have e:x0::t=(x0::t).dropLast++[(x0::t).getLast (by simp)]:=(List.dropLast_concat_getLast (by simp)).symm
  rw [e,List.pairwise_append] at ha
  rw [e] at m
  rcases List.mem_append.1 m with m | m
  ·exact Int.le_of_lt (ha.2.2 a m _ (by simp))
  ·simp at m;omega
end
theorem JD {l:List Rect} (hv:EN l):(∀ c ∈ xsL l,-1048576≤c∧c≤1048576)∧∀ c ∈ ysL l,-1048576≤c∧c≤1048576:=by
 constructor
 ·intro c hc
  obtain ⟨r,hr,hm⟩:=List.mem_flatMap.1 hc
  have:=hv r hr
  unfold vR at this
  simp at hm
  omega
 ·intro c hc
  obtain ⟨r,hr,hm⟩:=List.mem_flatMap.1 hc
  have:=hv r hr
  unfold vR at this
  simp at hm
  omega
theorem GN {α:Type} [BEq α] [LawfulBEq α]:∀ {g l:List α},g.Nodup→(∀ x ∈ g,x ∈ l)→g.length≤l.length
 | [],_,_,_=>by simp
 | x::g,l,hn,h=>by
   rw [List.nodup_cons] at hn
   have:=GN (g:=g) (l:=l.erase x) hn.2 fun y hy=>(List.mem_erase_of_ne (fun e=>hn.1 (by rw [← e];exact hy))).2 (h y (List.mem_cons_of_mem _ hy))
   rw [List.length_erase_of_mem (h x List.mem_cons_self)] at this
   have hp:=List.length_pos_of_mem (h x List.mem_cons_self)
   simp only [List.length_cons];omega
theorem Ah {g l:List Int} (hg:g.Pairwise fun x y=>x<y) (h:∀ x ∈ g,x ∈ l):g.length≤l.length:=by
 have hn:g.Nodup:=hg.imp fun q=>by omega
 exact GN hn h
theorem XH {xs ys:List Int} {lines l:List Rect} (hv:EN lines) (hl:lines.length≤400) (hx:Ew xs (xsL lines)) (hy:Ew ys (ysL lines)) (hs:∀ r ∈ l,r ∈ lines):Has xs ys l:=by
 have w:=JD hv
 have lx:=Ah hx.1 fun x m=>(hx.2 x).1 m
 have ly:=Ah hy.1 fun x m=>(hy.2 x).1 m
 rw [Xh] at lx
 rw [Xi] at ly
 refine ⟨⟨hx.1,fun x m=>w.1 x ((hx.2 x).1 m),by omega⟩,⟨hy.1,fun x m=>w.2 x ((hy.2 x).1 m),by omega⟩,fun c hc=>?_,fun c hc=>?_,fun r hr=>hv r (hs r hr)⟩
 ·obtain ⟨r,hr,hm⟩:=List.mem_flatMap.1 hc
  exact (hx.2 c).2 (List.mem_flatMap.2 ⟨r,hs r hr,hm⟩)
 ·obtain ⟨r,hr,hm⟩:=List.mem_flatMap.1 hc
  exact (hy.2 c).2 (List.mem_flatMap.2 ⟨r,hs r hr,hm⟩)
end Go.SM
namespace Go.SM
open Go Go.VI Go.Cells
def Ao (R:List (List Rect)) (x y:Int):Option Nat:=R.findIdx? fun l=>cov l x y
def Tz (o:Option Nat):Option Int:=o.map fun i=>(i:Int)
def kM (R:List (List Rect)) (x y:Int):Option Int:=Tz (Ao R x y)
def OI (R:List (List Rect)) (x y:Int):Int:=match Ao R x y with
 | some i=>(i:Int)
 | none=>-1
theorem U4 (R:List (List Rect)) (x y:Int):OI R x y=match kM R x y with | some i=>i | none=>-1:=by
 unfold OI kM Tz
 cases Ao R x y <;> rfl
theorem H9 {R:List (List Rect)} {x y:Int} {i:Nat} (h:Ao R x y=some i):i<R.length:=by
 unfold Ao at h
 exact (List.findIdx?_eq_some_iff_getElem.1 h).1
theorem CZ {R:List (List Rect)} {x y x' y':Int} (h:∀ l ∈ R,cov l x y=cov l x' y'):Ao R x y=Ao R x' y':=by
 unfold Ao
 have:∀ R:List (List Rect),(∀ l ∈ R,cov l x y=cov l x' y')→R.findIdx? (fun l=>cov l x y)=R.findIdx? fun l=>cov l x' y':=by
  intro R
  induction R with
  | nil=>intro _;rfl
  | cons l R ih =>
    intro h
    rw [List.findIdx?_cons,List.findIdx?_cons,h l List.mem_cons_self,ih fun k hk=>h k (List.mem_cons_of_mem _ hk)]
 exact this R h
theorem Xz {α R:Type} (l:List α) (body:Int→Option (Int ⊕ R)) (q:α→Bool) (yes:Nat→R) (no:R) (step:∀ (k:Nat) (x:α),l[k]?=some x→body k=if q x then some (.inr (yes k)) else some (.inl ((k+1:Nat):Int))) (fin:body (l.length:Int)=some (.inr no)) :
  aK body 0=some (match l.findIdx? q with | some i=>yes i | none=>no):=by
 have key:∀ (m k:Nat),k+m=l.length→aK body (k:Int)=some (match (l.drop k).findIdx? q with | some i=>yes (k+i) | none=>no):=by
  intro m
  induction m with
  | zero =>
    intro k h;obtain rfl:k=l.length:=by omega
    rw [List.drop_length,eP fin];rfl
  | succ m ih =>
    intro k h
    have hk:k<l.length:=by omega
    have hx:l[k]?=some l[k]:=by simp
    have hs:=step k _ hx
    rw [List.drop_eq_getElem_cons hk,List.findIdx?_cons]
    cases hq:q l[k] with
    | true=>rw [hq] at hs;rw [eP hs];simp
    | false =>
      rw [hq] at hs
      rw [kJ hs,ih (k+1) (by omega)]
      cases (l.drop (k+1)).findIdx? q with
      | none=>rfl
      | some i=>simp;congr 1;omega
 have:=key l.length 0 (by omega)
 simpa using this
structure Lay (R:List (List Rect)) (xs ys:List Int):Prop where
 x:Ew xs (xsL R.flatten)
 y:Ew ys (ysL R.flatten)
 v:EN R.flatten
 n:R.flatten.length≤400
 m:R.length≤900
section
variable {R:List (List Rect)} {xs ys:List Int} (h:Lay R xs ys)
include h
theorem Lay.has {l:List Rect} (hl:l ∈ R):Has xs ys l:=XH h.v h.n h.x h.y fun r hr=>List.mem_flatten.2 ⟨l,hl,hr⟩
theorem Lay.Y4:Has xs ys R.flatten:=XH h.v h.n h.x h.y fun r hr=>hr
theorem Lay.X:Lines xs:=h.Y4.X
theorem Lay.Y:Lines ys:=h.Y4.Y
theorem U5 {x y:Int} {i:Nat} (hc:Ao R x y=some i):(∃ a ∈ xs,a≤x)∧(∃ a ∈ xs,x<a)∧(∃ a ∈ ys,a≤y)∧(∃ a ∈ ys,y<a):=by
 unfold Ao at hc
 obtain ⟨hi,h1,_⟩:=List.findIdx?_eq_some_iff_getElem.1 hc
 exact D8 (h.has (List.getElem_mem hi)) h1
theorem QQ:Ko (fun x=>Ao R x) xs:=Yo (C:=fun c=>c ∈ xsL R.flatten) (fun x z hxz hC=>funext fun y=>CZ fun l hl=>BJ fun r hr=>by
 have hrm:r ∈ R.flatten:=List.mem_flatten.2 ⟨l,hl,hr⟩
 have h1:=hC _ (JV hrm).1
 have h2:=hC _ (JV hrm).2
 show ((decide (r.X≤z)&&decide (z<r.X+r.W))&&_)=((decide (r.X≤x)&&decide (x<r.X+r.W))&&_)
 rw [show decide (r.X≤z)=decide (r.X≤x) from by simp only [h1],show decide (z<r.X+r.W)=decide (x<r.X+r.W) from by
  have:(z<r.X+r.W)=(x<r.X+r.W):=by apply propext;omega
  simp only [this]]) xs h.X.asc fun c hc=>.inr ((h.x.2 c).2 hc)
theorem QR:Ko (fun y=>fun x=>Ao R x y) ys:=Yo (C:=fun c=>c ∈ ysL R.flatten) (fun y z hyz hC=>funext fun x=>CZ fun l hl=>BJ fun r hr=>by
 have hrm:r ∈ R.flatten:=List.mem_flatten.2 ⟨l,hl,hr⟩
 have h1:=hC _ (JW hrm).1
 have h2:=hC _ (JW hrm).2
 show (_&&(decide (r.Y≤z)&&decide (z<r.Y+r.H)))=(_&&(decide (r.Y≤y)&&decide (y<r.Y+r.H)))
 rw [show decide (r.Y≤z)=decide (r.Y≤y) from by simp only [h1],show decide (z<r.Y+r.H)=decide (y<r.Y+r.H) from by
  have:(z<r.Y+r.H)=(y<r.Y+r.H):=by apply propext;omega
  simp only [this]]) ys h.Y.asc fun c hc=>.inr ((h.y.2 c).2 hc)
end
def num:Option Int→Int
 | none=>0
 | some i=>i+1
def cod (a b:Option Int):Int:=if a=b then 0 else num a*1000+num b
theorem JG {a b:Option Int} (ha:∀ i,a=some i→0≤i) (hb:∀ i,b=some i→0≤i) (h:num a=num b):a=b:=by
 cases a with
 | none=>cases b with
   | none=>rfl
   | some j=>have:=hb j rfl;simp only [num] at h;omega
 | some i=>cases b with
   | none=>have:=ha i rfl;simp only [num] at h;omega
   | some j=>simp only [num] at h;rw [show i=j by omega]
def SmO (a:Option Int):Prop:=∀ i,a=some i→0≤i∧i<900
theorem Yb {a:Option Int} (h:SmO a):0≤num a∧num a≤900:=by
 cases a with
 | none=>simp [num]
 | some i=>have:=h i rfl;simp only [num];omega
theorem BO {a b:Option Int} (ha:SmO a) (hb:SmO b):cod a b=0↔a=b:=by
 unfold cod
 constructor
 ·intro h
  split at h
  ·assumption
  ·have:=Yb ha;have:=Yb hb
   exact JG (fun i e=>(ha i e).1) (fun i e=>(hb i e).1) (by omega)
 ·intro h;rw [if_pos h]
theorem D7 {a b a' b':Option Int} (ha:SmO a) (hb:SmO b) (ha':SmO a') (hb':SmO b') (h0:cod a b≠0) (h:cod a b=cod a' b'):a=a'∧b=b':=by
 have h0':cod a' b'≠0:=by rw [← h];exact h0
 unfold cod at h h0 h0'
 split at h
 ·rename_i e;rw [if_pos e] at h0;exact absurd rfl h0
 ·split at h
  ·rename_i e;rw [if_pos e] at h0';exact absurd rfl h0'
  ·have:=Yb ha;have:=Yb hb;have:=Yb ha';have:=Yb hb'
   exact ⟨JG (fun i e=>(ha i e).1) (fun i e=>(ha' i e).1) (by omega),JG (fun i e=>(hb i e).1) (fun i e=>(hb' i e).1) (by omega)⟩
theorem Ag {R:List (List Rect)} (hm:R.length≤900) (x y:Int):SmO (kM R x y):=fun i h=>by
 unfold kM Tz at h
 cases e:Ao R x y with
 | none=>rw [e] at h;cases h
 | some j=>rw [e] at h;have:=H9 e;simp at h;omega
def hS (R:List (List Rect)) (y:Int) (z:Int):Int:=cod (kM R z y) (kM R z (y-1))
def vS (R:List (List Rect)) (x:Int) (z:Int):Int:=cod (kM R x z) (kM R (x-1) z)
noncomputable def rH (s:Int→Int):List (Int×Int):=open Classical in if h:∃ L,sJ s L then Classical.choose h else []
theorem Xd {s:Int→Int} {L:List (Int×Int)} (h:sJ s L):rH s=L:=by
 unfold rH
 have hx:∃ L,sJ s L:=⟨L,h⟩
 rw [dif_pos hx]
 exact MQ (Classical.choose_spec hx) h
theorem Oq {β γ:Type} (f:β→γ) {g:Int→β}:∀ {l:List Int},Ko g l→Ko (fun x=>f (g x)) l
 | [],_=>trivial
 | [_],_=>trivial
 | _::_::_,h=>⟨h.1,fun z a b=>congrArg f (h.2.1 z a b),Oq f h.2.2⟩
theorem Dp {β:Type} {f:Int→β}:∀ {xs:List Int},Ko f xs→∀ {k:Nat} {x x':Int},xs[k]?=some x→xs[k+1]?=some x'→x<x'∧∀ z,x≤z→z<x'→f z=f x
 | [],_,k,x,x',h,_=>by simp at h
 | [_],_,k,x,x',_,h=>by simp at h
 | a::b::t,hs,0,x,x',h,h'=>by
   simp at h h'
   subst h h'
   exact ⟨hs.1,hs.2.1⟩
 | a::b::t,hs,k+1,x,x',h,h'=>by
   simp only [List.getElem?_cons_succ] at h h'
   exact Dp hs.2.2 h h'
structure Al (A B:Int→Option Int) (xs:List Int):Prop where
 st:Ko (fun z=>(A z,B z)) xs
 len:xs.length≤1000
 sa:∀ z,SmO (A z)
 sb:∀ z,SmO (B z)
 low:∀ x0,xs[0]?=some x0→∀ z,z<x0→A z=none∧B z=none
 high:∀ x1,xs[xs.length-1]?=some x1→∀ z,x1≤z→A z=none∧B z=none
 emp:xs=[]→∀ z,A z=none∧B z=none
theorem FL {g:List Int} {a b:Int} (hg:g.Pairwise fun x y=>x<y) (ha:g[0]?=some a) (hb:b ∈ g):a≤b:=by
 obtain ⟨i,hi⟩:=List.mem_iff_getElem?.1 hb
 rcases Nat.eq_zero_or_pos i with q | q
 ·subst q;rw [ha] at hi;injection hi with hi;omega
 ·have:=Vm hg q ha hi;omega
theorem KI {g:List Int} {a b:Int} (hg:g.Pairwise fun x y=>x<y) (ha:g[g.length-1]?=some a) (hb:b ∈ g):b≤a:=by
 obtain ⟨i,hi⟩:=List.mem_iff_getElem?.1 hb
 have:=aY hi
 by_cases q:i=g.length-1
 ·subst q;rw [ha] at hi;injection hi with hi;omega
 ·have:=Vm hg (show i<g.length-1 by omega) hi ha;omega
section
variable {R:List (List Rect)} {xs ys:List Int} (h:Lay R xs ys)
include h
theorem AR:(∀ x0,xs[0]?=some x0→∀ x y,x<x0→Ao R x y=none)∧(∀ x1,xs[xs.length-1]?=some x1→∀ x y,x1≤x→Ao R x y=none)∧(xs=[]→∀ x y,Ao R x y=none) ∧
  (∀ y0,ys[0]?=some y0→∀ x y,y<y0→Ao R x y=none)∧(∀ y1,ys[ys.length-1]?=some y1→∀ x y,y1≤y→Ao R x y=none)∧(ys=[]→∀ x y,Ao R x y=none):=by
 have no:∀ {x y:Int},(∀ i,Ao R x y≠some i)→Ao R x y=none:=fun {x y} hn=>by
  cases e:Ao R x y with
  | none=>rfl
  | some i=>exact absurd e (hn i)
 refine ⟨fun x0 h0 x y hx=>no fun i e=>?_,fun x0 h0 x y hx=>no fun i e=>?_,fun h0 x y=>no fun i e=>?_,fun x0 h0 x y hx=>no fun i e=>?_,fun x0 h0 x y hx=>no fun i e=>?_,fun h0 x y=>no fun i e=>?_⟩ <;> obtain ⟨⟨a,ha,a1⟩,⟨b,hb,b1⟩,⟨c,hc,c1⟩,⟨d,hd,d1⟩⟩:=U5 h e
 ·have:=FL h.X.asc h0 ha;omega
 ·have:=KI h.X.asc h0 hb;omega
 ·rw [h0] at ha;cases ha
 ·have:=FL h.Y.asc h0 hc;omega
 ·have:=KI h.Y.asc h0 hd;omega
 ·rw [h0] at hc;cases hc
omit h in
theorem xC {x y:Int} (e:Ao R x y=none):kM R x y=none:=by unfold kM Tz;rw [e];rfl
theorem X7 (y:Int):Al (fun z=>kM R z y) (fun z=>kM R z (y-1)) xs:=by
 obtain ⟨o1,o2,o3,_⟩:=AR h
 exact ⟨Oq (fun f:Int→Option Nat=>(Tz (f y),Tz (f (y-1)))) (g:=fun x=>Ao R x) (QQ h),h.X.len,fun z=>Ag h.m _ _,fun z=>Ag h.m _ _,
  fun x0 h0 z hz=>⟨xC (o1 x0 h0 z _ hz),xC (o1 x0 h0 z _ hz)⟩,fun x0 h0 z hz=>⟨xC (o2 x0 h0 z _ hz),xC (o2 x0 h0 z _ hz)⟩,fun h0 z=>⟨xC (o3 h0 z _),xC (o3 h0 z _)⟩⟩
theorem X8 (x:Int):Al (fun z=>kM R x z) (fun z=>kM R (x-1) z) ys:=by
 obtain ⟨_,_,_,o1,o2,o3⟩:=AR h
 exact ⟨Oq (fun f:Int→Option Nat=>(Tz (f x),Tz (f (x-1)))) (g:=fun y=>fun x=>Ao R x y) (QR h),h.Y.len,fun z=>Ag h.m _ _,fun z=>Ag h.m _ _,
  fun x0 h0 z hz=>⟨xC (o1 x0 h0 _ z hz),xC (o1 x0 h0 _ z hz)⟩,fun x0 h0 z hz=>⟨xC (o2 x0 h0 _ z hz),xC (o2 x0 h0 _ z hz)⟩,fun h0 z=>⟨xC (o3 h0 _ z),xC (o3 h0 _ z)⟩⟩
end
section
variable {A B:Int→Option Int} {xs:List Int} (h:Al A B xs)
include h
theorem Al.s0 (z:Int):cod (A z) (B z)=0↔A z=B z:=BO (h.sa z) (h.sb z)
theorem Al.inj {z w:Int} (h0:cod (A z) (B z)≠0) (e:cod (A z) (B z)=cod (A w) (B w)):A z=A w∧B z=B w:=D7 (h.sa z) (h.sb z) (h.sa w) (h.sb w) h0 e
theorem Al.lo:∃ lo,∀ z,z<lo→cod (A z) (B z)=0:=by
 have e0:∀ z,A z=none∧B z=none→cod (A z) (B z)=0:=fun z q=>by rw [q.1,q.2];rfl
 cases hx:xs[0]? with
 | none=>exact ⟨0,fun z _=>e0 z (h.emp (by simpa using hx) z)⟩
 | some x0=>exact ⟨x0,fun z hz=>e0 z (h.low x0 hx z hz)⟩
theorem Al.before {k:Nat} {x e:Int} (hx:xs[k]?=some x) (he:xs[k+1]?=some e):A (e-1)=A x∧B (e-1)=B x:=by
 obtain ⟨h1,h2⟩:=Dp h.st hx he
 have:=h2 (e-1) (by omega) (by omega)
 injection this with q1 q2
 exact ⟨q1,q2⟩
end
end Go.SM
namespace Go.VI
theorem nP {S R:Type} (μ:S→Nat) (I:S→Prop) (Q:R→Prop) (body:S→Option (S ⊕ R))
  (step:∀ s,I s→(∃ s',body s=some (.inl s')∧I s'∧μ s'<μ s)∨(∃ r,body s=some (.inr r)∧Q r)):∀ s,I s→∃ r,aK body s=some r∧Q r:=by
 have key:∀ (n:Nat) s,μ s<n→I s→∃ r,aK body s=some r∧Q r:=by
  intro n
  induction n with
  | zero=>intro s h;exact absurd h (Nat.not_lt_zero _)
  | succ n ih =>
    intro s h hs
    rcases step s hs with ⟨s',e,hs',hm⟩ | ⟨r,e,hr⟩
    ·rw [kJ e];exact ih s' (by omega) hs'
    ·exact ⟨r,eP e,hr⟩
 exact fun s hs=>key (μ s+1) s (Nat.lt_succ_self _) hs
section
variable {α:Type} (d:α)
def gz (l:List α) (i:Int):α:=l.getD i.toNat d
theorem jM {l:List α} {i:Int} (h:0≤i) (h2:i<l.length):idx l i=some (gz d l i):=by
 unfold idx gz
 rw [if_pos h,List.getD_eq_getElem?_getD,List.getElem?_eq_getElem (by omega)]
 rfl
theorem XG {l:List α} {i k:Int} (hi:0≤i) (hk:0≤k) (h:i<l.length) (v:α):gz d (l.set i.toNat v) k=if k=i then v else gz d l k:=by
 unfold gz
 rw [List.getD_eq_getElem?_getD,List.getD_eq_getElem?_getD,List.getElem?_set]
 by_cases e:k=i
 ·subst e
  rw [if_pos rfl,if_pos (by omega),if_pos rfl];rfl
 ·rw [if_neg (by omega),if_neg e]
def sw (l:List α) (i j:Int):List α:=(l.set i.toNat (gz d l j)).set j.toNat (gz d l i)
theorem EH (l:List α) (i j:Int):(sw d l i j).length=l.length:=by simp [sw]
theorem tO {l:List α} {i j k:Int} (hi:0≤i) (hj:0≤j) (hk:0≤k) (h1:i<l.length) (h2:j<l.length):gz d (sw d l i j) k=if k=j then gz d l i else if k=i then gz d l j else gz d l k:=by
 unfold sw
 rw [XG d hj hk (by rw [List.length_set];exact h2),XG d hi hk h1]
inductive On (a b:Int):List α→List α→Prop
 | refl (l:List α):On a b l l
 | step {l l':List α} (h:On a b l l') (i j:Int) (hi:a≤i) (hi':i<b) (hj:a≤j) (hj':j<b) (ha:0≤a) (hb:b≤l'.length):On a b l (sw d l' i j)
theorem On.len {a b:Int} {l l':List α} (h:On d a b l l'):l'.length=l.length:=by
 induction h with
 | refl=>rfl
 | step h i j _ _ _ _ _ _ ih=>rw [EH,ih]
theorem On.trans {a b:Int} {l l' l'':List α} (h:On d a b l l') (h':On d a b l' l''):On d a b l l'':=by
 induction h' with
 | refl=>exact h
 | step _ i j hi hi' hj hj' ha hb ih=>exact .step ih i j hi hi' hj hj' ha hb
theorem On.mono {a b a' b':Int} {l l':List α} (h:On d a b l l') (h0:0≤a') (h1:a'≤a) (h2:b≤b') (h3:b'≤l.length):On d a' b' l l':=by
 induction h with
 | refl=>exact .refl _
 | step h i j hi hi' hj hj' ha hb ih=>exact .step ih i j (by omega) (by omega) (by omega) (by omega) h0 (by rw [h.len];exact h3)
theorem On.out {a b:Int} {l l':List α} (h:On d a b l l') {k:Int} (hk:0≤k) (hk':k<a∨b≤k):gz d l' k=gz d l k:=by
 induction h with
 | refl=>rfl
 | step h i j hi hi' hj hj' ha hb ih =>
   rw [tO d (by omega) (by omega) hk (by omega) (by omega),if_neg (by omega),if_neg (by omega),ih]
theorem On.all {a b:Int} {l l':List α} (h:On d a b l l') (Q:α→Prop) (hq:∀ k,a≤k→k<b→Q (gz d l k)):∀ k,a≤k→k<b→Q (gz d l' k):=by
 induction h with
 | refl=>exact hq
 | step h i j hi hi' hj hj' ha hb ih =>
   intro k h1 h2
   rw [tO d (by omega) (by omega) (by omega) (by omega) (by omega)]
   split
   ·exact ih i hi hi'
   ·split
    ·exact ih j hj hj'
    ·exact ih k h1 h2
theorem M7 {l:List α} {i j:Int} (hi:0≤i) (hj:0≤j) (h1:i<l.length) (h2:j<l.length):(sw d l i j).Perm l:=by
 unfold sw gz
 have e1:l.getD i.toNat d=l[i.toNat]'(by omega):=by rw [List.getD_eq_getElem?_getD,List.getElem?_eq_getElem (by omega)];rfl
 have e2:l.getD j.toNat d=l[j.toNat]'(by omega):=by rw [List.getD_eq_getElem?_getD,List.getElem?_eq_getElem (by omega)];rfl
 rw [e1,e2]
 exact List.set_set_perm (by omega) (by omega)
theorem On.perm {a b:Int} {l l':List α} (h:On d a b l l'):l'.Perm l:=by
 induction h with
 | refl=>exact .refl _
 | step h i j hi hi' hj hj' ha hb ih=>exact (M7 d (by omega) (by omega) (by omega) (by omega)).trans ih
def Asc (lt:α→α→Bool) (a b:Int) (l:List α):Prop:=∀ i j,a≤i→i<j→j<b→lt (gz d l j) (gz d l i)=false
structure Zk (lt:α→α→Bool):Prop where
 asymm:∀ x y,lt x y=true→lt y x=false
 neg:∀ x y z,lt x z=true→lt x y=true∨lt y z=true
theorem Zk.le_trans {lt:α→α→Bool} (w:Zk lt) {x y z:α} (h1:lt y x=false) (h2:lt z y=false):lt z x=false:=by
 cases h:lt z x with
 | false=>rfl
 | true=>rcases w.neg z y x h with q | q <;> simp_all
theorem Zk.irrefl {lt:α→α→Bool} (w:Zk lt) (x:α):lt x x=false:=by
 cases h:lt x x with
 | false=>rfl
 | true=>have:=w.asymm x x h;simp_all
end
end Go.VI
namespace Go.SM
open Go Go.VI
abbrev Br (α:Type):Type 1:=∀ (β:Type),α→α→(Bool→Option β)→Option β
def brC {α:Type} (cmp:α→α→Option Int):Br α:=fun _ x y k=>(cmp x y).bind fun r=>k (decide (r<0))
noncomputable def vG:(Int×Int)→Option (Int):=fun j3 =>
 (Rn (ByteArray.mk #[0,1,2,2,3,3,3,3,4,4,4,4,4,4,4,4,5,5,5,5,5,5,5,5,5,5,5,5,5,5,5,5,6,6,6,6,6,6,6,6,6,6,6,6,6,6,6,6,6,6,6,6,6,6,6,6,6,6,6,6,6,6,6,6,7,7,7,7,7,7,7,7,7,7,7,7,7,7,7,7,7,7,7,7,7,7,7,7,7,7,7,7,7,7,7,7,7,7,7,7,7,7,7,7,7,7,7,7,7,7,7,7,7,7,7,7,7,7,7,7,7,7,7,7,7,7,7,7,8,8,8,8,8,8,8,8,8,8,8,8,8,8,8,8,8,8,8,8,8,8,8,8,8,8,8,8,8,8,8,8,8,8,8,8,8,8,8,8,8,8,8,8,8,8,8,8,8,8,8,8,8,8,8,8,8,8,8,8,8,8,8,8,8,8,8,8,8,8,8,8,8,8,8,8,8,8,8,8,8,8,8,8,8,8,8,8,8,8,8,8,8,8,8,8,8,8,8,8,8,8,8,8,8,8,8,8,8,8,8,8,8,8,8,8,8,8,8,8,8,8,8,8,8,8,8,8]) (IntKind.wrap .u8 j3.1)).bind fun x5=>some (aL j3.2 (IntKind.wrap .i64 x5))
noncomputable def yH:(Int×Int)→Option (Int):=fun j2 =>
 if (decide (j2.1 ≥ 256)) then (vG ((Int.fdiv j2.1 (2^(min (Int.toNat 8) 64))),(aL j2.2 8))) else (vG (j2.1,j2.2))
noncomputable def Dl:(Int×Int)→Option (Int):=fun j1 =>
 if (decide (j1.1 ≥ 65536)) then (yH ((Int.fdiv j1.1 (2^(min (Int.toNat 16) 64))),(aL j1.2 16))) else (yH (j1.1,j1.2))
noncomputable def Uc (x0:Int):Option (Int):=
 if (decide (x0 ≥ 4294967296)) then (Dl ((Int.fdiv x0 (2^(min (Int.toNat 32) 64))),32)) else (Dl (x0,0))
noncomputable def Jv (x0:Int):Option (Int):=
 (Uc x0).bind fun r2=>some r2
noncomputable def Bj (length:Int):Option (Int):=
 (Jv (IntKind.wrap .u64 length)).bind fun r2=>if (decide (0≤r2)) then (some (IntKind.wrap .u64 (1*2^(min (Int.toNat r2) 64)))) else none
noncomputable def Np (h0_0:Int):Option (Int):=
 some (kI .u64 (kI .u64 (kI .u64 h0_0 (IntKind.wrap .u64 (h0_0*2^(min (Int.toNat 13) 64)))) (Int.fdiv (kI .u64 h0_0 (IntKind.wrap .u64 (h0_0*2^(min (Int.toNat 13) 64)))) (2^(min (Int.toNat 7) 64)))) (IntKind.wrap .u64 ((kI .u64 (kI .u64 h0_0 (IntKind.wrap .u64 (h0_0*2^(min (Int.toNat 13) 64)))) (Int.fdiv (kI .u64 h0_0 (IntKind.wrap .u64 (h0_0*2^(min (Int.toNat 13) 64)))) (2^(min (Int.toNat 7) 64))))*2^(min (Int.toNat 17) 64))))
noncomputable def uZ {α:Type} (br:Br α) (a:Int):Int×(List α)→Option (Int×(List α) ⊕ (List α)):=fun s723 =>
 (if (decide (s723.1>a)) then ((idx s723.2 s723.1).bind fun x785=>(idx s723.2 (aJ s723.1 1)).bind fun x786=>br _ x785 x786 fun r787=>some r787) else (some false)).bind fun j784=>if j784 then ((idx s723.2 (aJ s723.1 1)).bind fun x808=>(idx s723.2 s723.1).bind fun x809=>(idx s723.2 s723.1).bind fun x810=>(idx (List.set s723.2 (Int.toNat s723.1) x808) (aJ s723.1 1)).bind fun x811=>some (.inl ((aJ s723.1 1),(List.set (List.set s723.2 (Int.toNat s723.1) x808) (Int.toNat (aJ s723.1 1)) x809)))) else (some (.inr s723.2))
noncomputable def yO {α:Type} (br:Br α) (a:Int) (b:Int):Int×(List α)→Option (Int×(List α) ⊕ (List α)):=fun s272 =>
 if (decide (s272.1<b)) then ((aK (uZ br a) (s272.1,s272.2)).bind fun x812=>some (.inl ((aL s272.1 1),x812))) else (some (.inr s272.2))
noncomputable def Dn {α:Type} (br:Br α) (a:Int) (b:Int) (h0:(List α)):Option ((List α)):=
 (aK (yO br a b) ((aL a 1),h0)).bind fun x813=>some x813
noncomputable def xQ {α:Type} (br:Br α) (first:Int) (s53:Int×(List α)):Int→Option (Int×(List α) ⊕ ((List α) ⊕ (List α))):=fun j115 =>
 (idx s53.2 (aL first s53.1)).bind fun x131=>(idx s53.2 (aL first j115)).bind fun x132=>br _ x131 x132 fun r133=>if (!r133) then (some (.inr (.inr s53.2))) else ((idx s53.2 (aL first j115)).bind fun x142=>(idx s53.2 (aL first s53.1)).bind fun x143=>(idx s53.2 (aL first s53.1)).bind fun x144=>(idx (List.set s53.2 (Int.toNat (aL first s53.1)) x142) (aL first j115)).bind fun x145=>some (.inl (j115,(List.set (List.set s53.2 (Int.toNat (aL first s53.1)) x142) (Int.toNat (aL first j115)) x143))))
noncomputable def Ib {α:Type} (br:Br α) (hi:Int) (first:Int):Int×(List α)→Option (Int×(List α) ⊕ ((List α) ⊕ (List α))):=fun s53 =>
 if (decide ((aL (lZ 2 s53.1) 1) ≥ hi)) then (some (.inr (.inl s53.2))) else ((if (decide ((aL (aL (lZ 2 s53.1) 1) 1)<hi)) then ((idx s53.2 (aL first (aL (lZ 2 s53.1) 1))).bind fun x153=>(idx s53.2 (aL (aL first (aL (lZ 2 s53.1) 1)) 1)).bind fun x154=>br _ x153 x154 fun r155=>some r155) else (some false)).bind fun j152=>if j152 then (xQ br first s53 (aL (aL (lZ 2 s53.1) 1) 1)) else (xQ br first s53 (aL (lZ 2 s53.1) 1)))
noncomputable def Et {α:Type} (br:Br α) (lo:Int) (hi:Int) (first:Int) (h0:(List α)):Option ((List α)):=
 (aK (Ib br hi first) (lo,h0)).bind fun x156=>match x156 with | .inl j157=>some j157 | .inr j158=>some j158
noncomputable def Hz {α:Type} (br:Br α) (a:Int) (b:Int):Int×(List α)→Option (Int×(List α) ⊕ (List α)):=fun s21 =>
 if (decide (s21.1 ≥ 0)) then ((Et br s21.1 (aJ b a) a s21.2).bind fun r29=>some (.inl ((aJ s21.1 1),r29))) else (some (.inr s21.2))
noncomputable def Ia {α:Type} (br:Br α) (a:Int):Int×(List α)→Option (Int×(List α) ⊕ (List α)):=fun s60 =>
 if (decide (s60.1 ≥ 0)) then ((idx s60.2 (aL a s60.1)).bind fun x111=>(idx s60.2 a).bind fun x112=>(idx s60.2 a).bind fun x113=>(idx (List.set s60.2 (Int.toNat a) x111) (aL a s60.1)).bind fun x114=>(Et br 0 s60.1 a (List.set (List.set s60.2 (Int.toNat a) x111) (Int.toNat (aL a s60.1)) x112)).bind fun r116=>some (.inl ((aJ s60.1 1),r116))) else (some (.inr s60.2))
noncomputable def Qv {α:Type} (br:Br α) (a:Int) (b:Int) (h0:(List α)):Option ((List α)):=
 (aK (Hz br a b) ((yP (aJ (aJ b a) 1) 2),h0)).bind fun x30=>(aK (Ia br a) ((aJ (aJ b a) 1),x30)).bind fun x117=>some x117
noncomputable def uY {α:Type} (br:Br α) (a:Int) (s34:Int×Int×(List α)):Int→Option (Int×Int×(List α) ⊕ (List α)):=fun j82 =>
 (idx s34.2.2 (aL a j82)).bind fun x91=>(idx s34.2.2 s34.1).bind fun x92=>(idx s34.2.2 s34.1).bind fun x93=>(idx (List.set s34.2.2 (Int.toNat s34.1) x91) (aL a j82)).bind fun x94=>some (.inl ((aL s34.1 1),(kI .u64 (kI .u64 (kI .u64 s34.2.1 (IntKind.wrap .u64 (s34.2.1*2^(min (Int.toNat 13) 64)))) (Int.fdiv (kI .u64 s34.2.1 (IntKind.wrap .u64 (s34.2.1*2^(min (Int.toNat 13) 64)))) (2^(min (Int.toNat 7) 64)))) (IntKind.wrap .u64 ((kI .u64 (kI .u64 s34.2.1 (IntKind.wrap .u64 (s34.2.1*2^(min (Int.toNat 13) 64)))) (Int.fdiv (kI .u64 s34.2.1 (IntKind.wrap .u64 (s34.2.1*2^(min (Int.toNat 13) 64)))) (2^(min (Int.toNat 7) 64))))*2^(min (Int.toNat 17) 64)))),(List.set (List.set s34.2.2 (Int.toNat s34.1) x91) (Int.toNat (aL a j82)) x92)))
noncomputable def yN {α:Type} (br:Br α) (a:Int) (b:Int) (r2:Int):Int×Int×(List α)→Option (Int×Int×(List α) ⊕ (List α)):=fun s34 =>
 if (decide (s34.1≤(aL (aL a (lZ (yP (aJ b a) 4) 2)) 1))) then ((Np s34.2.1).bind fun r81=>if (decide ((IntKind.wrap .i64 (Wn .u64 r81 (IntKind.wrap .u64 (r2-1)))) ≥ (aJ b a))) then (uY br a s34 (aJ (IntKind.wrap .i64 (Wn .u64 r81 (IntKind.wrap .u64 (r2-1)))) (aJ b a))) else (uY br a s34 (IntKind.wrap .i64 (Wn .u64 r81 (IntKind.wrap .u64 (r2-1)))))) else (some (.inr s34.2.2))
noncomputable def Dm {α:Type} (br:Br α) (a:Int) (b:Int) (h0:(List α)):Option ((List α)):=
 if (decide ((aJ b a) ≥ 8)) then ((Bj (aJ b a)).bind fun r2=>(aK (yN br a b r2) ((aJ (aL a (lZ (yP (aJ b a) 4) 2)) 1),(IntKind.wrap .u64 (aJ b a)),h0)).bind fun x95=>some x95) else (some h0)
noncomputable def Nn {α:Type} (br:Br α) (data:(List α)) (a:Int) (b:Int) (h0_0:Int):Option (Int×Int×Int):=
 (idx data b).bind fun x16=>(idx data a).bind fun x17=>br _ x16 x17 fun r18=>if r18 then (some (b,a,(aL h0_0 1))) else (some (a,b,h0_0))
noncomputable def Sn {α:Type} (br:Br α) (data:(List α)) (a:Int) (b:Int) (c:Int) (h0_0:Int):Option (Int×Int):=
 (Nn br data a b h0_0).bind fun r2=>(Nn br data r2.2.1 c r2.2.2).bind fun r4=>(Nn br data r2.1 r4.1 r4.2.2).bind fun r6=>some (r6.2.1,r6.2.2)
noncomputable def tH {α:Type} (br:Br α) (data:(List α)) (a:Int) (h0_0:Int):Option (Int×Int):=
 (Sn br data (aJ a 1) a (aL a 1) h0_0).bind fun r2=>some (r2.1,r2.2)
noncomputable def xA {α:Type} (br:Br α):(Int×Int)→Option (Int×Int):=fun j16 =>
 if (j16.2==0) then (some (j16.1,1)) else (if (j16.2==12) then (some (j16.1,2)) else (some (j16.1,0)))
noncomputable def xB {α:Type} (br:Br α) (data:(List α)):(Int×Int×Int×Int)→Option (Int×Int):=fun j23 =>
 (Sn br data j23.1 j23.2.1 j23.2.2.1 j23.2.2.2).bind fun r25=>xA br (r25.1,r25.2)
noncomputable def Hy {α:Type} (br:Br α) (data:(List α)) (a:Int) (b:Int):Option (Int×Int):=
 if (decide ((aJ b a) ≥ 8)) then (if (decide ((aJ b a) ≥ 50)) then ((tH br data (aL a (lZ (yP (aJ b a) 4) 1)) 0).bind fun r27=>(tH br data (aL a (lZ (yP (aJ b a) 4) 2)) r27.2).bind fun r29=>(tH br data (aL a (lZ (yP (aJ b a) 4) 3)) r29.2).bind fun r31=>xB br data (r27.1,r29.1,r31.1,r31.2)) else (xB br data ((aL a (lZ (yP (aJ b a) 4) 1)),(aL a (lZ (yP (aJ b a) 4) 2)),(aL a (lZ (yP (aJ b a) 4) 3)),0))) else (xA br ((aL a (lZ (yP (aJ b a) 4) 2)),0))
noncomputable def Am {α:Type} (br:Br α):Int×Int×(List α)→Option (Int×Int×(List α) ⊕ (List α)):=fun s14 =>
 if (decide (s14.1<s14.2.1)) then ((idx s14.2.2 s14.2.1).bind fun x35=>(idx s14.2.2 s14.1).bind fun x36=>(idx s14.2.2 s14.1).bind fun x37=>(idx (List.set s14.2.2 (Int.toNat s14.1) x35) s14.2.1).bind fun x38=>some (.inl ((aL s14.1 1),(aJ s14.2.1 1),(List.set (List.set s14.2.2 (Int.toNat s14.1) x35) (Int.toNat s14.2.1) x36)))) else (some (.inr s14.2.2))
noncomputable def Fa {α:Type} (br:Br α) (a:Int) (b:Int) (h0:(List α)):Option ((List α)):=
 (aK (Am br) (a,(aJ b 1),h0)).bind fun x39=>some x39
noncomputable def rA {α:Type} (br:Br α) (s5515:Int×Int×(List α)):Int×(List α)→Option (Int×Int×(List α) ⊕ (Bool×(List α) ⊕ (List α))):=fun j7581 =>
 some (.inl (j7581.1,(aL s5515.2.1 1),j7581.2))
noncomputable def lK {α:Type} (br:Br α) (b:Int) (s5515:Int×Int×(List α)):Int→Option (Int ⊕ Int):=fun s7666 =>
 (if (decide (s7666<b)) then ((idx s5515.2.2 s7666).bind fun x7704=>(idx s5515.2.2 (aJ s7666 1)).bind fun x7705=>br _ x7704 x7705 fun r7706=>some (!r7706)) else (some false)).bind fun j7703=>if j7703 then (some (.inl (aL s7666 1))) else (some (.inr s7666))
noncomputable def lL {α:Type} (br:Br α) (b:Int):Int×(List α)→Option (Int×(List α) ⊕ (List α)):=fun s7965 =>
 if (decide (s7965.1<b)) then ((idx s7965.2 s7965.1).bind fun x8071=>(idx s7965.2 (aJ s7965.1 1)).bind fun x8072=>br _ x8071 x8072 fun r8073=>if (!r8073) then (some (.inr s7965.2)) else ((idx s7965.2 (aJ s7965.1 1)).bind fun x8082=>(idx s7965.2 s7965.1).bind fun x8083=>(idx s7965.2 s7965.1).bind fun x8084=>(idx (List.set s7965.2 (Int.toNat s7965.1) x8082) (aJ s7965.1 1)).bind fun x8085=>some (.inl ((aL s7965.1 1),(List.set (List.set s7965.2 (Int.toNat s7965.1) x8082) (Int.toNat (aJ s7965.1 1)) x8083))))) else (some (.inr s7965.2))
noncomputable def lJ {α:Type} (br:Br α) (b:Int) (s5515:Int×Int×(List α)) (x7707:Int):(List α)→Option (Int×Int×(List α) ⊕ (Bool×(List α) ⊕ (List α))):=fun j7903 =>
 if (decide ((aJ b x7707) ≥ 2)) then ((aK (lL br b) ((aL x7707 1),j7903)).bind fun x8086=>rA br s5515 (x7707,x8086)) else (rA br s5515 (x7707,j7903))
noncomputable def lM {α:Type} (br:Br α):Int×(List α)→Option (Int×(List α) ⊕ (List α)):=fun s8148 =>
 if (decide (s8148.1 ≥ 1)) then ((idx s8148.2 s8148.1).bind fun x8254=>(idx s8148.2 (aJ s8148.1 1)).bind fun x8255=>br _ x8254 x8255 fun r8256=>if (!r8256) then (some (.inr s8148.2)) else ((idx s8148.2 (aJ s8148.1 1)).bind fun x8265=>(idx s8148.2 s8148.1).bind fun x8266=>(idx s8148.2 s8148.1).bind fun x8267=>(idx (List.set s8148.2 (Int.toNat s8148.1) x8265) (aJ s8148.1 1)).bind fun x8268=>some (.inl ((aJ s8148.1 1),(List.set (List.set s8148.2 (Int.toNat s8148.1) x8265) (Int.toNat (aJ s8148.1 1)) x8266))))) else (some (.inr s8148.2))
noncomputable def rD {α:Type} (br:Br α) (a:Int) (b:Int):Int×Int×(List α)→Option (Int×Int×(List α) ⊕ (Bool×(List α) ⊕ (List α))):=fun s5515 =>
 if (decide (s5515.2.1<5)) then ((aK (lK br b s5515) s5515.1).bind fun x7707=>if (x7707==b) then (some (.inr (.inl (true,s5515.2.2)))) else (if (decide ((aJ b a)<50)) then (some (.inr (.inl (false,s5515.2.2)))) else ((idx s5515.2.2 (aJ x7707 1)).bind fun x7716=>(idx s5515.2.2 x7707).bind fun x7717=>(idx s5515.2.2 x7707).bind fun x7718=>(idx (List.set s5515.2.2 (Int.toNat x7707) x7716) (aJ x7707 1)).bind fun x7719=>if (decide ((aJ x7707 a) ≥ 2)) then ((aK (lM br) ((aJ x7707 1),(List.set (List.set s5515.2.2 (Int.toNat x7707) x7716) (Int.toNat (aJ x7707 1)) x7717))).bind fun x8269=>lJ br b s5515 x7707 x8269) else (lJ br b s5515 x7707 (List.set (List.set s5515.2.2 (Int.toNat x7707) x7716) (Int.toNat (aJ x7707 1)) x7717))))) else (some (.inr (.inr s5515.2.2)))
noncomputable def vH {α:Type} (br:Br α) (a:Int) (b:Int) (h0:(List α)):Option (Bool×(List α)):=
 (aK (rD br a b) ((aL a 1),0,h0)).bind fun x8270=>match x8270 with | .inl j8271=>some (j8271.1,j8271.2) | .inr j8272=>some (false,j8272)
noncomputable def tJ {α:Type} (br:Br α) (a:Int) (s1073:Int×Int×(List α)):Int→Option (Int ⊕ Int):=fun s1422 =>
 (if (decide (s1422≤s1073.2.1)) then ((idx s1073.2.2 a).bind fun x1460=>(idx s1073.2.2 s1422).bind fun x1461=>br _ x1460 x1461 fun r1462=>some (!r1462)) else (some false)).bind fun j1459=>if j1459 then (some (.inl (aL s1422 1))) else (some (.inr s1422))
noncomputable def tK {α:Type} (br:Br α) (a:Int) (s1073:Int×Int×(List α)) (x1463:Int):Int→Option (Int ⊕ Int):=fun s1548 =>
 (if (decide (x1463≤s1548)) then ((idx s1073.2.2 a).bind fun x1586=>(idx s1073.2.2 s1548).bind fun x1587=>br _ x1586 x1587 fun r1588=>some r1588) else (some false)).bind fun j1585=>if j1585 then (some (.inl (aJ s1548 1))) else (some (.inr s1548))
noncomputable def xP {α:Type} (br:Br α) (a:Int):Int×Int×(List α)→Option (Int×Int×(List α) ⊕ Int×(List α)):=fun s1073 =>
 (aK (tJ br a s1073) s1073.1).bind fun x1463=>(aK (tK br a s1073 x1463) s1073.2.1).bind fun x1589=>if (decide (x1463>x1589)) then (some (.inr (x1463,s1073.2.2))) else ((idx s1073.2.2 x1589).bind fun x1598=>(idx s1073.2.2 x1463).bind fun x1599=>(idx s1073.2.2 x1463).bind fun x1600=>(idx (List.set s1073.2.2 (Int.toNat x1463) x1598) x1589).bind fun x1601=>some (.inl ((aL x1463 1),(aJ x1589 1),(List.set (List.set s1073.2.2 (Int.toNat x1463) x1598) (Int.toNat x1589) x1599))))
noncomputable def Bl {α:Type} (br:Br α) (a:Int) (b:Int) (pivot:Int) (h0:(List α)):Option (Int×(List α)):=
 (idx h0 pivot).bind fun x9=>(idx h0 a).bind fun x10=>(idx h0 a).bind fun x11=>(idx (List.set h0 (Int.toNat a) x9) pivot).bind fun x12=>(aK (xP br a) ((aL a 1),(aJ b 1),(List.set (List.set h0 (Int.toNat a) x9) (Int.toNat pivot) x10))).bind fun x1602=>some (x1602.1,x1602.2)
noncomputable def Ab {α:Type} (br:Br α) (a:Int) (b:Int) (pivot:Int) (h0:(List α)) (x9:α) (x10:α):Int→Option (Int ⊕ Int):=fun s97 =>
 (if (decide (s97≤(aJ b 1))) then ((idx (List.set (List.set h0 (Int.toNat a) x9) (Int.toNat pivot) x10) s97).bind fun x135=>(idx (List.set (List.set h0 (Int.toNat a) x9) (Int.toNat pivot) x10) a).bind fun x136=>br _ x135 x136 fun r137=>some r137) else (some false)).bind fun j134=>if j134 then (some (.inl (aL s97 1))) else (some (.inr s97))
noncomputable def Ac {α:Type} (br:Br α) (a:Int) (pivot:Int) (h0:(List α)) (x9:α) (x10:α) (x138:Int):Int→Option (Int ⊕ Int):=fun s223 =>
 (if (decide (x138≤s223)) then ((idx (List.set (List.set h0 (Int.toNat a) x9) (Int.toNat pivot) x10) s223).bind fun x261=>(idx (List.set (List.set h0 (Int.toNat a) x9) (Int.toNat pivot) x10) a).bind fun x262=>br _ x261 x262 fun r263=>some (!r263)) else (some false)).bind fun j260=>if j260 then (some (.inl (aJ s223 1))) else (some (.inr s223))
noncomputable def Ad {α:Type} (br:Br α) (a:Int) (s1361:Int×Int×(List α)):Int→Option (Int ⊕ Int):=fun s1710 =>
 (if (decide (s1710≤s1361.2.1)) then ((idx s1361.2.2 s1710).bind fun x1748=>(idx s1361.2.2 a).bind fun x1749=>br _ x1748 x1749 fun r1750=>some r1750) else (some false)).bind fun j1747=>if j1747 then (some (.inl (aL s1710 1))) else (some (.inr s1710))
noncomputable def Ae {α:Type} (br:Br α) (a:Int) (s1361:Int×Int×(List α)) (x1751:Int):Int→Option (Int ⊕ Int):=fun s1836 =>
 (if (decide (x1751≤s1836)) then ((idx s1361.2.2 s1836).bind fun x1874=>(idx s1361.2.2 a).bind fun x1875=>br _ x1874 x1875 fun r1876=>some (!r1876)) else (some false)).bind fun j1873=>if j1873 then (some (.inl (aJ s1836 1))) else (some (.inr s1836))
noncomputable def Af {α:Type} (br:Br α) (a:Int):Int×Int×(List α)→Option (Int×Int×(List α) ⊕ Int×(List α)):=fun s1361 =>
 (aK (Ad br a s1361) s1361.1).bind fun x1751=>(aK (Ae br a s1361 x1751) s1361.2.1).bind fun x1877=>if (decide (x1751>x1877)) then (some (.inr (x1877,s1361.2.2))) else ((idx s1361.2.2 x1877).bind fun x1886=>(idx s1361.2.2 x1751).bind fun x1887=>(idx s1361.2.2 x1751).bind fun x1888=>(idx (List.set s1361.2.2 (Int.toNat x1751) x1886) x1877).bind fun x1889=>some (.inl ((aL x1751 1),(aJ x1877 1),(List.set (List.set s1361.2.2 (Int.toNat x1751) x1886) (Int.toNat x1877) x1887))))
noncomputable def Gg {α:Type} (br:Br α) (a:Int) (b:Int) (pivot:Int) (h0:(List α)):Option (Int×Bool×(List α)):=
 (idx h0 pivot).bind fun x9=>(idx h0 a).bind fun x10=>(idx h0 a).bind fun x11=>(idx (List.set h0 (Int.toNat a) x9) pivot).bind fun x12=>(aK (Ab br a b pivot h0 x9 x10) (aL a 1)).bind fun x138=>(aK (Ac br a pivot h0 x9 x10 x138) (aJ b 1)).bind fun x264=>if (decide (x138>x264)) then ((idx (List.set (List.set h0 (Int.toNat a) x9) (Int.toNat pivot) x10) a).bind fun x285=>(idx (List.set (List.set h0 (Int.toNat a) x9) (Int.toNat pivot) x10) x264).bind fun x286=>(idx (List.set (List.set h0 (Int.toNat a) x9) (Int.toNat pivot) x10) x264).bind fun x287=>(idx (List.set (List.set (List.set h0 (Int.toNat a) x9) (Int.toNat pivot) x10) (Int.toNat x264) x285) a).bind fun x288=>some (x264,true,(List.set (List.set (List.set (List.set h0 (Int.toNat a) x9) (Int.toNat pivot) x10) (Int.toNat x264) x285) (Int.toNat a) x286))) else ((idx (List.set (List.set h0 (Int.toNat a) x9) (Int.toNat pivot) x10) x264).bind fun x297=>(idx (List.set (List.set h0 (Int.toNat a) x9) (Int.toNat pivot) x10) x138).bind fun x298=>(idx (List.set (List.set h0 (Int.toNat a) x9) (Int.toNat pivot) x10) x138).bind fun x299=>(idx (List.set (List.set (List.set h0 (Int.toNat a) x9) (Int.toNat pivot) x10) (Int.toNat x138) x297) x264).bind fun x300=>(aK (Af br a) ((aL x138 1),(aJ x264 1),(List.set (List.set (List.set (List.set h0 (Int.toNat a) x9) (Int.toNat pivot) x10) (Int.toNat x138) x297) (Int.toNat x264) x298))).bind fun x1890=>(idx x1890.2 a).bind fun x1899=>(idx x1890.2 x1890.1).bind fun x1900=>(idx x1890.2 x1890.1).bind fun x1901=>(idx (List.set x1890.2 (Int.toNat x1890.1) x1899) a).bind fun x1902=>some (x1890.1,false,(List.set (List.set x1890.2 (Int.toNat x1890.1) x1899) (Int.toNat a) x1900)))
noncomputable def yR {α:Type} (br:Br α) (self:Int→Int→Int→(List α)→Option ((List α))) (s59:Int×Int×Int×Bool×Bool×(List α)) (j127:Int×(List α)) (j132:Int×Int×(List α)):Bool×Bool×(List α)→Option (Int×Int×Int×Bool×Bool×(List α) ⊕ (List α)):=fun j136 =>
 (if (decide (s59.1>0)) then ((idx j136.2.2 (aJ s59.1 1)).bind fun x156=>(idx j136.2.2 j132.1).bind fun x157=>br _ x156 x157 fun r158=>some (!r158)) else (some false)).bind fun j155=>if j155 then ((Bl br s59.1 s59.2.1 j132.1 j136.2.2).bind fun r160=>some (.inl (r160.1,s59.2.1,j127.1,j136.1,j136.2.1,r160.2))) else ((Gg br s59.1 s59.2.1 j132.1 j136.2.2).bind fun r162=>if (decide ((aJ r162.1 s59.1)<(aJ s59.2.1 r162.1))) then ((self s59.1 r162.1 j127.1 r162.2.2).bind fun r164=>some (.inl ((aL r162.1 1),s59.2.1,j127.1,(decide ((aJ r162.1 s59.1) ≥ (yP (aJ s59.2.1 s59.1) 8))),r162.2.1,r164))) else ((self (aL r162.1 1) s59.2.1 j127.1 r162.2.2).bind fun r166=>some (.inl (s59.1,r162.1,j127.1,(decide ((aJ s59.2.1 r162.1) ≥ (yP (aJ s59.2.1 s59.1) 8))),r162.2.1,r166))))
noncomputable def yS {α:Type} (br:Br α) (self:Int→Int→Int→(List α)→Option ((List α))) (s59:Int×Int×Int×Bool×Bool×(List α)) (j127:Int×(List α)):Int×Int×(List α)→Option (Int×Int×Int×Bool×Bool×(List α) ⊕ (List α)):=fun j132 =>
 (if s59.2.2.2.1 then (if s59.2.2.2.2.1 then (some (true,true,(j132.2.1==1))) else (some (true,false,false))) else (some (false,s59.2.2.2.2.1,false))).bind fun j167=>if j167.2.2 then ((vH br s59.1 s59.2.1 j132.2.2).bind fun r169=>if r169.1 then (some (.inr r169.2)) else (yR br self s59 j127 j132 (j167.1,j167.2.1,r169.2))) else (yR br self s59 j127 j132 (j167.1,j167.2.1,j132.2.2))
noncomputable def yT {α:Type} (br:Br α) (self:Int→Int→Int→(List α)→Option ((List α))) (s59:Int×Int×Int×Bool×Bool×(List α)):Int×(List α)→Option (Int×Int×Int×Bool×Bool×(List α) ⊕ (List α)):=fun j127 =>
 (Hy br j127.2 s59.1 s59.2.1).bind fun r129=>if (r129.2==2) then ((Fa br s59.1 s59.2.1 j127.2).bind fun r171=>yS br self s59 j127 ((aJ (aJ s59.2.1 1) (aJ r129.1 s59.1)),1,r171)) else (yS br self s59 j127 (r129.1,r129.2,j127.2))
noncomputable def Eh {α:Type} (br:Br α) (self:Int→Int→Int→(List α)→Option ((List α))):Int×Int×Int×Bool×Bool×(List α)→Option (Int×Int×Int×Bool×Bool×(List α) ⊕ (List α)):=fun s59 =>
 if (decide ((aJ s59.2.1 s59.1)≤12)) then ((Dn br s59.1 s59.2.1 s59.2.2.2.2.2).bind fun r120=>some (.inr r120)) else (if (s59.2.2.1==0) then ((Qv br s59.1 s59.2.1 s59.2.2.2.2.2).bind fun r124=>some (.inr r124)) else (if (!s59.2.2.2.1) then ((Dm br s59.1 s59.2.1 s59.2.2.2.2.2).bind fun r173=>yT br self s59 ((aJ s59.2.2.1 1),r173)) else (yT br self s59 (s59.2.2.1,s59.2.2.2.2.2))))
noncomputable def wT {α:Type} (br:Br α) (self:Int→Int→Int→(List α)→Option ((List α))) (a:Int) (b:Int) (limit:Int) (h0:(List α)):Option ((List α)):=
 (aK (Eh br self) (a,b,limit,true,true,h0)).bind fun x174=>some x174
noncomputable def tL {α:Type} (br:Br α):Nat→Int→Int→Int→(List α)→Option ((List α))
 | 0=>fun _ _ _ _=>none
 | n+1=>wT br (tL br n)
noncomputable def CP {α:Type} (br:Br α) (a:Int) (b:Int) (limit:Int) (h0:(List α)):Option ((List α)):=tL br 1000 a b limit h0
noncomputable def Qu {α:Type} (br:Br α) (h0:(List α)):Option ((List α)):=
 (Jv (IntKind.wrap .u64 (h0.length:Int))).bind fun r3=>(CP br 0 (h0.length:Int) r3 h0).bind fun r4=>some r4
end Go.SM
namespace Go.SM
open Go Go.VI
structure Fine {α:Type} (P:α→Prop) (d:α) (l:List α):Prop where
 len:(l.length:Int)≤1073741824
 all:∀ k:Int,0≤k→k<l.length→P (gz d l k)
theorem Fine.on {α:Type} {P:α→Prop} {d:α} {a b:Int} {l l':List α} (h:Fine P d l) (ho:On d a b l l'):Fine P d l':=by
 induction ho with
 | refl=>exact h
 | step ho i j hi hi' hj hj' ha hb ih =>
   refine ⟨by rw [EH];exact ih.len,fun k h1 h2=>?_⟩
   rw [EH] at h2
   rw [tO d (by omega) (by omega) h1 (by omega) (by omega)]
   split
   ·exact ih.all _ (by omega) (by omega)
   ·split
    ·exact ih.all _ (by omega) (by omega)
    ·exact ih.all _ h1 h2
section
variable {α:Type} {br:Br α} {lt:α→α→Bool} {P:α→Prop} {d:α} (hbr:∀ (β:Type) (x y:α) (k:Bool→Option β),P x→P y→br β x y k=k (lt x y)) (w:Zk lt)
include hbr w
theorem TP {a i:Int} {l0:List α} (ha:0≤a) (hi:a<i) (hil:i<l0.length) (hf0:Fine P d l0) (h0:Asc d lt a i l0) :
  ∃ l',aK (uZ br a) (i,l0)=some l'∧On d a (i+1) l0 l'∧Asc d lt a (i+1) l':=by
 refine nP (fun s=>(s.1-a).toNat) (fun s=>a≤s.1∧s.1≤i∧On d a (i+1) l0 s.2∧∀ p q:Int,a≤p→p<q→q≤i→q≠s.1→lt (gz d s.2 q) (gz d s.2 p)=false)
  (fun l'=>On d a (i+1) l0 l'∧Asc d lt a (i+1) l') (uZ br a) ?_ (i,l0) ⟨by omega,Int.le_refl _,.refl _,fun p q h1 h2 h3 h4=>h0 p q h1 h2 (by simp only at h4;omega)⟩
 rintro ⟨j,l⟩ ⟨h1,h2,hon,hI⟩
 simp only at h1 h2 hon hI ⊢
 have hf:=hf0.on hon
 have hl:=hon.len
 have hL:=hf.len
 unfold uZ
 by_cases hja:j>a
 ·cases hc:lt (gz d l j) (gz d l (j-1)) with
  | true =>
    left
    refine ⟨(j-1,sw d l j (j-1)), ?_,⟨by simp only;omega,by simp only;omega,.step hon j (j-1) (by omega) (by omega) (by omega) (by omega) ha (by omega), ?_⟩,by simp only;omega⟩
    ·simp (disch:=first | omega | (simp only [List.length_set];omega) | (refine hf.all _ ?_ ?_ <;> omega)) only [hja,decide_true,if_true,bA,jM d,Option.bind_some,hbr,hc]
     rfl
    ·simp only
     intro p q p1 p2 p3 p4
     rw [tO d (by omega) (by omega) (by omega) (by omega) (by omega),tO d (by omega) (by omega) (by omega) (by omega) (by omega)]
     rw [if_neg p4]
     by_cases e1:q=j
     ·rw [if_pos e1]
      by_cases e2:p=j-1
      ·rw [if_pos e2];exact w.asymm _ _ hc
      ·rw [if_neg e2,if_neg (by omega)]
       exact hI p (j-1) (by omega) (by omega) (by omega) (by omega)
     ·rw [if_neg e1]
      by_cases e2:p=j-1
      ·rw [if_pos e2];exact hI j q (by omega) (by omega) p3 e1
      ·rw [if_neg e2]
       by_cases e3:p=j
       ·rw [if_pos e3];exact hI (j-1) q (by omega) (by omega) p3 e1
       ·rw [if_neg e3];exact hI p q p1 p2 p3 e1
  | false =>
    right
    refine ⟨l, ?_,hon, ?_⟩
    ·simp (disch:=first | omega | (simp only [List.length_set];omega) | (refine hf.all _ ?_ ?_ <;> omega)) only [hja,decide_true,if_true,bA,jM d,Option.bind_some,hbr,hc,Bool.false_eq_true,if_false]
    ·intro p q p1 p2 p3
     by_cases e1:q=j
     ·subst e1
      by_cases e2:p=q-1
      ·subst e2;exact hc
      ·exact w.le_trans (hI p (q-1) p1 (by omega) (by omega) (by omega)) hc
     ·exact hI p q p1 p2 (by omega) e1
 ·right
  refine ⟨l, ?_,hon, ?_⟩
  ·simp only [hja,decide_false,Bool.false_eq_true,if_false,Option.bind_some]
  ·intro p q p1 p2 p3
   exact hI p q p1 p2 (by omega) (by omega)
theorem Xx {a b:Int} {l0:List α} (ha:0≤a) (hab:a≤b) (hb:b≤l0.length) (hf0:Fine P d l0) :
  ∃ l',Dn br a b l0=some l'∧On d a b l0 l'∧Asc d lt a b l':=by
 have hL:=hf0.len
 obtain ⟨l',h1,h2,h3⟩:=nP (fun s=>(b-s.1).toNat) (fun s=>a<s.1∧On d a b l0 s.2∧Asc d lt a (min s.1 b) s.2)
  (fun l'=>On d a b l0 l'∧Asc d lt a b l') (yO br a b) (by
   rintro ⟨i,l⟩ ⟨h1,hon,hI⟩
   simp only at h1 hon hI ⊢
   have hf:=hf0.on hon
   have hl:=hon.len
   unfold yO
   by_cases hib:i<b
   ·left
    obtain ⟨l',q1,q2,q3⟩:=TP hbr w ha h1 (by omega) hf (by rwa [Int.min_eq_left (by omega)] at hI)
    refine ⟨(i+1,l'), ?_,⟨by simp only;omega,hon.trans d (q2.mono d ha (Int.le_refl _) (by omega) (by omega)), ?_⟩,by simp only;omega⟩
    ·simp (disch:=omega) only [hib,decide_true,if_true,q1,Option.bind_some,aS]
    ·simp only
     rw [Int.min_eq_left (by omega)];exact q3
   ·right
    refine ⟨l, ?_,hon, ?_⟩
    ·simp only [hib,decide_false,Bool.false_eq_true,if_false]
    ·rwa [Int.min_eq_right (by omega)] at hI) (a+1,l0) ⟨by simp only;omega,.refl _,fun p q p1 p2 p3=>by simp only at p3;omega⟩
 refine ⟨l', ?_,h2,h3⟩
 unfold Dn
 simp (disch:=omega) only [aS,h1,Option.bind_some]
end
end Go.SM
namespace Go.SM
open Go Go.VI
def Tt {α:Type} (d:α) (lt:α→α→Bool) (first lo hi:Int) (r:Int) (l:List α):Prop:=∀ p c:Int,lo≤p→p≠r→c<hi→(c=2*p+1∨c=2*p+2)→lt (gz d l (first+p)) (gz d l (first+c))=false
section
variable {α:Type} {br:Br α} {lt:α→α→Bool} {P:α→Prop} {d:α} (hbr:∀ (β:Type) (x y:α) (k:Bool→Option β),P x→P y→br β x y k=k (lt x y)) (w:Zk lt)
include w
theorem XJ {first hi:Int} {l:List α} (h:Tt d lt first 0 hi (-1) l):∀ n:Nat,∀ c:Int,0≤c→c≤n→c<hi→lt (gz d l first) (gz d l (first+c))=false:=by
 intro n
 induction n with
 | zero => intro c h1 h2 h3;obtain rfl:c = 0 := by omega
           rw [Int.add_zero];exact w.irrefl _
 | succ n ih =>
   intro c h1 h2 h3
   by_cases e:c=0
   ·subst e;rw [Int.add_zero];exact w.irrefl _
   ·have e1:=ih ((c-1) / 2) (by omega) (by omega) (by omega)
    have e2:=h ((c-1) / 2) c (by omega) (by omega) h3 (by omega)
    exact w.le_trans e2 e1
include hbr
theorem Zf {first lo hi:Int} {l0:List α} (h1:0≤first) (h2:0≤lo) (h3:first+hi≤l0.length) (hf0:Fine P d l0) (h0:Tt d lt first lo hi lo l0) (hlo:lo≤l0.length) :
  ∃ l',Et br lo hi first l0=some l'∧On d (first+lo) (first+hi) l0 l'∧Tt d lt first lo hi (-1) l':=by
 have hL:=hf0.len
 obtain ⟨r,q1,q2⟩:=nP (fun s:Int×List α=>(hi-s.1).toNat)
  (fun s:Int×List α=>lo≤s.1∧s.1≤(l0.length:Int)∧On d (first+lo) (first+hi) l0 s.2∧Tt d lt first lo hi s.1 s.2∧∀ p c:Int,lo≤p→(s.1=2*p+1∨s.1=2*p+2)→(c=2*s.1+1∨c=2*s.1+2)→c<hi→lt (gz d s.2 (first+p)) (gz d s.2 (first+c))=false)
  (fun r:List α ⊕ List α=>∃ l',(r=.inl l'∨r=.inr l')∧On d (first+lo) (first+hi) l0 l'∧Tt d lt first lo hi (-1) l') (Ib br hi first) (by
   rintro ⟨r,l⟩ ⟨i1,i2,hon,hI,hG⟩
   simp only at i1 i2 hon hI hG ⊢
   have hf:=hf0.on hon
   have hl:=hon.len
   unfold Ib
   have e1:aL (lZ 2 r) 1=2*r+1:=by rw [Su (by omega) (by omega),aS (by omega) (by omega)]
   simp only [e1]
   by_cases hc:2*r+1 ≥ hi
   ·right
    refine ⟨.inl l,by simp only [hc,decide_true,if_true],l,.inl rfl,hon,fun p c p1 p2 p3 p4=>?_⟩
    by_cases e:p=r
    ·omega
    ·exact hI p c p1 e p3 p4
   ·-- the greater child
    have key:∀ ch:Int,(ch=2*r+1∨ch=2*r+2)→ch<hi→(∀ c:Int,(c=2*r+1∨c=2*r+2)→c<hi→lt (gz d l (first+ch)) (gz d l (first+c))=false) →
      (∃ s',xQ br first (r,l) ch=some (.inl s')∧(lo≤s'.1∧s'.1≤l0.length∧On d (first+lo) (first+hi) l0 s'.2∧Tt d lt first lo hi s'.1 s'.2∧∀ p c:Int,lo≤p→(s'.1=2*p+1∨s'.1=2*p+2)→(c=2*s'.1+1∨c=2*s'.1+2)→c<hi→lt (gz d s'.2 (first+p)) (gz d s'.2 (first+c))=false)∧(hi-s'.1).toNat<(hi-r).toNat) ∨
      (∃ x,xQ br first (r,l) ch=some (.inr x)∧∃ l',(x=.inl l'∨x=.inr l')∧On d (first+lo) (first+hi) l0 l'∧Tt d lt first lo hi (-1) l'):=by
     intro ch c1 c2 c3
     have a1:aL first r=first+r:=aS (by omega) (by omega)
     have a2:aL first ch=first+ch:=aS (by omega) (by omega)
     unfold xQ
     cases hlt:lt (gz d l (first+r)) (gz d l (first+ch)) with
     | false =>
       right
       refine ⟨.inr l, ?_,l,.inr rfl,hon,fun p c p1 p2 p3 p4=>?_⟩
       ·simp (disch:=first | omega | (simp only [List.length_set];omega) | (refine hf.all _ ?_ ?_ <;> omega)) only [a1,a2,jM d,Option.bind_some,hbr,hlt,Bool.not_false,if_true]
       ·by_cases e:p=r
        ·subst e;exact w.le_trans (c3 c p4 p3) hlt
        ·exact hI p c p1 e p3 p4
     | true =>
       left
       refine ⟨(ch,sw d l (first+r) (first+ch)), ?_,⟨by simp only;omega,by simp only;omega,.step hon _ _ (by omega) (by omega) (by omega) (by omega) (by omega) (by omega), ?_, ?_⟩,by simp only;omega⟩
       ·simp (disch:=first | omega | (simp only [List.length_set];omega) | (refine hf.all _ ?_ ?_ <;> omega)) only [a1,a2,jM d,Option.bind_some,hbr,hlt,Bool.not_true,Bool.false_eq_true,if_false]
        rfl
       ·intro p c p1 p2 p3 p4
        simp only at p2 ⊢
        rw [tO d (by omega) (by omega) (by omega) (by omega) (by omega),tO d (by omega) (by omega) (by omega) (by omega) (by omega)]
        by_cases e1:p=r
        ·rw [if_neg (by omega),if_pos (by omega)]
         by_cases e2:c=ch
         ·rw [if_pos (by omega)];exact w.asymm _ _ hlt
         ·rw [if_neg (by omega),if_neg (by omega)];exact c3 c (by omega) p3
        ·rw [if_neg (by omega),if_neg (by omega)]
         by_cases e2:c=r
         ·rw [if_neg (by omega),if_pos (by omega)];exact hG p ch p1 (by omega) c1 c2
         ·rw [if_neg (by omega),if_neg (by omega)];exact hI p c p1 e1 p3 p4
       ·intro p c p1 p2 p3 p4
        simp only at p2 p3
        simp only
        obtain rfl:p=r:=by omega
        rw [tO d (by omega) (by omega) (by omega) (by omega) (by omega),tO d (by omega) (by omega) (by omega) (by omega) (by omega)]
        rw [if_neg (by omega),if_pos rfl,if_neg (by omega),if_neg (by omega)]
        exact hI ch c (by omega) (by omega) p4 p3
    have b1:aL first (2*r+1)=first+(2*r+1):=aS (by omega) (by omega)
    have b2:aL (first+(2*r+1)) 1=first+(2*r+2):=by rw [aS (by omega) (by omega)];omega
    have b3:aL (2*r+1) 1=2*r+2:=by rw [aS (by omega) (by omega)];omega
    simp only [hc,decide_false,Bool.false_eq_true,if_false,b1,b2,b3]
    by_cases h2c:2*r+2<hi
    ·cases hcc:lt (gz d l (first+(2*r+1))) (gz d l (first+(2*r+2))) with
     | true =>
       simp (disch:=first | omega | (refine hf.all _ ?_ ?_ <;> omega)) only [h2c,decide_true,if_true,jM d,Option.bind_some,hbr,hcc]
       refine key (2*r+2) (.inr rfl) h2c fun c p1 p2=>?_
       rcases p1 with rfl | rfl
       ·exact w.asymm _ _ hcc
       ·exact w.irrefl _
     | false =>
       simp (disch:=first | omega | (refine hf.all _ ?_ ?_ <;> omega)) only [h2c,decide_true,if_true,jM d,Option.bind_some,hbr,hcc,Bool.false_eq_true,if_false]
       refine key (2*r+1) (.inl rfl) (by omega) fun c p1 p2=>?_
       rcases p1 with rfl | rfl
       ·exact w.irrefl _
       ·exact hcc
    ·simp only [h2c,decide_false,Bool.false_eq_true,if_false,Option.bind_some]
     refine key (2*r+1) (.inl rfl) (by omega) fun c p1 p2=>?_
     obtain rfl:c=2*r+1:=by omega
     exact w.irrefl _) (lo,l0) ⟨Int.le_refl _,hlo,.refl _,h0,fun p c p1 p2=>by simp only at p2;omega⟩
 obtain ⟨l',hr,q3,q4⟩:=q2
 refine ⟨l', ?_,q3,q4⟩
 unfold Et
 rw [q1]
 rcases hr with rfl | rfl <;> rfl
theorem LM {a b:Int} {l0:List α} (ha:0≤a) (hab:a≤b) (hb:b≤l0.length) (hf0:Fine P d l0) :
  ∃ l',Qv br a b l0=some l'∧On d a b l0 l'∧Asc d lt a b l':=by
 have hL:=hf0.len
 have s1:aJ b a=b-a:=bA (by omega) (by omega)
 have s2:aJ (b-a) 1=b-a-1:=bA (by omega) (by omega)
 have ht:0≤(b-a-1).tdiv 2∧(b-a-1).tdiv 2≤b-a∧b-a-1<2*(b-a-1).tdiv 2+2:=by
  by_cases h:0≤b-a-1
  ·rw [Int.tdiv_eq_ediv_of_nonneg h];omega
  ·rw [show b-a-1=-1 from by omega,show Int.tdiv (-1) 2=0 from rfl];omega
 have s3:yP (b-a-1) 2=(b-a-1).tdiv 2:=Jz _ (by omega) (by omega)
 obtain ⟨l1,q1,q2,q3⟩:=nP (fun s:Int×List α=>(s.1+1).toNat) (fun s:Int×List α=>-1≤s.1∧s.1≤b-a∧On d a b l0 s.2∧Tt d lt a (s.1+1) (b-a) (-1) s.2)
  (fun l'=>On d a b l0 l'∧Tt d lt a 0 (b-a) (-1) l') (Hz br a b) (by
   rintro ⟨i,l⟩ ⟨i1,i2,hon,hI⟩
   simp only at i1 i2 hon hI ⊢
   have hf:=hf0.on hon
   have hl:=hon.len
   unfold Hz
   by_cases hi:i ≥ 0
   ·left
    obtain ⟨l',p1,p2,p3⟩:=Zf hbr w (first:=a) (lo:=i) (hi:=b-a) ha hi (by omega) hf (fun p c c1 c2 c3 c4=>hI p c (by omega) (by omega) c3 c4) (by omega)
    refine ⟨(i-1,l'), ?_,⟨by simp only;omega,by simp only;omega,hon.trans d (p2.mono d ha (by omega) (by omega) (by omega)), ?_⟩,by simp only;omega⟩
    ·simp (disch:=omega) only [hi,decide_true,if_true,s1,p1,Option.bind_some,bA]
    ·simp only
     rw [show i-1+1=i from by omega];exact p3
   ·right
    refine ⟨l,by simp only [hi,decide_false,Bool.false_eq_true,if_false],hon, ?_⟩
    rwa [show i+1=0 from by omega] at hI) ((b-a-1).tdiv 2,l0) ⟨by simp only;omega,by simp only;omega,.refl _,fun p c p1 p2 p3 p4=>by simp only at p1;omega⟩
 have hl1:=q2.len
 obtain ⟨l2,r1,r2,r3⟩:=nP (fun s:Int×List α=>(s.1+1).toNat)
  (fun s:Int×List α=>-1≤s.1∧s.1<b-a∧On d a b l0 s.2∧Tt d lt a 0 (s.1+1) (-1) s.2∧∀ q:Int,s.1<q→q<b-a→∀ p:Int,0≤p→p<q→lt (gz d s.2 (a+q)) (gz d s.2 (a+p))=false)
  (fun l'=>On d a b l0 l'∧Asc d lt a b l') (Ia br a) (by
   rintro ⟨i,l⟩ ⟨i1,i2,hon,hH,hI⟩
   simp only at i1 i2 hon hH hI ⊢
   have hf:=hf0.on hon
   have hl:=hon.len
   unfold Ia
   by_cases hi:i ≥ 0
   ·left
    have hmax:=fun c h1 h2=>XJ w hH i.toNat c h1 (by omega) h2
    have hsw:On d a (a+i+1) l (sw d l a (a+i)):=.step (.refl _) _ _ (Int.le_refl _) (by omega) (by omega) (by omega) ha (by omega)
    have hsl:(sw d l a (a+i)).length=l.length:=EH ..
    obtain ⟨l',p1,p2,p3⟩:=Zf hbr w (first:=a) (lo:=0) (hi:=i) (l0:=sw d l a (a+i)) ha (Int.le_refl _) (by omega) (hf.on hsw) (fun p c c1 c2 c3 c4=>by
     rw [tO d (by omega) (by omega) (by omega) (by omega) (by omega),tO d (by omega) (by omega) (by omega) (by omega) (by omega)]
     rw [if_neg (by omega),if_neg (by omega),if_neg (by omega),if_neg (by omega)]
     exact hH p c c1 (by omega) (by omega) c4) (by omega)
    have hall:On d a (a+i+1) l l':=hsw.trans d (p2.mono d ha (by omega) (by omega) (by omega))
    have a1:aL a i=a+i:=aS (by omega) (by omega)
    refine ⟨(i-1,l'), ?_,⟨by simp only;omega,by simp only;omega,hon.trans d (hall.mono d ha (Int.le_refl _) (by omega) (by omega)), ?_, ?_⟩,by simp only;omega⟩
    ·have p1':Et br 0 i a (List.set (List.set l (Int.toNat a) (gz d l (a+i))) (Int.toNat (a+i)) (gz d l a))=some l':=p1
     simp (disch:=first | omega | (simp only [List.length_set];omega)) only [hi,decide_true,if_true,a1,jM d,Option.bind_some,p1',bA]
    ·simp only
     rw [show i-1+1=i from by omega];exact p3
    ·simp only
     intro q c1 c2 p c3 c4
     by_cases e:q=i
     ·subst e
      have e1:gz d l' (a+q)=gz d l a:=by
       rw [p2.out d (by omega) (.inr (by omega)),tO d (by omega) (by omega) (by omega) (by omega) (by omega),if_pos rfl]
      rw [e1]
      refine p2.all d (fun x=>lt (gz d l a) x=false) (fun k k1 k2=>?_) (a+p) (by omega) (by omega)
      rw [tO d (by omega) (by omega) (by omega) (by omega) (by omega),if_neg (by omega)]
      split
      ·exact hmax q (by omega) (by omega)
      ·have:=hmax (k-a) (by omega) (by omega)
       rwa [show a+(k-a)=k from by omega] at this
     ·have e1:gz d l' (a+q)=gz d l (a+q):=hall.out d (by omega) (.inr (by omega))
      rw [e1]
      by_cases e2:p≤i
      ·refine hall.all d (fun x=>lt (gz d l (a+q)) x=false) (fun k k1 k2=>?_) (a+p) (by omega) (by omega)
       have:=hI q (by omega) c2 (k-a) (by omega) (by omega)
       rwa [show a+(k-a)=k from by omega] at this
      ·rw [hall.out d (k:=a+p) (by omega) (.inr (by omega))]
       exact hI q (by omega) c2 p c3 c4
   ·right
    refine ⟨l,by simp only [hi,decide_false,Bool.false_eq_true,if_false],hon,fun p q c1 c2 c3=>?_⟩
    have:=hI (q-a) (by omega) (by omega) (p-a) (by omega) (by omega)
    rwa [show a+(q-a)=q from by omega,show a+(p-a)=p from by omega] at this) (b-a-1,l1) ⟨by simp only;omega,by simp only;omega,q2,by simp only;rw [show b-a-1+1=b-a from by omega];exact q3,fun q c1 c2=>by simp only at c1;omega⟩
 refine ⟨l2, ?_,r2,r3⟩
 unfold Qv
 simp only [s1,s2,s3,q1,Option.bind_some,r1]
end
end Go.SM
namespace Go.SM
open Go Go.VI
theorem BA {body:Int→Option (Int ⊕ Int)} (c:Int→Bool) {i j:Int} (hij:i≤j+1) (hs:∀ s,i≤s→s≤j→body s=if c s then some (.inl (s+1)) else some (.inr s)) (he:body (j+1)=some (.inr (j+1))) :
  ∃ x,aK body i=some x∧i≤x∧x≤j+1∧(∀ k,i≤k→k<x→c k=true)∧(x≤j→c x=false):=
 nP (fun s:Int=>(j+1-s).toNat) (fun s=>i≤s∧s≤j+1∧∀ k,i≤k→k<s→c k=true) (fun x=>i≤x∧x≤j+1∧(∀ k,i≤k→k<x→c k=true)∧(x≤j→c x=false)) body (by
  rintro s ⟨h1,h2,h3⟩
  by_cases h:s≤j
  ·cases hc:c s with
   | true =>
     left
     refine ⟨s+1,by rw [hs s h1 h,hc];rfl,⟨by omega,by omega,fun k k1 k2=>?_⟩,by omega⟩
     by_cases e:k=s
     ·subst e;exact hc
     ·exact h3 k k1 (by omega)
   | false =>
     right
     exact ⟨s,by rw [hs s h1 h,hc];rfl,h1,h2,h3,fun _=>hc⟩
  ·right
   obtain rfl:s=j+1:=by omega
   exact ⟨_,he,h1,h2,h3,fun q=>absurd q (by omega)⟩) i ⟨Int.le_refl _,hij,fun k k1 k2=>absurd k1 (by omega)⟩
theorem Yj {body:Int→Option (Int ⊕ Int)} (c:Int→Bool) {i j:Int} (hij:i≤j+1) (hs:∀ s,i≤s→s≤j→body s=if c s then some (.inl (s-1)) else some (.inr s)) (he:body (i-1)=some (.inr (i-1))) :
  ∃ x,aK body j=some x∧i-1≤x∧x≤j∧(∀ k,x<k→k≤j→c k=true)∧(i≤x→c x=false):=
 nP (fun s:Int=>(s+1-i).toNat) (fun s=>i-1≤s∧s≤j∧∀ k,s<k→k≤j→c k=true) (fun x=>i-1≤x∧x≤j∧(∀ k,x<k→k≤j→c k=true)∧(i≤x→c x=false)) body (by
  rintro s ⟨h1,h2,h3⟩
  by_cases h:i≤s
  ·cases hc:c s with
   | true =>
     left
     refine ⟨s-1,by rw [hs s h h2,hc];rfl,⟨by omega,by omega,fun k k1 k2=>?_⟩,by omega⟩
     by_cases e:k=s
     ·subst e;exact hc
     ·exact h3 k (by omega) k2
   | false =>
     right
     exact ⟨s,by rw [hs s h h2,hc];rfl,h1,h2,h3,fun _=>hc⟩
  ·right
   obtain rfl:s=i-1:=by omega
   exact ⟨_,he,h1,h2,h3,fun q=>absurd q (by omega)⟩) j ⟨by omega,Int.le_refl _,fun k k1 k2=>absurd k1 (by omega)⟩
section
variable {α:Type} {br:Br α} {lt:α→α→Bool} {P:α→Prop} {d:α} (hbr:∀ (β:Type) (x y:α) (k:Bool→Option β),P x→P y→br β x y k=k (lt x y)) (w:Zk lt)
include hbr
theorem DT {a b:Int} {l0:List α} (ha:0≤a) (hab:a<b) (hb:b≤l0.length) (hf0:Fine P d l0) {i0 j0:Int} (h1:a+1≤i0) (h2:j0≤b-1) (h3:i0≤j0+1)
  (hlo:∀ k,a+1≤k→k<i0→lt (gz d l0 k) (gz d l0 a)=true) (hhi:∀ k,j0<k→k<b→lt (gz d l0 k) (gz d l0 a)=false) :
  ∃ r,aK (Af br a) (i0,j0,l0)=some r∧On d (a+1) b l0 r.2∧gz d r.2 a=gz d l0 a∧a≤r.1∧r.1<b∧(∀ k,a+1≤k→k≤r.1→lt (gz d r.2 k) (gz d l0 a)=true)∧(∀ k,r.1<k→k<b→lt (gz d r.2 k) (gz d l0 a)=false):=by
 have hL:=hf0.len
 refine nP (fun s:Int×Int×List α=>(s.2.1+1-s.1).toNat) (fun s:Int×Int×List α=>a+1≤s.1∧s.2.1≤b-1∧s.1≤s.2.1+1∧On d (a+1) b l0 s.2.2∧gz d s.2.2 a=gz d l0 a ∧
  (∀ k,a+1≤k→k<s.1→lt (gz d s.2.2 k) (gz d l0 a)=true)∧(∀ k,s.2.1<k→k<b→lt (gz d s.2.2 k) (gz d l0 a)=false)) _ (Af br a) ?_ (i0,j0,l0) ⟨h1,h2,h3,.refl _,rfl,hlo,hhi⟩
 rintro ⟨i,j,l⟩ ⟨i1,i2,i3,hon,hp,hI,hJ⟩
 simp only at i1 i2 i3 hon hp hI hJ ⊢
 have hf:=hf0.on hon
 have hl:=hon.len
 unfold Af
 obtain ⟨x,x1,x2,x3,x4,x5⟩:=BA (body:=Ad br a (i,j,l)) (fun k=>lt (gz d l k) (gz d l0 a)) i3 (fun s s1 s2=>by
  unfold Ad
  simp (disch:=first | omega | (refine hf.all _ ?_ ?_ <;> omega) | (refine hf0.all _ ?_ ?_ <;> omega)) only [s2,decide_true,if_true,jM d,Option.bind_some,hbr,hp,aS]) (by
  unfold Ad
  simp only [show ¬ j+1≤j from by omega,decide_false,Bool.false_eq_true,if_false,Option.bind_some])
 obtain ⟨y,y1,y2,y3,y4,y5⟩:=Yj (body:=Ae br a (i,j,l) x) (fun k=>!lt (gz d l k) (gz d l0 a)) x3 (fun s s1 s2=>by
  unfold Ae
  simp (disch:=first | omega | (refine hf.all _ ?_ ?_ <;> omega) | (refine hf0.all _ ?_ ?_ <;> omega)) only [s1,decide_true,if_true,jM d,Option.bind_some,hbr,hp,bA]) (by
  unfold Ae
  simp only [show ¬ x≤x-1 from by omega,decide_false,Bool.false_eq_true,if_false,Option.bind_some])
 simp only [x1,y1,Option.bind_some]
 by_cases hxy:x>y
 ·right
  refine ⟨(y,l),by simp only [hxy,decide_true,if_true],hon,hp,by simp only;omega,by simp only;omega,fun k k1 k2=>?_,fun k k1 k2=>?_⟩
  ·simp only at k2 ⊢
   by_cases e:k<i
   ·exact hI k k1 e
   ·exact x4 k (by omega) (by omega)
  ·simp only at k1 ⊢
   by_cases e:j<k
   ·exact hJ k e k2
   ·have:=y4 k (by omega) (by omega)
    simpa using this
 ·left
  have hx:=x5 (by omega)
  have hy:=y5 (by omega)
  simp only [Bool.not_eq_eq_eq_not,Bool.not_false] at hy
  have hne:x≠y:=fun e=>by subst e;rw [hx] at hy;cases hy
  refine ⟨(x+1,y-1,sw d l x y), ?_,⟨by simp only;omega,by simp only;omega,by simp only;omega,.step hon x y (by omega) (by omega) (by omega) (by omega) (by omega) (by omega), ?_,fun k k1 k2=>?_,fun k k1 k2=>?_⟩,by simp only;omega⟩
  ·simp (disch:=first | omega | (simp only [List.length_set];omega)) only [hxy,decide_false,Bool.false_eq_true,if_false,jM d,Option.bind_some,aS,bA]
   rfl
  ·simp only
   rw [tO d (by omega) (by omega) (by omega) (by omega) (by omega),if_neg (by omega),if_neg (by omega)];exact hp
  ·simp only at k2 ⊢
   rw [tO d (by omega) (by omega) (by omega) (by omega) (by omega),if_neg (by omega)]
   by_cases e:k=x
   ·rw [if_pos e];exact hy
   ·rw [if_neg e]
    by_cases e:k<i
    ·exact hI k k1 e
    ·exact x4 k (by omega) (by omega)
  ·simp only at k1 ⊢
   rw [tO d (by omega) (by omega) (by omega) (by omega) (by omega)]
   by_cases e:k=y
   ·rw [if_pos e];exact hx
   ·rw [if_neg e,if_neg (by omega)]
    by_cases e:j<k
    ·exact hJ k e k2
    ·have:=y4 k (by omega) (by omega)
     simpa using this
theorem JI {a b pivot:Int} {l0:List α} (ha:0≤a) (hab:a<b) (hb:b≤l0.length) (hf0:Fine P d l0) (hp1:a≤pivot) (hp2:pivot<b) :
  ∃ mid al l',Gg br a b pivot l0=some (mid,al,l')∧On d a b l0 l'∧a≤mid∧mid<b∧(∀ k,a≤k→k<mid→lt (gz d l' k) (gz d l' mid)=true)∧(∀ k,mid<k→k<b→lt (gz d l' k) (gz d l' mid)=false):=by
 have hL:=hf0.len
 have hon1:On d a b l0 (sw d l0 a pivot):=.step (.refl _) _ _ (Int.le_refl _) hab hp1 hp2 ha hb
 obtain ⟨l1,hl1⟩:∃ l1,sw d l0 a pivot=l1:=⟨_,rfl⟩
 have e1:List.set (List.set l0 (Int.toNat a) (gz d l0 pivot)) (Int.toNat pivot) (gz d l0 a)=l1:=hl1
 rw [hl1] at hon1
 have hf:=hf0.on hon1
 have hl:=hon1.len
 have s1:aJ b 1=b-1:=bA (by omega) (by omega)
 have s2:aL a 1=a+1:=aS (by omega) (by omega)
 unfold Gg
 simp (disch:=first | omega | (simp only [List.length_set];omega)) only [jM d (l:=l0),Option.bind_some]
 rw [show idx (l0.set a.toNat (gz d l0 pivot)) pivot=some (gz d (l0.set a.toNat (gz d l0 pivot)) pivot) from jM d (by omega) (by rw [List.length_set];omega),Option.bind_some,e1]
 obtain ⟨x,x1,x2,x3,x4,x5⟩:=BA (body:=Ab br a b pivot l0 (gz d l0 pivot) (gz d l0 a)) (fun k=>lt (gz d l1 k) (gz d l1 a)) (i:=a+1) (j:=b-1) (by omega) (fun s q1 q2=>by
  unfold Ab
  simp (disch:=first | omega | (refine hf.all _ ?_ ?_ <;> omega)) only [e1,s1,q2,decide_true,if_true,jM d,Option.bind_some,hbr,aS]) (by
  unfold Ab
  simp only [s1,show ¬ b-1+1≤b-1 from by omega,decide_false,Bool.false_eq_true,if_false,Option.bind_some])
 obtain ⟨y,y1,y2,y3,y4,y5⟩:=Yj (body:=Ac br a pivot l0 (gz d l0 pivot) (gz d l0 a) x) (fun k=>!lt (gz d l1 k) (gz d l1 a)) (i:=x) (j:=b-1) x3 (fun s q1 q2=>by
  unfold Ac
  simp (disch:=first | omega | (refine hf.all _ ?_ ?_ <;> omega)) only [e1,q1,decide_true,if_true,jM d,Option.bind_some,hbr,bA]) (by
  unfold Ac
  simp only [show ¬ x≤x-1 from by omega,decide_false,Bool.false_eq_true,if_false,Option.bind_some])
 have fin:∀ (m:Int) (l:List α),On d a b l0 l→a≤m→m<b→gz d l a=gz d l1 a→(∀ k,a+1≤k→k≤m→lt (gz d l k) (gz d l1 a)=true)→(∀ k,m<k→k<b→lt (gz d l k) (gz d l1 a)=false) →
   On d a b l0 (sw d l m a)∧(∀ k,a≤k→k<m→lt (gz d (sw d l m a) k) (gz d (sw d l m a) m)=true)∧(∀ k,m<k→k<b→lt (gz d (sw d l m a) k) (gz d (sw d l m a) m)=false):=by
  intro m l on m1 m2 hq hlo hhi
  have hl:=on.len
  have em:gz d (sw d l m a) m=gz d l1 a:=by
   rw [tO d (by omega) (by omega) (by omega) (by omega) (by omega)]
   by_cases e:m=a
   ·rw [if_pos e,e];exact hq
   ·rw [if_neg e,if_pos rfl];exact hq
  refine ⟨.step on m a (by omega) (by omega) (by omega) (by omega) ha (by omega),fun k k1 k2=>?_,fun k k1 k2=>?_⟩
  ·rw [em,tO d (by omega) (by omega) (by omega) (by omega) (by omega)]
   by_cases e:k=a
   ·rw [if_pos e];exact hlo m (by omega) (Int.le_refl _)
   ·rw [if_neg e,if_neg (by omega)];exact hlo k (by omega) (by omega)
  ·rw [em,tO d (by omega) (by omega) (by omega) (by omega) (by omega),if_neg (by omega),if_neg (by omega)]
   exact hhi k k1 k2
 simp only [s1,s2,x1,y1,Option.bind_some]
 by_cases hxy:x>y
 ·obtain ⟨f1,f2,f3⟩:=fin y l1 hon1 (by omega) (by omega) rfl (fun k k1 k2=>x4 k k1 (by omega)) (fun k k1 k2=>by
   have:=y4 k k1 (by omega)
   simpa using this)
  refine ⟨y,true,sw d l1 y a, ?_,f1,by omega,by omega,f2,f3⟩
  simp (disch:=first | omega | (simp only [List.length_set];omega)) only [hxy,decide_true,if_true,jM d,Option.bind_some]
  rfl
 ·have hx:=x5 (by omega)
  have hy:=y5 (by omega)
  simp only [Bool.not_eq_eq_eq_not,Bool.not_false] at hy
  have hne:x≠y:=fun e=>by subst e;rw [hx] at hy;cases hy
  have hon2:On d (a+1) b l1 (sw d l1 x y):=.step (.refl _) x y (by omega) (by omega) (by omega) (by omega) (by omega) (by omega)
  have hga:gz d (sw d l1 x y) a=gz d l1 a:=by rw [tO d (by omega) (by omega) (by omega) (by omega) (by omega),if_neg (by omega),if_neg (by omega)]
  have hl2:(sw d l1 x y).length=l1.length:=EH ..
  obtain ⟨r,r1,r2,r3,r4,r5,r6,r7⟩:=DT hbr (i0:=x+1) (j0:=y-1) ha hab (by omega) (hf.on hon2) (by omega) (by omega) (by omega) (fun k k1 k2=>by
   rw [hga,tO d (by omega) (by omega) (by omega) (by omega) (by omega),if_neg (by omega)]
   by_cases e:k=x
   ·rw [if_pos e];exact hy
   ·rw [if_neg e];exact x4 k k1 (by omega)) (fun k k1 k2=>by
   rw [hga,tO d (by omega) (by omega) (by omega) (by omega) (by omega)]
   by_cases e:k=y
   ·rw [if_pos e];exact hx
   ·rw [if_neg e,if_neg (by omega)]
    have:=y4 k (by omega) (by omega)
    simpa using this)
  rw [hga] at r3 r6 r7
  have hon3:=(hon2.trans d r2).mono d ha (by omega) (Int.le_refl _) (by omega)
  have hl3:=r2.len
  obtain ⟨f1,f2,f3⟩:=fin r.1 r.2 (hon1.trans d hon3) r4 r5 r3 r6 r7
  have e2:List.set (List.set l1 (Int.toNat x) (gz d l1 y)) (Int.toNat y) (gz d l1 x)=sw d l1 x y:=rfl
  refine ⟨r.1,false,sw d r.2 r.1 a, ?_,f1,r4,r5,f2,f3⟩
  simp (disch:=first | omega | (simp only [List.length_set];omega)) only [hxy,decide_false,Bool.false_eq_true,if_false,jM d,Option.bind_some,aS,bA,e2,r1]
  rfl
theorem Xa {a b pivot:Int} {l0:List α} (ha:0≤a) (hab:a<b) (hb:b≤l0.length) (hf0:Fine P d l0) (hp1:a≤pivot) (hp2:pivot<b) (hirr:∀ x,lt x x=false) :
  ∃ mid l',Bl br a b pivot l0=some (mid,l')∧On d a b l0 l'∧a<mid∧mid≤b∧(∀ k,a≤k→k<mid→lt (gz d l0 pivot) (gz d l' k)=false):=by
 have hL:=hf0.len
 have hon1:On d a b l0 (sw d l0 a pivot):=.step (.refl _) _ _ (Int.le_refl _) hab hp1 hp2 ha hb
 obtain ⟨l1,hl1⟩:∃ l1,sw d l0 a pivot=l1:=⟨_,rfl⟩
 have e1:List.set (List.set l0 (Int.toNat a) (gz d l0 pivot)) (Int.toNat pivot) (gz d l0 a)=l1:=hl1
 have hpa:gz d l1 a=gz d l0 pivot:=by
  rw [← hl1,tO d (by omega) (by omega) (by omega) (by omega) (by omega)]
  by_cases e:a=pivot
  ·rw [if_pos e,e]
  ·rw [if_neg e,if_pos rfl]
 rw [hl1] at hon1
 have hf1:=hf0.on hon1
 have hl1':=hon1.len
 have s1:aJ b 1=b-1:=bA (by omega) (by omega)
 have s2:aL a 1=a+1:=aS (by omega) (by omega)
 obtain ⟨r,r1,r2,r3,r4,r5⟩:=nP (fun s:Int×Int×List α=>(s.2.1+1-s.1).toNat) (fun s:Int×Int×List α=>a+1≤s.1∧s.2.1≤b-1∧s.1≤s.2.1+1∧On d (a+1) b l1 s.2.2∧gz d s.2.2 a=gz d l1 a ∧
   (∀ k,a+1≤k→k<s.1→lt (gz d l1 a) (gz d s.2.2 k)=false)) (fun r:Int×List α=>On d a b l0 r.2∧a<r.1∧r.1≤b∧(∀ k,a≤k→k<r.1→lt (gz d l0 pivot) (gz d r.2 k)=false)) (xP br a) (by
  rintro ⟨i,j,l⟩ ⟨i1,i2,i3,hon,hp,hI⟩
  simp only at i1 i2 i3 hon hp hI ⊢
  have hf:=hf1.on hon
  have hl:=hon.len
  unfold xP
  obtain ⟨x,x1,x2,x3,x4,x5⟩:=BA (body:=tJ br a (i,j,l)) (fun k=>!lt (gz d l1 a) (gz d l k)) i3 (fun s s1 s2=>by
   unfold tJ
   simp (disch:=first | omega | (refine hf.all _ ?_ ?_ <;> omega) | (refine hf1.all _ ?_ ?_ <;> omega)) only [s2,decide_true,if_true,jM d,Option.bind_some,hbr,hp,aS]) (by
   unfold tJ
   simp only [show ¬ j+1≤j from by omega,decide_false,Bool.false_eq_true,if_false,Option.bind_some])
  obtain ⟨y,y1,y2,y3,y4,y5⟩:=Yj (body:=tK br a (i,j,l) x) (fun k=>lt (gz d l1 a) (gz d l k)) x3 (fun s s1 s2=>by
   unfold tK
   simp (disch:=first | omega | (refine hf.all _ ?_ ?_ <;> omega) | (refine hf1.all _ ?_ ?_ <;> omega)) only [s1,decide_true,if_true,jM d,Option.bind_some,hbr,hp,bA]) (by
   unfold tK
   simp only [show ¬ x≤x-1 from by omega,decide_false,Bool.false_eq_true,if_false,Option.bind_some])
  simp only [x1,y1,Option.bind_some]
  have below:∀ k,a+1≤k→k<x→lt (gz d l1 a) (gz d l k)=false:=fun k k1 k2=>by
   by_cases e:k<i
   ·exact hI k k1 e
   ·have:=x4 k (by omega) k2
    simpa using this
  by_cases hxy:x>y
  ·right
   refine ⟨(x,l),by simp only [hxy,decide_true,if_true],hon1.trans d (hon.mono d ha (by omega) (Int.le_refl _) (by omega)),by simp only;omega,by simp only;omega,fun k k1 k2=>?_⟩
   simp only at k2 ⊢
   rw [← hpa]
   by_cases e:k=a
   ·rw [e,hp];exact hirr _
   ·exact below k (by omega) k2
  ·left
   have hx:=x5 (by omega)
   have hy:=y5 (by omega)
   simp only [Bool.not_eq_eq_eq_not,Bool.not_false] at hx
   have hne:x≠y:=fun e=>by subst e;rw [hx] at hy;cases hy
   refine ⟨(x+1,y-1,sw d l x y), ?_,⟨by simp only;omega,by simp only;omega,by simp only;omega,.step hon x y (by omega) (by omega) (by omega) (by omega) (by omega) (by omega), ?_,fun k k1 k2=>?_⟩,by simp only;omega⟩
   ·simp (disch:=first | omega | (simp only [List.length_set];omega)) only [hxy,decide_false,Bool.false_eq_true,if_false,jM d,Option.bind_some,aS,bA]
    rfl
   ·simp only
    rw [tO d (by omega) (by omega) (by omega) (by omega) (by omega),if_neg (by omega),if_neg (by omega)];exact hp
   ·simp only at k2 ⊢
    rw [tO d (by omega) (by omega) (by omega) (by omega) (by omega),if_neg (by omega)]
    by_cases e:k=x
    ·rw [if_pos e];exact hy
    ·rw [if_neg e];exact below k k1 (by omega)) (a+1,b-1,l1) ⟨by simp only;omega,by simp only;omega,by simp only;omega,.refl _,rfl,fun k k1 k2=>absurd k1 (by simp only at k2;omega)⟩
 refine ⟨r.1,r.2, ?_,r2,r3,r4,r5⟩
 unfold Bl
 simp (disch:=first | omega | (simp only [List.length_set];omega)) only [jM d (l:=l0),Option.bind_some]
 rw [show idx (l0.set a.toNat (gz d l0 pivot)) pivot=some (gz d (l0.set a.toNat (gz d l0 pivot)) pivot) from jM d (by omega) (by rw [List.length_set];omega),Option.bind_some,e1]
 simp only [s1,s2,r1,Option.bind_some]
end
end Go.SM
namespace Go.SM
open Go Go.VI
theorem wrap_u64 {x:Int} (h0:0≤x) (h1:x<18446744073709551616):IntKind.wrap .u64 x=x:=by
 simp only [IntKind.wrap,IntKind.signed,IntKind.bits,IntKind.min,IntKind.max]
 first | omega | (simp;omega)
theorem X5:((List.range 256).all fun c=>match vG ((c:Int),0) with | some t=>decide (0≤t∧t≤8∧2^t.toNat≤max 1 (2*c)) | none=>false)=true:=by decide +kernel
theorem XR (c n:Int) (h0:0≤n) (h1:n≤64) (hc:0≤c) (hc2:c<256):∃ t:Int,vG (c,n)=some (n+t)∧0≤t∧t≤8∧2^t.toNat≤max 1 (2*c.toNat):=by
 have h:=List.all_eq_true.1 X5 c.toNat (List.mem_range.2 (by omega))
 rw [show ((c.toNat:Nat):Int)=c from by omega] at h
 obtain ⟨T,hT⟩:∃ T:Int→Option Int,∀ c n,vG (c,n)=(T c).bind fun x=>some (aL n (IntKind.wrap .i64 x)):=⟨fun c=>Rn (ByteArray.mk #[0,1,2,2,3,3,3,3,4,4,4,4,4,4,4,4,5,5,5,5,5,5,5,5,5,5,5,5,5,5,5,5,6,6,6,6,6,6,6,6,6,6,6,6,6,6,6,6,6,6,6,6,6,6,6,6,6,6,6,6,6,6,6,6,7,7,7,7,7,7,7,7,7,7,7,7,7,7,7,7,7,7,7,7,7,7,7,7,7,7,7,7,7,7,7,7,7,7,7,7,7,7,7,7,7,7,7,7,7,7,7,7,7,7,7,7,7,7,7,7,7,7,7,7,7,7,7,7,8,8,8,8,8,8,8,8,8,8,8,8,8,8,8,8,8,8,8,8,8,8,8,8,8,8,8,8,8,8,8,8,8,8,8,8,8,8,8,8,8,8,8,8,8,8,8,8,8,8,8,8,8,8,8,8,8,8,8,8,8,8,8,8,8,8,8,8,8,8,8,8,8,8,8,8,8,8,8,8,8,8,8,8,8,8,8,8,8,8,8,8,8,8,8,8,8,8,8,8,8,8,8,8,8,8,8,8,8,8,8,8,8,8,8,8,8,8,8,8,8,8,8,8,8,8,8,8]) (IntKind.wrap .u8 c),fun _ _=>rfl⟩
 rw [hT] at h ⊢
 cases hs:T c with
 | none=>rw [hs] at h;simp at h
 | some t =>
   rw [hs] at h
   simp only [Option.bind_some,decide_eq_true_eq] at h ⊢
   generalize hw:IntKind.i64.wrap t=v at h ⊢
   have hv:aL 0 v=v:=by
    unfold aL
    rw [Int.zero_add,← hw]
    simp only [IntKind.wrap,IntKind.signed,IntKind.bits,IntKind.min,IntKind.max]
    first | omega | (simp only [Int.reducePow,if_true];omega) | (simp;omega)
   rw [hv] at h
   exact ⟨v,by rw [aS (by omega) (by omega)],h.1,h.2.1,h.2.2⟩
theorem XZ {x:Int} (h0:0≤x) (h1:x≤1073741824):∃ v:Int,Jv (IntKind.wrap .u64 x)=some v∧0≤v∧v≤40∧2^v.toNat≤max 1 (2*x.toNat):=by
 have hw:IntKind.wrap .u64 x=x:=by
  exact wrap_u64 (by omega) (by omega)
 have c8:(2^(min (Int.toNat 8) 64):Int)=256:=by decide
 have c16:(2^(min (Int.toNat 16) 64):Int)=65536:=by decide
 have step:∀ (c n:Int),0≤c→0≤n→n≤30→c<65536→∃ t:Int,yH (c,n)=some (n+t)∧0≤t∧t≤16∧2^t.toNat≤max 1 (2*c.toNat):=fun c n h0 hn hn2 hc=>by
  unfold yH
  by_cases q:c ≥ 256
  ·simp only [q,decide_true,if_true,c8]
   have e:Int.fdiv c 256=c / 256:=Int.fdiv_eq_ediv_of_nonneg _ (by omega)
   rw [e,aS (by omega) (by omega)]
   obtain ⟨t,t1,t2,t3,t4⟩:=XR (c / 256) (n+8) (by omega) (by omega) (by omega) (by omega)
   refine ⟨8+t,by rw [t1];congr 1;omega,by omega,by omega, ?_⟩
   rw [show (8+t).toNat=8+t.toNat from by omega,Nat.pow_add]
   omega
  ·simp only [q,decide_false,Bool.false_eq_true,if_false]
   obtain ⟨t,t1,t2,t3,t4⟩:=XR c n (by omega) (by omega) (by omega) (by omega)
   exact ⟨t,t1,t2,by omega,t4⟩
 unfold Jv Uc Dl
 rw [hw]
 have q:¬ x ≥ 4294967296:=by omega
 simp only [q,decide_false,Bool.false_eq_true,if_false]
 by_cases q:x ≥ 65536
 ·simp only [q,decide_true,if_true,c16]
  have e:Int.fdiv x 65536=x / 65536:=Int.fdiv_eq_ediv_of_nonneg _ (by omega)
  rw [e,show aL 0 16=16 from rfl]
  obtain ⟨t,t1,t2,t3,t4⟩:=step (x / 65536) 16 (by omega) (by omega) (by omega) (by omega)
  refine ⟨16+t,by rw [t1];rfl,by omega,by omega, ?_⟩
  rw [show (16+t).toNat=16+t.toNat from by omega,Nat.pow_add]
  omega
 ·simp only [q,decide_false,Bool.false_eq_true,if_false]
  obtain ⟨t,t1,t2,t3,t4⟩:=step x 0 h0 (by omega) (by omega) (by omega)
  refine ⟨t,by rw [t1,Int.zero_add];rfl,t2,by omega,t4⟩
section
variable {α:Type} {br:Br α} {lt:α→α→Bool} {P:α→Prop} {d:α} (hbr:∀ (β:Type) (x y:α) (k:Bool→Option β),P x→P y→br β x y k=k (lt x y)) (w:Zk lt)
theorem PG {a b:Int} {l0:List α} (ha:0≤a) (hb:b≤l0.length) (hL:(l0.length:Int)≤1073741824) (hab:a≤b):∃ l',Fa br a b l0=some l'∧On d a b l0 l':=by
 obtain ⟨l',r1,r2⟩:=nP (fun s:Int×Int×List α=>(s.2.1+1-s.1).toNat) (fun s:Int×Int×List α=>a≤s.1∧s.2.1<b∧s.1≤b∧a-1≤s.2.1∧On d a b l0 s.2.2) (fun l'=>On d a b l0 l') (Am br) (by
  rintro ⟨i,j,l⟩ ⟨h1,h2,h3,h4,hon⟩
  simp only at h1 h2 h3 h4 hon ⊢
  have hl:=hon.len
  unfold Am
  by_cases q:i<j
  ·left
   refine ⟨(i+1,j-1,sw d l i j), ?_,⟨by simp only;omega,by simp only;omega,by simp only;omega,by simp only;omega,.step hon i j h1 (by omega) (by omega) h2 ha (by omega)⟩,by simp only;omega⟩
   simp (disch:=first | omega | (simp only [List.length_set];omega)) only [q,decide_true,if_true,jM d,Option.bind_some,aS,bA]
   rfl
  ·right
   exact ⟨l,by simp only [q,decide_false,Bool.false_eq_true,if_false],hon⟩) (a,b-1,l0) ⟨by simp only;omega,by simp only;omega,by simp only;omega,by simp only;omega,.refl _⟩
 refine ⟨l', ?_,r2⟩
 unfold Fa
 rw [bA (by omega) (by omega),r1];rfl
theorem Q8 (r m:Int) (h0:0≤m) (h1:m<9223372036854775808):0≤Wn .u64 r m∧Wn .u64 r m≤m:=by
 unfold Wn
 have hb:(BitVec.ofInt 64 m).toNat=m.toNat:=by
  rw [BitVec.toNat_ofInt]
  omega
 have hle:(BitVec.ofInt IntKind.u64.bits r &&& BitVec.ofInt IntKind.u64.bits m).toNat≤m.toNat:=by
  show (BitVec.ofInt 64 r &&& BitVec.ofInt 64 m).toNat≤m.toNat
  rw [BitVec.toNat_and,hb]
  exact Nat.and_le_right
 generalize (BitVec.ofInt IntKind.u64.bits r &&& BitVec.ofInt IntKind.u64.bits m).toNat=v at hle ⊢
 have hw:IntKind.wrap .u64 (v:Int)=v:=by
  exact wrap_u64 (by omega) (by omega)
 rw [hw];omega
theorem Z4 {n:Int} (h:0≤n) (h2:n≤1073741824):yP n 4=n / 4:=by
 unfold yP
 rw [Int.tdiv_eq_ediv_of_nonneg h]
 exact Jz _ (by omega) (by omega)
theorem VW {a b:Int} {l0:List α} (ha:0≤a) (hb:b≤l0.length) (hL:(l0.length:Int)≤1073741824) (hab:a≤b):∃ l',Dm br a b l0=some l'∧On d a b l0 l':=by
 have s1:aJ b a=b-a:=bA (by omega) (by omega)
 unfold Dm
 rw [s1]
 by_cases h8:b-a ≥ 8
 case neg=>simp only [h8,decide_false,Bool.false_eq_true,if_false];exact ⟨l0,rfl,.refl _⟩
 simp only [h8,decide_true,if_true]
 obtain ⟨v,v1,v2,v3,v4⟩:=XZ (x:=b-a) (by omega) (by omega)
 have hpow:1≤2^v.toNat:=Nat.one_le_two_pow
 have hr2:Bj (b-a)=some ((2^v.toNat:Nat):Int):=by
  unfold Bj
  rw [v1]
  simp only [Option.bind_some,v2,decide_true,if_true]
  congr 1
  rw [show min v.toNat 64=v.toNat from by omega,Int.one_mul,show (2:Int)^v.toNat=((2^v.toNat:Nat):Int) from by simp]
  exact wrap_u64 (by omega) (by omega)
 rw [hr2,Option.bind_some]
 obtain ⟨R,hR⟩:∃ R:Int,((2^v.toNat:Nat):Int)=R:=⟨_,rfl⟩
 rw [hR]
 have hR1:1≤R:=by omega
 have hR2:R≤2*(b-a):=by omega
 have hm:IntKind.wrap .u64 (R-1)=R-1:=by
  exact wrap_u64 (by omega) (by omega)
 have q4:=Z4 (n:=b-a) (by omega) (by omega)
 have q2:lZ ((b-a) / 4) 2=(b-a) / 4*2:=Su (by omega) (by omega)
 have q3:aL a ((b-a) / 4*2)=a+(b-a) / 4*2:=aS (by omega) (by omega)
 have q5:aL (a+(b-a) / 4*2) 1=a+(b-a) / 4*2+1:=aS (by omega) (by omega)
 have q6:aJ (a+(b-a) / 4*2) 1=a+(b-a) / 4*2-1:=bA (by omega) (by omega)
 obtain ⟨l',r1,r2⟩:=nP (fun s:Int×Int×List α=>(a+(b-a) / 4*2+2-s.1).toNat) (fun s:Int×Int×List α=>a≤s.1∧On d a b l0 s.2.2) (fun l'=>On d a b l0 l') (yN br a b R) (by
  rintro ⟨i,rr,l⟩ ⟨h1,hon⟩
  simp only at h1 hon ⊢
  have hl:=hon.len
  unfold yN
  simp only [s1,q4,q2,q3,q5,hm]
  by_cases q:i≤a+(b-a) / 4*2+1
  ·left
   simp only [q,decide_true,if_true,Np,Option.bind_some]
   generalize hz:(kI IntKind.u64 _ _:Int)=z
   obtain ⟨a1,a2⟩:=Q8 z (R-1) (by omega) (by omega)
   have hw:IntKind.wrap .i64 (Wn .u64 z (R-1))=Wn .u64 z (R-1):=Jz _ (by omega) (by omega)
   rw [hw]
   obtain ⟨o,ho⟩:∃ o,Wn .u64 z (R-1)=o:=⟨_,rfl⟩
   rw [ho] at a1 a2 ⊢
   have key:∀ t:Int,0≤t→t<b-a→∃ s',uY br a (i,rr,l) t=some (.inl s')∧(a≤s'.1∧On d a b l0 s'.2.2)∧(a+(b-a) / 4*2+2-s'.1).toNat<(a+(b-a) / 4*2+2-i).toNat:=fun t t1 t2=>by
    have e:aL a t=a+t:=aS (by omega) (by omega)
    unfold uY
    simp (disch:=first | omega | (simp only [List.length_set];omega)) only [e,jM d,Option.bind_some]
    refine ⟨_,rfl,⟨?_, ?_⟩, ?_⟩
    ·simp only;rw [aS (by omega) (by omega)];omega
    ·exact .step hon i (a+t) (by omega) (by omega) (by omega) (by omega) ha (by omega)
    ·simp only;rw [aS (by omega) (by omega)];omega
   by_cases hge:o ≥ b-a
   ·simp only [hge,decide_true,if_true]
    rw [bA (by omega) (by omega)]
    exact key (o-(b-a)) (by omega) (by omega)
   ·simp only [hge,decide_false,Bool.false_eq_true,if_false]
    exact key o a1 (by omega)
  ·right
   exact ⟨l,by simp only [q,decide_false,Bool.false_eq_true,if_false],hon⟩) (a+(b-a) / 4*2-1,IntKind.wrap .u64 (b-a),l0) ⟨by simp only;omega,.refl _⟩
 refine ⟨l', ?_,r2⟩
 simp only [q4,q2,q3,q6,r1,Option.bind_some]
include hbr
theorem Yd {l:List α} (hf:Fine P d l) {x y:Int} (s:Int) (hx:0≤x) (hx':x<l.length) (hy:0≤y) (hy':y<l.length):∃ r,Nn br l x y s=some r∧((r.1=x∧r.2.1=y)∨(r.1=y∧r.2.1=x)):=by
 unfold Nn
 rw [jM d hy hy',Option.bind_some,jM d hx hx',Option.bind_some,hbr _ _ _ _ (hf.all _ hy hy') (hf.all _ hx hx')]
 cases lt (gz d l y) (gz d l x) with
 | true=>exact ⟨_,rfl,.inr ⟨rfl,rfl⟩⟩
 | false=>exact ⟨_,rfl,.inl ⟨rfl,rfl⟩⟩
theorem GM {l:List α} (hf:Fine P d l) {lo hi x y z:Int} (s:Int) (hlo:0≤lo) (hhi:hi≤l.length) (hx:lo≤x∧x<hi) (hy:lo≤y∧y<hi) (hz:lo≤z∧z<hi):∃ r,Sn br l x y z s=some r∧lo≤r.1∧r.1<hi:=by
 unfold Sn
 obtain ⟨r1,e1,q1⟩:=Yd hbr hf (x:=x) (y:=y) s (by omega) (by omega) (by omega) (by omega)
 rw [e1,Option.bind_some]
 obtain ⟨r2,e2,q2⟩:=Yd hbr hf (x:=r1.2.1) (y:=z) r1.2.2 (by omega) (by omega) (by omega) (by omega)
 rw [e2,Option.bind_some]
 obtain ⟨r3,e3,q3⟩:=Yd hbr hf (x:=r1.1) (y:=r2.1) r2.2.2 (by omega) (by omega) (by omega) (by omega)
 rw [e3,Option.bind_some]
 exact ⟨_,rfl,by simp only;omega,by simp only;omega⟩
theorem SS {l:List α} (hf:Fine P d l) {a b:Int} (ha:0≤a) (hb:b≤l.length) (hab:a+12<b):∃ p h,Hy br l a b=some (p,h)∧a≤p∧p<b:=by
 have hL:=hf.len
 have s1:aJ b a=b-a:=bA (by omega) (by omega)
 have q4:=Z4 (n:=b-a) (by omega) (by omega)
 have m1:lZ ((b-a) / 4) 1=(b-a) / 4*1:=Su (by omega) (by omega)
 have m2:lZ ((b-a) / 4) 2=(b-a) / 4*2:=Su (by omega) (by omega)
 have m3:lZ ((b-a) / 4) 3=(b-a) / 4*3:=Su (by omega) (by omega)
 have a1:aL a ((b-a) / 4*1)=a+(b-a) / 4*1:=aS (by omega) (by omega)
 have a2:aL a ((b-a) / 4*2)=a+(b-a) / 4*2:=aS (by omega) (by omega)
 have a3:aL a ((b-a) / 4*3)=a+(b-a) / 4*3:=aS (by omega) (by omega)
 have k1:∀ p n:Int,∃ h,xA br (p,n)=some (p,h):=fun p n=>by
  unfold xA
  simp only
  split
  ·exact ⟨_,rfl⟩
  ·split
   ·exact ⟨_,rfl⟩
   ·exact ⟨_,rfl⟩
 have k2:∀ x y z s:Int,(a≤x∧x<b)→(a≤y∧y<b)→(a≤z∧z<b)→∃ p h,xB br l (x,y,z,s)=some (p,h)∧a≤p∧p<b:=fun x y z s hx hy hz=>by
  unfold xB
  obtain ⟨r,e,r1,r2⟩:=GM hbr hf (lo:=a) (hi:=b) s ha hb hx hy hz
  simp only [e,Option.bind_some]
  obtain ⟨h,e2⟩:=k1 r.1 r.2
  exact ⟨_,h,e2,r1,r2⟩
 have adj:∀ x s:Int,a+1≤x→x+1<b→∃ r,tH br l x s=some r∧a≤r.1∧r.1<b:=fun x s h1 h2=>by
  unfold tH
  rw [bA (by omega) (by omega),aS (by omega) (by omega)]
  obtain ⟨r,e,r1,r2⟩:=GM hbr hf (lo:=a) (hi:=b) (x:=x-1) (y:=x) (z:=x+1) s ha hb (by omega) (by omega) (by omega)
  rw [e]
  exact ⟨_,rfl,r1,r2⟩
 unfold Hy
 have h8:b-a ≥ 8:=by omega
 simp only [s1,q4,m1,m2,m3,a1,a2,a3,h8,decide_true,if_true]
 by_cases h50:b-a ≥ 50
 ·simp only [h50,decide_true,if_true]
  obtain ⟨r1,e1,p1,p2⟩:=adj (a+(b-a) / 4*1) 0 (by omega) (by omega)
  rw [e1,Option.bind_some]
  obtain ⟨r2,e2,p3,p4⟩:=adj (a+(b-a) / 4*2) r1.2 (by omega) (by omega)
  rw [e2,Option.bind_some]
  obtain ⟨r3,e3,p5,p6⟩:=adj (a+(b-a) / 4*3) r2.2 (by omega) (by omega)
  rw [e3,Option.bind_some]
  exact k2 _ _ _ _ ⟨p1,p2⟩ ⟨p3,p4⟩ ⟨p5,p6⟩
 ·simp only [h50,decide_false,Bool.false_eq_true,if_false]
  exact k2 _ _ _ _ (by omega) (by omega) (by omega)
end
end Go.SM
namespace Go.SM
open Go Go.VI
section
variable {α:Type} {br:Br α} {lt:α→α→Bool} {P:α→Prop} {d:α} (hbr:∀ (β:Type) (x y:α) (k:Bool→Option β),P x→P y→br β x y k=k (lt x y)) (w:Zk lt)
include hbr
theorem UY {i b:Int} {l0:List α} (hi:0≤i) (hib:i+1≤b) (hb:b≤l0.length) (hf0:Fine P d l0):∃ l',aK (lL br b) (i+1,l0)=some l'∧On d i b l0 l':=by
 have hL:=hf0.len
 refine nP (fun s:Int×List α=>(b-s.1).toNat) (fun s:Int×List α=>i+1≤s.1∧On d i b l0 s.2) _ (lL br b) ?_ (i+1,l0) ⟨Int.le_refl _,.refl _⟩
 rintro ⟨j,l⟩ ⟨h1,hon⟩
 simp only at h1 hon ⊢
 have hf:=hf0.on hon
 have hl:=hon.len
 unfold lL
 by_cases q:j<b
 ·cases hc:lt (gz d l j) (gz d l (j-1)) with
  | true =>
    left
    refine ⟨(j+1,sw d l j (j-1)), ?_,⟨by simp only;omega,.step hon j (j-1) (by omega) (by omega) (by omega) (by omega) hi (by omega)⟩,by simp only;omega⟩
    simp (disch:=first | omega | (simp only [List.length_set];omega) | (refine hf.all _ ?_ ?_ <;> omega)) only [q,decide_true,if_true,bA,aS,jM d,Option.bind_some,hbr,hc,Bool.not_true,Bool.false_eq_true,if_false]
    rfl
  | false =>
    right
    refine ⟨l, ?_,hon⟩
    simp (disch:=first | omega | (refine hf.all _ ?_ ?_ <;> omega)) only [q,decide_true,if_true,bA,jM d,Option.bind_some,hbr,hc,Bool.not_false]
 ·right
  exact ⟨l,by simp only [q,decide_false,Bool.false_eq_true,if_false],hon⟩
include w
theorem UX {a b i:Int} {l0:List α} (ha:0≤a) (hi:a<i) (hib:i≤b) (hb:b≤l0.length) (hf0:Fine P d l0) (hpre:0<a→∀ k,a≤k→k<b→lt (gz d l0 k) (gz d l0 (a-1))=false) (h0:Asc d lt a (i-1) l0) :
  ∃ l',aK (lM br) (i-1,l0)=some l'∧On d a i l0 l'∧Asc d lt a i l':=by
 have hL:=hf0.len
 refine nP (fun s:Int×List α=>(s.1-a).toNat) (fun s:Int×List α=>a≤s.1∧s.1≤i-1∧On d a i l0 s.2∧∀ p q:Int,a≤p→p<q→q≤i-1→q≠s.1→lt (gz d s.2 q) (gz d s.2 p)=false)
  (fun l'=>On d a i l0 l'∧Asc d lt a i l') (lM br) ?_ (i-1,l0) ⟨by simp only;omega,Int.le_refl _,.refl _,fun p q h1 h2 h3 h4=>h0 p q h1 h2 (by simp only at h4;omega)⟩
 rintro ⟨j,l⟩ ⟨h1,h2,hon,hI⟩
 simp only at h1 h2 hon hI ⊢
 have hf:=hf0.on hon
 have hl:=hon.len
 have stop:(j=a∨lt (gz d l j) (gz d l (j-1))=false)→Asc d lt a i l:=fun hs p q p1 p2 p3=>by
  by_cases e1:q=j
  ·subst e1
   rcases hs with hs | hs
   ·omega
   ·by_cases e2:p=q-1
    ·subst e2;exact hs
    ·exact w.le_trans (hI p (q-1) p1 (by omega) (by omega) (by omega)) hs
  ·exact hI p q p1 p2 (by omega) e1
 unfold lM
 by_cases hj:j ≥ 1
 ·cases hc:lt (gz d l j) (gz d l (j-1)) with
  | false =>
    right
    refine ⟨l, ?_,hon,stop (.inr hc)⟩
    simp (disch:=first | omega | (refine hf.all _ ?_ ?_ <;> omega)) only [hj,decide_true,if_true,bA,jM d,Option.bind_some,hbr,hc,Bool.not_false]
  | true =>
    have hja:a<j:=by
     rcases Int.lt_or_le a j with q | q
     ·exact q
     ·exfalso
      obtain rfl:j=a:=by omega
      have e:gz d l (j-1)=gz d l0 (j-1):=hon.out d (by omega) (.inl (by omega))
      have:=hon.all d (fun x=>lt x (gz d l0 (j-1))=false) (fun k k1 k2=>hpre (by omega) k k1 (by omega)) j (Int.le_refl _) hi
      rw [e,this] at hc;cases hc
    left
    refine ⟨(j-1,sw d l j (j-1)), ?_,⟨by simp only;omega,by simp only;omega,.step hon j (j-1) (by omega) (by omega) (by omega) (by omega) ha (by omega), ?_⟩,by simp only;omega⟩
    ·simp (disch:=first | omega | (simp only [List.length_set];omega) | (refine hf.all _ ?_ ?_ <;> omega)) only [hj,decide_true,if_true,bA,jM d,Option.bind_some,hbr,hc,Bool.not_true,Bool.false_eq_true,if_false]
     rfl
    ·simp only
     intro p q p1 p2 p3 p4
     rw [tO d (by omega) (by omega) (by omega) (by omega) (by omega),tO d (by omega) (by omega) (by omega) (by omega) (by omega)]
     rw [if_neg p4]
     by_cases e1:q=j
     ·rw [if_pos e1]
      by_cases e2:p=j-1
      ·rw [if_pos e2];exact w.asymm _ _ hc
      ·rw [if_neg e2,if_neg (by omega)]
       exact hI p (j-1) (by omega) (by omega) (by omega) (by omega)
     ·rw [if_neg e1]
      by_cases e2:p=j-1
      ·rw [if_pos e2];exact hI j q (by omega) (by omega) p3 e1
      ·rw [if_neg e2]
       by_cases e3:p=j
       ·rw [if_pos e3];exact hI (j-1) q (by omega) (by omega) p3 e1
       ·rw [if_neg e3];exact hI p q p1 p2 p3 e1
 ·right
  refine ⟨l,by simp only [hj,decide_false,Bool.false_eq_true,if_false],hon,stop (.inl (by omega))⟩
theorem OX {a b:Int} {l0:List α} (ha:0≤a) (hab:a<b) (hb:b≤l0.length) (hf0:Fine P d l0) (hpre:0<a→∀ k,a≤k→k<b→lt (gz d l0 k) (gz d l0 (a-1))=false) :
  ∃ r l',vH br a b l0=some (r,l')∧On d a b l0 l'∧(r=true→Asc d lt a b l'):=by
 have hL:=hf0.len
 have s1:aJ b a=b-a:=bA (by omega) (by omega)
 have s2:aL a 1=a+1:=aS (by omega) (by omega)
 obtain ⟨r,r1,r2⟩:=nP (fun s:Int×Int×List α=>(5-s.2.1).toNat) (fun s:Int×Int×List α=>a+1≤s.1∧s.1≤b∧0≤s.2.1∧On d a b l0 s.2.2∧Asc d lt a s.1 s.2.2)
  (fun r:Bool×List α ⊕ List α=>match r with | .inl x=>On d a b l0 x.2∧(x.1=true→Asc d lt a b x.2) | .inr l=>On d a b l0 l) (rD br a b) (by
  rintro ⟨i,c,l⟩ ⟨i1,i2,i3,hon,hA⟩
  simp only at i1 i2 i3 hon hA ⊢
  have hf:=hf0.on hon
  have hl:=hon.len
  unfold rD
  by_cases hc5:c<5
  case neg =>
   right
   exact ⟨.inr l,by simp only [hc5,decide_false,Bool.false_eq_true,if_false],hon⟩
  obtain ⟨x,x1,x2,x3,x4,x5⟩:=BA (body:=lK br b (i,c,l)) (fun k=>!lt (gz d l k) (gz d l (k-1))) (i:=i) (j:=b-1) (by omega) (fun s q1 q2=>by
   unfold lK
   simp (disch:=first | omega | (refine hf.all _ ?_ ?_ <;> omega)) only [show s<b from by omega,decide_true,if_true,jM d,Option.bind_some,hbr,aS,bA]) (by
   unfold lK
   simp only [show ¬ b-1+1<b from by omega,decide_false,Bool.false_eq_true,if_false,Option.bind_some])
  have hAx:Asc d lt a x l:=by
   have:∀ n:Nat,∀ y,y≤x→y≤i+n→Asc d lt a y l:=by
    intro n
    induction n with
    | zero=>intro y _ y2 p q p1 p2 p3;exact hA p q p1 p2 (by omega)
    | succ n ih =>
      intro y y1 y2
      by_cases e:y≤i+n
      ·exact ih y y1 e
      ·have h0:=ih (y-1) (by omega) (by omega)
       have h1:=x4 (y-1) (by omega) (by omega)
       simp only [Bool.not_eq_eq_eq_not,Bool.not_true] at h1
       intro p q p1 p2 p3
       by_cases e1:q=y-1
       ·subst e1
        by_cases e2:p=y-1-1
        ·subst e2;exact h1
        ·exact w.le_trans (h0 p (y-1-1) p1 (by omega) (by omega)) h1
       ·exact h0 p q p1 p2 (by omega)
   exact this (x-i).toNat x (Int.le_refl _) (by omega)
  simp only [hc5,decide_true,if_true,x1,Option.bind_some]
  by_cases hxb:x=b
  ·right
   refine ⟨.inl (true,l),by simp only [hxb,beq_self_eq_true,if_true],hon,fun _=>?_⟩
   simp only;rw [← hxb];exact hAx
  have hbx:(x==b)=false:=by simp [hxb]
  simp only [hbx,Bool.false_eq_true,if_false,s1]
  by_cases h50:b-a<50
  ·right
   exact ⟨.inl (false,l),by simp only [h50,decide_true,if_true],hon,fun q=>by cases q⟩
  left
  have e1:aJ x 1=x-1:=bA (by omega) (by omega)
  have e2:aJ x a=x-a:=bA (by omega) (by omega)
  have e3:aJ b x=b-x:=bA (by omega) (by omega)
  have e4:aL x 1=x+1:=aS (by omega) (by omega)
  have e5:aL c 1=c+1:=aS (by omega) (by omega)
  obtain ⟨l1,hl1⟩:∃ l1,sw d l x (x-1)=l1:=⟨_,rfl⟩
  have e6:List.set (List.set l (Int.toNat x) (gz d l (x-1))) (Int.toNat (x-1)) (gz d l x)=l1:=hl1
  have hon1:On d a b l0 l1:=hl1 ▸ .step hon x (x-1) (by omega) (by omega) (by omega) (by omega) ha (by omega)
  have hl1':=hon1.len
  have hf1:=hf0.on hon1
  have hpre1:0<a→∀ k,a≤k→k<b→lt (gz d l1 k) (gz d l1 (a-1))=false:=fun h k k1 k2=>by
   rw [hon1.out d (k:=a-1) (by omega) (.inl (by omega))]
   exact hon1.all d (fun y=>lt y (gz d l0 (a-1))=false) (fun k k1 k2=>hpre h k k1 k2) k k1 k2
  have hA1:Asc d lt a (x-1) l1:=fun p q p1 p2 p3=>by
   rw [← hl1,tO d (by omega) (by omega) (by omega) (by omega) (by omega),tO d (by omega) (by omega) (by omega) (by omega) (by omega),if_neg (by omega),if_neg (by omega),if_neg (by omega),if_neg (by omega)]
   exact hAx p q p1 p2 (by omega)
  -- behind the shift to the left
  have right_:∀ l2,On d a b l0 l2→Asc d lt a x l2→∃ l3,lJ br b (i,c,l) x l2=some (.inl (x,c+1,l3))∧On d a b l0 l3∧Asc d lt a x l3:=fun l2 o2 a2=>by
   have hl2:=o2.len
   unfold lJ rA
   by_cases q:b-x ≥ 2
   ·obtain ⟨l3,t1,t2⟩:=UY hbr (i:=x) (b:=b) (l0:=l2) (by omega) (by omega) (by omega) (hf0.on o2)
    refine ⟨l3, ?_,o2.trans d (t2.mono d ha (by omega) (Int.le_refl _) (by omega)),fun p q p1 p2 p3=>?_⟩
    ·simp only [e3,q,decide_true,if_true,e4,t1,Option.bind_some,e5]
    ·rw [t2.out d (by omega) (.inl (by omega)),t2.out d (by omega) (.inl (by omega))]
     exact a2 p q p1 p2 p3
   ·exact ⟨l2,by simp only [e3,q,decide_false,Bool.false_eq_true,if_false,e5],o2,a2⟩
  simp (disch:=first | omega | (simp only [List.length_set];omega)) only [h50,decide_false,Bool.false_eq_true,if_false,e1,e2,jM d,Option.bind_some,e6]
  by_cases h2:x-a ≥ 2
  ·obtain ⟨l2,t1,t2,t3⟩:=UX hbr w (a:=a) (b:=b) (i:=x) ha (by omega) (by omega) (by omega) hf1 hpre1 hA1
   obtain ⟨l3,u1,u2,u3⟩:=right_ l2 (hon1.trans d (t2.mono d ha (Int.le_refl _) (by omega) (by omega))) t3
   refine ⟨(x,c+1,l3), ?_,⟨by simp only;omega,by simp only;omega,by simp only;omega,u2,u3⟩,by simp only;omega⟩
   simp only [h2,decide_true,if_true,t1,Option.bind_some,u1]
  ·obtain ⟨l3,u1,u2,u3⟩:=right_ l1 hon1 (fun p q p1 p2 p3=>by omega)
   refine ⟨(x,c+1,l3), ?_,⟨by simp only;omega,by simp only;omega,by simp only;omega,u2,u3⟩,by simp only;omega⟩
   simp only [h2,decide_false,Bool.false_eq_true,if_false,u1]) (a+1,0,l0) ⟨by simp only;omega,by simp only;omega,by simp only;omega,.refl _,fun p q p1 p2 p3=>by simp only at p3;omega⟩
 unfold vH
 rw [s2,r1,Option.bind_some]
 cases r with
 | inl x=>exact ⟨x.1,x.2,rfl,r2.1,r2.2⟩
 | inr l=>exact ⟨false,l,rfl,r2,fun q=>by cases q⟩
end
end Go.SM
namespace Go.SM
open Go Go.VI
def Out {α:Type} (d:α) (lt:α→α→Bool) (a0 b0 a b:Int) (l:List α):Prop:=∀ p q:Int,a0≤p→p<q→q<b0→(p<a∨b≤q)→lt (gz d l q) (gz d l p)=false
def Pre {α:Type} (d:α) (lt:α→α→Bool) (a b:Int) (l:List α):Prop:=0<a→∀ k,a≤k→k<b→lt (gz d l k) (gz d l (a-1))=false
section
variable {α:Type} {br:Br α} {lt:α→α→Bool} {P:α→Prop} {d:α} (hbr:∀ (β:Type) (x y:α) (k:Bool→Option β),P x→P y→br β x y k=k (lt x y)) (w:Zk lt)
theorem DR {a0 b0 a b:Int} {l l':List α} (h:Out d lt a0 b0 a b l) (ho:On d a b l l') (h0:0≤a0) (h1:a0≤a) (h2:b≤b0):Out d lt a0 b0 a b l':=by
 intro p q p1 p2 p3 p4
 by_cases hp:a≤p∧p<b
 ·rw [ho.out d (k:=q) (by omega) (.inr (by omega))]
  exact ho.all d (fun x=>lt (gz d l q) x=false) (fun k k1 k2=>h k q (by omega) (by omega) p3 (.inr (by omega))) p hp.1 hp.2
 ·rw [ho.out d (k:=p) (by omega) (by omega)]
  by_cases hq:a≤q∧q<b
  ·exact ho.all d (fun x=>lt x (gz d l p)=false) (fun k k1 k2=>h p k p1 (by omega) (by omega) (.inl (by omega))) q hq.1 hq.2
  ·rw [ho.out d (k:=q) (by omega) (by omega)]
   exact h p q p1 p2 p3 p4
theorem A8 {a0 b0 a b:Int} {l:List α} (h:Out d lt a0 b0 a b l) (ha:Asc d lt a b l):Asc d lt a0 b0 l:=by
 intro p q p1 p2 p3
 by_cases e:p<a∨b≤q
 ·exact h p q p1 p2 p3 e
 ·exact ha p q (by omega) p2 (by omega)
theorem OY {a0 b0 a b:Int} {l0 l:List α} (hp:Pre d lt a0 b0 l0) (h0:0≤a0) (h1:a0≤a) (h2:b≤b0) (ho:On d a0 b0 l0 l) (h:Out d lt a0 b0 a b l):Pre d lt a b l:=by
 intro hpos k k1 k2
 by_cases e:a=a0
 ·subst e
  rw [ho.out d (k:=a-1) (by omega) (.inl (by omega))]
  exact ho.all d (fun x=>lt x (gz d l0 (a-1))=false) (fun k k1 k2=>hp hpos k k1 k2) k k1 (by omega)
 ·exact h (a-1) k (by omega) (by omega) (by omega) (.inl (by omega))
theorem pre_on {a b:Int} {l l':List α} (hp:Pre d lt a b l) (h0:0≤a) (ho:On d a b l l'):Pre d lt a b l':=OY (a0:=a) (b0:=b) hp h0 (Int.le_refl _) (Int.le_refl _) ho fun p q p1 p2 p3 p4=>absurd p4 (by omega)
include hbr w
theorem MF {self:Int→Int→Int→List α→Option (List α)} {N:Int}
  (hself:∀ (a b limit:Int) (l:List α),0≤a→a≤b→b≤l.length→Fine P d l→Pre d lt a b l→b-a<N→∃ l',self a b limit l=some l'∧On d a b l l'∧Asc d lt a b l')
  {a0 b0 limit:Int} {l0:List α} (h0:0≤a0) (hab:a0≤b0) (hb:b0≤l0.length) (hf0:Fine P d l0) (hpre:Pre d lt a0 b0 l0) (hN:b0-a0≤12∨b0-a0<2*N) :
  ∃ l',aK (Eh br self) (a0,b0,limit,true,true,l0)=some l'∧On d a0 b0 l0 l'∧Asc d lt a0 b0 l':=by
 have hL:=hf0.len
 refine nP (fun s:Int×Int×Int×Bool×Bool×List α=>(s.2.1-s.1).toNat) (fun s:Int×Int×Int×Bool×Bool×List α=>a0≤s.1∧s.1≤s.2.1∧s.2.1≤b0∧On d a0 b0 l0 s.2.2.2.2.2∧Out d lt a0 b0 s.1 s.2.1 s.2.2.2.2.2)
  (fun l'=>On d a0 b0 l0 l'∧Asc d lt a0 b0 l') (Eh br self) ?_ (a0,b0,limit,true,true,l0) ⟨Int.le_refl _,hab,Int.le_refl _,.refl _,fun p q p1 p2 p3 p4=>absurd p4 (by simp only;omega)⟩
 rintro ⟨a,b,lim,wb,wp,l⟩ ⟨i1,i2,i3,hon,hout⟩
 simp only at i1 i2 i3 hon hout ⊢
 have hf:=hf0.on hon
 have hl:=hon.len
 have s1:aJ b a=b-a:=bA (by omega) (by omega)
 -- what ends it
 have fin:∀ l',On d a b l l'→Asc d lt a b l'→On d a0 b0 l0 l'∧Asc d lt a0 b0 l':=fun l' o as =>
  ⟨hon.trans d (o.mono d h0 i1 i3 (by omega)),A8 (DR hout o h0 i1 i3) as⟩
 unfold Eh
 simp only [s1]
 by_cases h12:b-a≤12
 ·right
  obtain ⟨l',t1,t2,t3⟩:=Xx hbr w (a:=a) (b:=b) (l0:=l) (by omega) i2 (by omega) hf
  exact ⟨l',by simp only [h12,decide_true,if_true,t1,Option.bind_some],fin l' t2 t3⟩
 simp only [h12,decide_false,Bool.false_eq_true,if_false]
 by_cases hz:lim=0
 ·right
  obtain ⟨l',t1,t2,t3⟩:=LM hbr w (a:=a) (b:=b) (l0:=l) (by omega) i2 (by omega) hf
  exact ⟨l',by simp only [hz,beq_self_eq_true,if_true,t1,Option.bind_some],fin l' t2 t3⟩
 have hz':(lim==0)=false:=by simp [hz]
 simp only [hz',Bool.false_eq_true,if_false]
 have hN':b-a<2*N:=by omega
 -- the partition
 have k1 : ∀ (j127:Int×List α) (pivot hint:Int) (lx:List α) (wb' wp':Bool) (l1:List α),On d a b l l1→a≤pivot→pivot<b →
   (∃ s',yR br self (a,b,lim,wb,wp,l) j127 (pivot,hint,lx) (wb',wp',l1)=some (.inl s')∧(a0≤s'.1∧s'.1≤s'.2.1∧s'.2.1≤b0∧On d a0 b0 l0 s'.2.2.2.2.2∧Out d lt a0 b0 s'.1 s'.2.1 s'.2.2.2.2.2)∧(s'.2.1-s'.1).toNat<(b-a).toNat) ∨
   (∃ r,yR br self (a,b,lim,wb,wp,l) j127 (pivot,hint,lx) (wb',wp',l1)=some (.inr r)∧On d a0 b0 l0 r∧Asc d lt a0 b0 r):=by
  intro j127 pivot hint lx wb' wp' l1 o1 v1 v2
  left
  have hl1:=o1.len
  have hf1:=hf.on o1
  have hon1:On d a0 b0 l0 l1:=hon.trans d (o1.mono d h0 i1 i3 (by omega))
  have hout1:=DR hout o1 h0 i1 i3
  have hpre1:Pre d lt a b l1:=OY hpre h0 i1 i3 hon1 hout1
  have part:∃ s',((Gg br a b pivot l1).bind fun r162=>if (decide ((aJ r162.1 a)<(aJ b r162.1))) then ((self a r162.1 j127.1 r162.2.2).bind fun r164=>some (.inl ((aL r162.1 1),b,j127.1,(decide ((aJ r162.1 a) ≥ (yP (aJ b a) 8))),r162.2.1,r164))) else ((self (aL r162.1 1) b j127.1 r162.2.2).bind fun r166=>some (Sum.inl (β:=List α) (a,r162.1,j127.1,(decide ((aJ b r162.1) ≥ (yP (aJ b a) 8))),r162.2.1,r166))))=some (.inl s') ∧
    (a0≤s'.1∧s'.1≤s'.2.1∧s'.2.1≤b0∧On d a0 b0 l0 s'.2.2.2.2.2∧Out d lt a0 b0 s'.1 s'.2.1 s'.2.2.2.2.2)∧(s'.2.1-s'.1).toNat<(b-a).toNat:=by
   obtain ⟨mid,al,l2,t1,t2,t3,t4,t5,t6⟩:=JI hbr (a:=a) (b:=b) (pivot:=pivot) (l0:=l1) (by omega) (by omega) (by omega) hf1 v1 v2
   have hl2:=t2.len
   have hf2:=hf1.on t2
   have hon2:On d a0 b0 l0 l2:=hon1.trans d (t2.mono d h0 i1 i3 (by omega))
   have hout2:=DR hout1 t2 h0 i1 i3
   have hpre2:Pre d lt a b l2:=pre_on hpre1 (by omega) t2
   -- all pairs that are not both on one side
   have ord:∀ p q:Int,a0≤p→p<q→q<b0→(p<a∨b≤q∨(p≤mid∧mid≤q))→lt (gz d l2 q) (gz d l2 p)=false:=fun p q p1 p2 p3 p4=>by
    by_cases e:p<a∨b≤q
    ·exact hout2 p q p1 p2 p3 e
    ·by_cases ep:p=mid
     ·subst ep;exact t6 q (by omega) (by omega)
     ·have hp:=w.asymm _ _ (t5 p (by omega) (by omega))
      by_cases eq:q=mid
      ·subst eq;exact hp
      ·exact w.le_trans hp (t6 q (by omega) (by omega))
   have e1:aJ mid a=mid-a:=bA (by omega) (by omega)
   have e2:aJ b mid=b-mid:=bA (by omega) (by omega)
   have e3:aL mid 1=mid+1:=aS (by omega) (by omega)
   simp only [t1,Option.bind_some,e1,e2,e3]
   by_cases hlr:mid-a<b-mid
   ·obtain ⟨l3,u1,u2,u3⟩:=hself a mid j127.1 l2 (by omega) t3 (by omega) hf2 (fun hpos k k1 k2=>hpre2 hpos k k1 (by omega)) (by omega)
    simp only [hlr,decide_true,if_true,u1,Option.bind_some]
    refine ⟨_,rfl,⟨by simp only;omega,by simp only;omega,i3,hon2.trans d (u2.mono d h0 i1 (by omega) (by omega)), ?_⟩,by simp only;omega⟩
    intro p q p1 p2 p3 p4
    simp only at p4 ⊢
    by_cases hp:a≤p∧p<mid
    ·by_cases hq:q<mid
     ·exact u3 p q hp.1 p2 hq
     ·rw [u2.out d (k:=q) (by omega) (.inr (by omega))]
      exact u2.all d (fun x=>lt (gz d l2 q) x=false) (fun k k1 k2=>ord k q (by omega) (by omega) p3 (by omega)) p hp.1 hp.2
    ·rw [u2.out d (k:=p) (by omega) (by omega)]
     by_cases hq:a≤q∧q<mid
     ·exact u2.all d (fun x=>lt x (gz d l2 p)=false) (fun k k1 k2=>ord p k p1 (by omega) (by omega) (by omega)) q hq.1 hq.2
     ·rw [u2.out d (k:=q) (by omega) (by omega)]
      exact ord p q p1 p2 p3 (by omega)
   ·obtain ⟨l3,u1,u2,u3⟩:=hself (mid+1) b j127.1 l2 (by omega) (by omega) (by omega) hf2 (fun hpos k k1 k2=>by
     rw [show mid+1-1=mid from by omega]
     exact t6 k (by omega) k2) (by omega)
    simp only [hlr,decide_false,Bool.false_eq_true,if_false,u1,Option.bind_some]
    refine ⟨_,rfl,⟨i1,t3,by simp only;omega,hon2.trans d (u2.mono d h0 (by omega) i3 (by omega)), ?_⟩,by simp only;omega⟩
    intro p q p1 p2 p3 p4
    simp only at p4 ⊢
    by_cases hp:mid+1≤p∧p<b
    ·by_cases hq:q<b
     ·exact u3 p q hp.1 p2 hq
     ·rw [u2.out d (k:=q) (by omega) (.inr (by omega))]
      exact u2.all d (fun x=>lt (gz d l2 q) x=false) (fun k k1 k2=>ord k q (by omega) (by omega) p3 (by omega)) p hp.1 hp.2
    ·rw [u2.out d (k:=p) (by omega) (by omega)]
     by_cases hq:mid+1≤q∧q<b
     ·exact u2.all d (fun x=>lt x (gz d l2 p)=false) (fun k k1 k2=>ord p k p1 (by omega) (by omega) (by omega)) q hq.1 hq.2
     ·rw [u2.out d (k:=q) (by omega) (by omega)]
      exact ord p q p1 p2 p3 (by omega)
  unfold yR
  by_cases hpos:a>0
  ·cases hc:lt (gz d l1 (a-1)) (gz d l1 pivot) with
   | true =>
     simp (disch:=first | omega | (refine hf1.all _ ?_ ?_ <;> omega)) only [hpos,decide_true,if_true,bA,jM d,Option.bind_some,hbr,hc,Bool.not_true,Bool.false_eq_true,if_false]
     simpa only [s1] using part
   | false =>
     obtain ⟨mid,l2,t1,t2,t3,t4,t5⟩:=Xa hbr (a:=a) (b:=b) (pivot:=pivot) (l0:=l1) (by omega) (by omega) (by omega) hf1 v1 v2 w.irrefl
     refine ⟨(mid,b,j127.1,wb',wp',l2), ?_,⟨by simp only;omega,t4,i3,hon1.trans d (t2.mono d h0 i1 i3 (by omega)), ?_⟩,by simp only;omega⟩
     ·simp (disch:=first | omega | (refine hf1.all _ ?_ ?_ <;> omega)) only [hpos,decide_true,if_true,bA,jM d,Option.bind_some,hbr,hc,Bool.not_false,t1]
     ·have hout2:=DR hout1 t2 h0 i1 i3
      have hpre2:Pre d lt a b l2:=pre_on hpre1 (by omega) t2
      have hl2:=t2.len
      intro p q p1 p2 p3 p4
      simp only at p4 ⊢
      by_cases e:p<a∨b≤q
      ·exact hout2 p q p1 p2 p3 e
      ·have hp:=t5 p (by omega) (by omega)
       have hq:=hpre2 hpos q (by omega) (by omega)
       rw [t2.out d (k:=a-1) (by omega) (.inl (by omega))] at hq
       cases hlt:lt (gz d l2 q) (gz d l2 p) with
       | false=>rfl
       | true =>
         rcases w.neg _ (gz d l1 pivot) _ hlt with r | r
         ·rcases w.neg _ (gz d l1 (a-1)) _ r with r | r
          ·rw [hq] at r;cases r
          ·rw [hc] at r;cases r
         ·rw [hp] at r;cases r
  ·simp only [hpos,decide_false,Bool.false_eq_true,if_false,Option.bind_some]
   simpa only [s1] using part
 have k2:∀ (j127:Int×List α) (pivot hint:Int) (l1:List α),On d a b l l1→a≤pivot→pivot<b →
   (∃ s',yS br self (a,b,lim,wb,wp,l) j127 (pivot,hint,l1)=some (.inl s')∧(a0≤s'.1∧s'.1≤s'.2.1∧s'.2.1≤b0∧On d a0 b0 l0 s'.2.2.2.2.2∧Out d lt a0 b0 s'.1 s'.2.1 s'.2.2.2.2.2)∧(s'.2.1-s'.1).toNat<(b-a).toNat) ∨
   (∃ r,yS br self (a,b,lim,wb,wp,l) j127 (pivot,hint,l1)=some (.inr r)∧On d a0 b0 l0 r∧Asc d lt a0 b0 r):=by
  intro j127 pivot hint l1 o1 v1 v2
  unfold yS
  obtain ⟨c,hc⟩:∃ c:Bool×Bool×Bool,(if wb then (if wp then (some (true,true,(hint==1))) else (some (true,false,false))) else (some (false,wp,false)))=some c:=by
   cases wb <;> cases wp <;> exact ⟨_,rfl⟩
  simp only [hc,Option.bind_some]
  cases hc2:c.2.2 with
  | false =>
    simp only [Bool.false_eq_true,if_false]
    exact k1 _ _ _ _ _ _ _ o1 v1 v2
  | true =>
    have hl1:=o1.len
    have hon1:On d a0 b0 l0 l1:=hon.trans d (o1.mono d h0 i1 i3 (by omega))
    have hpre1:Pre d lt a b l1:=OY hpre h0 i1 i3 hon1 (DR hout o1 h0 i1 i3)
    obtain ⟨r,l2,t1,t2,t3⟩:=OX hbr w (a:=a) (b:=b) (l0:=l1) (by omega) (by omega) (by omega) (hf.on o1) hpre1
    simp only [if_true,t1,Option.bind_some]
    cases hr:r with
    | true =>
      right
      simp only [if_true]
      exact ⟨l2,rfl,fin l2 (o1.trans d t2) (t3 hr)⟩
    | false =>
      simp only [Bool.false_eq_true,if_false]
      exact k1 _ _ _ _ _ _ _ (o1.trans d t2) v1 v2
 have k3:∀ (lim':Int) (l1:List α),On d a b l l1 →
   (∃ s',yT br self (a,b,lim,wb,wp,l) (lim',l1)=some (.inl s')∧(a0≤s'.1∧s'.1≤s'.2.1∧s'.2.1≤b0∧On d a0 b0 l0 s'.2.2.2.2.2∧Out d lt a0 b0 s'.1 s'.2.1 s'.2.2.2.2.2)∧(s'.2.1-s'.1).toNat<(b-a).toNat) ∨
   (∃ r,yT br self (a,b,lim,wb,wp,l) (lim',l1)=some (.inr r)∧On d a0 b0 l0 r∧Asc d lt a0 b0 r):=by
  intro lim' l1 o1
  have hl1:=o1.len
  unfold yT
  obtain ⟨pv,h,t1,t2,t3⟩:=SS hbr (l:=l1) (hf.on o1) (a:=a) (b:=b) (by omega) (by omega) (by omega)
  simp only [t1,Option.bind_some]
  by_cases h2:h=2
  ·obtain ⟨l2,u1,u2⟩:=PG (br:=br) (d:=d) (a:=a) (b:=b) (l0:=l1) (by omega) (by omega) (by omega) i2
   have e1:aJ b 1=b-1:=bA (by omega) (by omega)
   have e2:aJ pv a=pv-a:=bA (by omega) (by omega)
   have e3:aJ (b-1) (pv-a)=b-1-(pv-a):=bA (by omega) (by omega)
   simp only [h2,beq_self_eq_true,if_true,u1,Option.bind_some,e1,e2,e3]
   exact k2 _ _ _ _ (o1.trans d u2) (by omega) (by omega)
  ·have:(h==2)=false:=by simp [h2]
   simp only [this,Bool.false_eq_true,if_false]
   exact k2 _ _ _ _ o1 t2 t3
 cases hwb:wb with
 | false =>
   obtain ⟨l1,t1,t2⟩:=VW (br:=br) (d:=d) (a:=a) (b:=b) (l0:=l) (by omega) (by omega) (by omega) i2
   simp only [Bool.not_false,if_true,t1,Option.bind_some]
   have:=k3 (aJ lim 1) l1 t2
   rw [hwb] at this
   exact this
 | true =>
   simp only [Bool.not_true,Bool.false_eq_true,if_false]
   have:=k3 lim l (.refl _)
   rw [hwb] at this
   exact this
theorem YO:∀ (n:Nat) (a b limit:Int) (l:List α),0≤a→a≤b→b≤l.length→Fine P d l→Pre d lt a b l→b-a<2^n→∃ l',tL br (n+1) a b limit l=some l'∧On d a b l l'∧Asc d lt a b l'
 | 0,a,b,limit,l,h0,hab,hb,hf,hp,hn=>by
   obtain ⟨l',t1,t2,t3⟩:=MF hbr w (self:=tL br 0) (N:=0) (fun a b limit l h1 h2 _ _ _ h3=>by omega) (limit:=limit) h0 hab hb hf hp (.inl (by omega))
   refine ⟨l', ?_,t2,t3⟩
   show wT br (tL br 0) a b limit l=some l'
   unfold wT
   rw [t1];rfl
 | n+1,a,b,limit,l,h0,hab,hb,hf,hp,hn=>by
   obtain ⟨l',t1,t2,t3⟩:=MF hbr w (self:=tL br (n+1)) (N:=2^n) (fun a b limit l h1 h2 h3 h4 h5 h6=>YO n a b limit l h1 h2 h3 h4 h5 h6) (limit:=limit) h0 hab hb hf hp (.inr (by rw [Int.pow_succ] at hn;omega))
   refine ⟨l', ?_,t2,t3⟩
   show wT br (tL br (n+1)) a b limit l=some l'
   unfold wT
   rw [t1];rfl
theorem J4 (m:Nat) (hm:31≤m) {l:List α} (hf:Fine P d l) (v:Int):∃ l',tL br (m+1) 0 (l.length:Int) v l=some l'∧On d 0 (l.length:Int) l l'∧Asc d lt 0 (l.length:Int) l':=by
 have hL:=hf.len
 refine YO hbr w m 0 (l.length:Int) v l (Int.le_refl _) (by omega) (Int.le_refl _) hf (fun h=>absurd h (by omega)) ?_
 have h1:(2147483648:Nat)≤2^m:=Nat.le_trans (by decide:2147483648≤2^31) (Nat.pow_le_pow_right (by omega) hm)
 have h3:((2:Int)^m)=((2^m:Nat):Int):=by simp
 rw [h3]
 omega
theorem NA {l:List α} (hf:Fine P d l):∃ l',Qu br l=some l'∧l'.Perm l∧l'.Pairwise fun x y=>lt y x=false:=by
 have hL:=hf.len
 obtain ⟨v,v1,_⟩:=XZ (x:=(l.length:Int)) (by omega) hL
 obtain ⟨l',t1,t2,t3⟩:=J4 hbr w 999 (by omega) hf v
 refine ⟨l', ?_,t2.perm, ?_⟩
 ·unfold Qu CP
  rw [v1,Option.bind_some,t1];rfl
 ·have hl:=t2.len
  rw [List.pairwise_iff_getElem]
  intro i j hi hj hij
  have:=t3 (i:Int) (j:Int) (by omega) (by omega) (by omega)
  unfold gz at this
  rw [List.getD_eq_getElem?_getD,List.getD_eq_getElem?_getD,Int.toNat_natCast,Int.toNat_natCast,List.getElem?_eq_getElem hi,List.getElem?_eq_getElem hj] at this
  exact this
end
end Go.SM
namespace Go.SM
open Go Go.VI
noncomputable def Ef {α:Type} (s1642:Int×Int×(List α)):Int×(List α)→Option (Int×Int×(List α) ⊕ Int×(List α)):=fun j1674 =>
 some (.inl (j1674.1,(aL s1642.2.1 1),j1674.2))
noncomputable def Eg {α:Type} (eqb:α→α→Bool) (h0:(List α)) (s1127:Int):Int×Int×(List α)→Option (Int×Int×(List α) ⊕ Int×(List α)):=fun s1642 =>
 if (decide (s1642.2.1<((Int.toNat (h0.length:Int)-Int.toNat s1127:Nat):Int))) then ((idx (List.take (Int.toNat (h0.length:Int)-Int.toNat s1127) (List.drop (Int.toNat s1127) s1642.2.2)) s1642.2.1).bind fun x1679=>(idx (List.take (Int.toNat (h0.length:Int)-Int.toNat s1127) (List.drop (Int.toNat s1127) s1642.2.2)) (aJ s1642.2.1 1)).bind fun x1680=>if (!(eqb x1679 x1680)) then ((idx (List.take (Int.toNat (h0.length:Int)-Int.toNat s1127) (List.drop (Int.toNat s1127) s1642.2.2)) s1642.2.1).bind fun x1683=>(idx s1642.2.2 s1642.1).bind fun x1684=>Ef s1642 ((aL s1642.1 1),(List.set s1642.2.2 (Int.toNat s1642.1) x1683))) else (Ef s1642 (s1642.1,s1642.2.2))) else (some (.inr (s1642.1,s1642.2.2)))
noncomputable def Ku {α:Type} (eqb:α→α→Bool) (z:α) (h0:(List α)):Int→Option (Int ⊕ ((List α) ⊕ Unit)):=fun s1127 =>
 if (decide (s1127<(h0.length:Int))) then ((idx h0 s1127).bind fun x1552=>(idx h0 (aJ s1127 1)).bind fun x1553=>if (eqb x1552 x1553) then (if (decide ((0:Int)≤s1127)&&(decide (s1127≤(h0.length:Int))&&decide ((h0.length:Int)≤(h0.length:Int)))) then ((aK (Eg eqb h0 s1127) (s1127,1,h0)).bind fun x1685=>if (decide ((0:Int)≤x1685.1)&&(decide (x1685.1≤(x1685.2.length:Int))&&decide ((x1685.2.length:Int)≤(x1685.2.length:Int)))) then ((slc (cpy x1685.2 (Int.toNat x1685.1) (List.replicate (Int.toNat (x1685.2.length:Int)-Int.toNat x1685.1) z)) 0 x1685.1).bind fun l1687=>some (.inr (.inl l1687))) else none) else none) else (some (.inl (aL s1127 1)))) else (some (.inr (.inr (()))))
noncomputable def Ux {α:Type} (eqb:α→α→Bool) (z:α) (h0:(List α)):Option ((List α)):=
 if (decide ((h0.length:Int)<2)) then (some h0) else ((aK (Ku eqb z h0) 1).bind fun x1688=>match x1688 with | .inl j1689=>some j1689 | .inr j1690=>some h0)
section
variable {α:Type} {lt:α→α→Bool} (w:Zk lt) (tri:∀ x y,lt x y=false→lt y x=false→x=y) {eqb:α→α→Bool} (heq:∀ x y,eqb x y=true↔x=y) (z:α)
include w tri
theorem Zg {r:List α} {y x:α} (hr:(r++[y]).Pairwise fun a b=>lt a b=true) (hy:lt x y=false) (hne:x≠y):(r++[y]++[x]).Pairwise fun a b=>lt a b=true:=by
 have hyx:lt y x=true:=by
  cases h:lt y x with
  | true=>rfl
  | false=>exact absurd (tri x y hy h) hne
 rw [List.pairwise_append]
 refine ⟨hr,by simp,fun a ha b hb=>?_⟩
 simp at hb
 subst hb
 rw [List.pairwise_append] at hr
 rcases List.mem_append.1 ha with m | m
 ·have h1:=hr.2.2 a m y (by simp)
  rcases w.neg y a b hyx with q | q
  ·rw [w.asymm _ _ h1] at q;cases q
  ·exact q
 ·simp at m;subst m;exact hyx
include heq
theorem NQ {l:List α} (hl:(l.length:Int)≤1073741824) (hs:l.Pairwise fun x y=>lt y x=false) :
  ∃ r,Ux eqb z l=some r∧(r.Pairwise fun x y=>lt x y=true)∧∀ x,x ∈ r↔x ∈ l:=by
 unfold Ux
 by_cases h2:(l.length:Int)<2
 ·refine ⟨l,by simp only [h2,decide_true,if_true], ?_,fun x=>Iff.rfl⟩
  have hlen:l.length<2:=by omega
  clear hl hs h2
  rcases l with _ | ⟨x,_ | ⟨y,t⟩⟩
  ·exact .nil
  ·simp
  ·simp at hlen;omega
 simp only [h2,decide_false,Bool.false_eq_true,if_false]
 have adj:∀ (i j:Nat) (x y:α),i<j→l[i]?=some x→l[j]?=some y→lt y x=false:=fun i j x y hij hx hy=>by
  have h1:=(List.getElem?_eq_some_iff.1 hx)
  have h3:=(List.getElem?_eq_some_iff.1 hy)
  obtain ⟨a1,rfl⟩:=h1
  obtain ⟨b1,rfl⟩:=h3
  exact List.pairwise_iff_getElem.1 hs i j a1 b1 hij
 have get:∀ i:Nat,i<l.length→∃ x,l[i]?=some x:=fun i hi=>⟨l[i],List.getElem?_eq_getElem hi⟩
 have takes:∀ (i:Nat) (x:α),l[i]?=some x→l.take (i+1)=l.take i++[x]:=fun i x hx=>by rw [List.take_add_one,hx];rfl
 -- the second walk
 have inner:∀ (k:Nat) (y:α),1≤k→k<l.length→l[k]?=some y→l[k-1]?=some y→((l.take k).Pairwise fun x y=>lt x y=true) →
   ∃ (i:Nat) (l':List α),aK (Eg eqb l (k:Int)) ((k:Int),1,l)=some ((i:Int),l')∧i≤l'.length∧l'.length=l.length∧((l'.take i).Pairwise fun x y=>lt x y=true)∧∀ x,x ∈ l'.take i↔x ∈ l:=by
  intro k y k1 kl hy hy1 hp
  obtain ⟨r,r1,i,r2,r3,r4,r5,r6⟩:=nP (fun s:Int×Int×List α=>((l.length:Int)-k-s.2.1).toNat)
   (fun s:Int×Int×List α=>∃ (i p:Nat) (y:α),s.1=i∧s.2.1=((p-k:Nat):Int)∧k+1≤p∧p≤l.length∧1≤i∧i≤p-1∧s.2.2.length=l.length∧s.2.2.drop i=l.drop i∧l[p-1]?=some y∧(∃ t,s.2.2.take i=t++[y])∧((s.2.2.take i).Pairwise fun x y=>lt x y=true)∧∀ x,x ∈ s.2.2.take i↔x ∈ l.take p)
   (fun r:Int×List α=>∃ i:Nat,r.1=i∧i≤r.2.length∧r.2.length=l.length∧((r.2.take i).Pairwise fun x y=>lt x y=true)∧∀ x,x ∈ r.2.take i↔x ∈ l) (Eg eqb l (k:Int)) (by
    rintro ⟨i',k2,m⟩ ⟨i,p,y,hi',hk2,p1,p2,i0,i1,hml,hdrop,hy,⟨t,ht⟩,hpw,hmem⟩
    simp only at hi' hk2 hml hdrop ht hpw hmem ⊢
    subst hi' hk2
    unfold Eg
    simp only [Int.toNat_natCast]
    by_cases hp:p<l.length
    ·left
     obtain ⟨x,hx⟩:=get p hp
     have mg:∀ j,i≤j→m[j]?=l[j]?:=fun j hj=>by
      have:=congrArg (fun q=>q[j-i]?) hdrop
      simp only [List.getElem?_drop] at this
      rwa [show i+(j-i)=j from by omega] at this
     have hc:((p-k:Nat):Int)<((l.length-k:Nat):Int):=by omega
     have g1:idx (List.take (l.length-k) (List.drop k m)) ((p-k:Nat):Int)=some x:=by
      rw [IW,List.getElem?_take,if_pos (by omega),List.getElem?_drop,show k+(p-k)=p from by omega,mg p (by omega),hx]
     have e1:aJ ((p-k:Nat):Int) 1=((p-1-k:Nat):Int):=by rw [bA (by omega) (by omega)];omega
     have g2:idx (List.take (l.length-k) (List.drop k m)) ((p-1-k:Nat):Int)=some y:=by
      rw [IW,List.getElem?_take,if_pos (by omega),List.getElem?_drop,show k+(p-1-k)=p-1 from by omega,mg (p-1) (by omega),hy]
     have e2:aL ((p-k:Nat):Int) 1=((p+1-k:Nat):Int):=by rw [aS (by omega) (by omega)];omega
     have e3:aL (i:Int) 1=((i+1:Nat):Int):=by rw [aS (by omega) (by omega)];omega
     have tk:=takes p x hx
     simp only [hc,decide_true,if_true,g1,Option.bind_some,e1,g2]
     cases hb:eqb x y with
     | true =>
       obtain rfl:=(heq x y).1 hb
       simp only [Bool.not_true,Bool.false_eq_true,if_false,Ef,e2]
       refine ⟨_,rfl,⟨i,p+1,x,rfl,rfl,by omega,by omega,i0,by omega,hml,hdrop,by rw [show p+1-1=p from by omega];exact hx,⟨t,ht⟩,hpw,fun v=>?_⟩,by simp only;omega⟩
       rw [hmem v,tk,List.mem_append,List.mem_singleton]
       constructor
       ·exact .inl
       ·rintro (q | rfl)
        ·exact q
        ·rw [← hmem v,ht];simp
     | false =>
       have hne:x≠y:=fun e=>by rw [(heq x y).2 e] at hb;cases hb
       have gi:idx m (i:Int)=some (m[i]'(by omega)):=by rw [IW];exact List.getElem?_eq_getElem _
       simp only [Bool.not_false,if_true,gi,Option.bind_some,Ef,e2,e3]
       have tset:(m.set i x).take (i+1)=m.take i++[x]:=by
        rw [List.take_add_one,List.take_set_of_le (Nat.le_refl i),List.getElem?_set,if_pos rfl,if_pos (by omega)];rfl
       refine ⟨_,rfl,⟨i+1,p+1,x,rfl,rfl,by omega,by omega,by omega,by omega,by simp only [List.length_set];exact hml, ?_,by rw [show p+1-1=p from by omega];exact hx,⟨m.take i,tset⟩, ?_,fun v=>?_⟩,by simp only;omega⟩
       ·simp only
        rw [List.drop_set_of_lt (by omega),← List.drop_drop,hdrop,List.drop_drop]
       ·simp only
        rw [tset,ht]
        rw [ht] at hpw
        exact Zg w tri hpw (adj (p-1) p y x (by omega) hy hx) hne
       ·simp only
        rw [tset,tk,List.mem_append,List.mem_append,hmem v]
    ·right
     have hc:¬ ((p-k:Nat):Int)<((l.length-k:Nat):Int):=by omega
     refine ⟨((i:Int),m),by simp only [hc,decide_false,Bool.false_eq_true,if_false],i,rfl,by simp only;omega,hml,hpw,fun v=>?_⟩
     rw [hmem v,List.take_of_length_le (by omega)]) ((k:Int),1,l) ⟨k,k+1,y,rfl,by simp only;omega,by omega,by omega,k1,by omega,rfl,rfl,by rw [show k+1-1=k from by omega];exact hy,⟨l.take (k-1),by
      have:=takes (k-1) y hy1
      rwa [show k-1+1=k from by omega] at this⟩,hp,fun v=>by
      rw [takes k y hy,List.mem_append,List.mem_singleton]
      constructor
      ·exact .inl
      ·rintro (q | rfl)
       ·exact q
       ·have:=takes (k-1) v hy1
        rw [show k-1+1=k from by omega] at this
        rw [this];simp⟩
  exact ⟨i,r.2,by rw [r1];congr 1;exact Prod.ext r2 rfl,r3,r4,r5,r6⟩
 obtain ⟨r,r1,r2⟩:=nP (fun s:Int=>((l.length:Int)-s).toNat) (fun s:Int=>∃ k:Nat,s=k∧1≤k∧k≤l.length∧((l.take k).Pairwise fun x y=>lt x y=true))
  (fun r:List α ⊕ Unit=>match r with | .inl r=>(r.Pairwise fun x y=>lt x y=true)∧∀ x,x ∈ r↔x ∈ l | .inr _=>l.Pairwise fun x y=>lt x y=true) (Ku eqb z l) (by
   rintro s ⟨k,rfl,k1,k2,hp⟩
   unfold Ku
   by_cases hk:k<l.length
   ·have hc:(k:Int)<(l.length:Int):=by omega
    obtain ⟨x,hx⟩:=get k hk
    obtain ⟨y,hy⟩:=get (k-1) (by omega)
    have e1:aJ (k:Int) 1=((k-1:Nat):Int):=by rw [bA (by omega) (by omega)];omega
    simp only [hc,decide_true,if_true,aP hx,Option.bind_some,e1,aP hy]
    cases hb:eqb x y with
    | false =>
      left
      have hne:x≠y:=fun e=>by rw [(heq x y).2 e] at hb;cases hb
      simp only [Bool.false_eq_true,if_false]
      refine ⟨((k+1:Nat):Int),by rw [aX k (by omega)],⟨k+1,rfl,by omega,by omega, ?_⟩,by omega⟩
      rw [takes k x hx]
      have:=takes (k-1) y hy
      rw [show k-1+1=k from by omega] at this
      rw [this] at hp ⊢
      exact Zg w tri hp (adj (k-1) k y x (by omega) hy hx) hne
    | true =>
      right
      obtain rfl:=(heq x y).1 hb
      obtain ⟨i,l',t1,t2,t3,t4,t5⟩:=inner k x k1 hk hx hy hp
      have c0:decide ((0:Int)≤(k:Int))=true:=by simp
      have c1:decide ((k:Int)≤(l.length:Int))=true:=by simp;omega
      have c2:decide ((l.length:Int)≤(l.length:Int))=true:=by simp
      have c3:decide ((0:Int)≤(i:Int))=true:=by simp
      have c4:decide ((i:Int)≤(l'.length:Int))=true:=by simp;omega
      have c5:decide ((l'.length:Int)≤(l'.length:Int))=true:=by simp
      have hsl:slc (cpy l' i (List.replicate (l'.length-i) z)) 0 (i:Int)=some (l'.take i):=by
       unfold slc cpy
       rw [if_pos ⟨Int.le_refl _,by omega,by simp;omega⟩]
       simp only [Int.toNat_natCast,Int.toNat_zero,List.drop_zero]
       rw [List.append_assoc,List.take_append_of_le_length (by rw [List.length_take];omega),List.take_take,Nat.min_self]
      simp only [if_true,c0,c1,c2,Bool.and_self,t1,Option.bind_some,c3,c4,c5,Int.toNat_natCast,hsl]
      exact ⟨_,rfl,t4,t5⟩
   ·right
    have hc:¬ (k:Int)<(l.length:Int):=by omega
    refine ⟨.inr (),by simp only [hc,decide_false,Bool.false_eq_true,if_false], ?_⟩
    simp only
    rwa [List.take_of_length_le (by omega)] at hp) 1 ⟨1,rfl,by omega,by omega,by
     have hlen:2≤l.length:=by omega
     clear inner takes get adj h2 hs hl
     rcases l with _ | ⟨x,t⟩
     ·simp at hlen
     ·simp⟩
 rw [r1,Option.bind_some]
 cases r with
 | inl r=>exact ⟨r,rfl,r2.1,r2.2⟩
 | inr _=>exact ⟨l,rfl,r2,fun x=>Iff.rfl⟩
end
end Go.SM
namespace Go.SM
open Go Go.VI
end Go.SM
