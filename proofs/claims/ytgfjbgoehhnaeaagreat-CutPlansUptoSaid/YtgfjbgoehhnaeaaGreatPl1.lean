/- Laws. -/
import Derived.Test.YtgfjbgoehhnaeaaGreatVHC3
import Derived.Test.YtgfjbgoehhnaeaaGreatVHC4
import Derived.Lib.IndexMore
set_option linter.unusedVariables false
set_option linter.unusedSimpArgs false
set_option linter.unusedSectionVars false
noncomputable section
namespace Go.Cells
def Lg (f:Nat→Int):Nat→Int
 | 0=>0
 | n+1=>Lg f n+f n
def S (a b:Int) (f:Int→Int):Int:=Lg (fun k=>f (a+k)) (b-a).toNat
def Fc {β:Type} (g:Int→β):List Int→Prop
 | []=>True
 | [_]=>True
 | x::y::t=>x<y∧(∀ z,x≤z→z<y→g z=g x)∧Fc g (y::t)
def one (b:Bool):Int:=if b then 1 else 0
end Go.Cells
namespace Go.SM
open Go Go.VI
structure aS where
 X:Int
 Y:Int
 W:Int
 H:Int
def aE (x:aS):List PV:=[(vI x.X),(vI x.Y),(vI x.W),(vI x.H)]
abbrev bI (l:List aS):PV:=.sl (List.map aE l)
abbrev jT (e:Nat) (l:List aS):HO:=.row e [] (List.map aE l)
structure bF where
 Name:ByteArray
 cH:ByteArray
 gU:Int
 gV:Int
 fA:Int
 cQ:Int
 cC:(List aS)
 Used:(List aS)
def nS (x:bF):List PV:=[(vS x.Name),(vS x.cH),(vI x.gU),(vI x.gV),(vI x.fA),(vI x.cQ),(.sl (List.map aE x.cC)),(.sl (List.map aE x.Used))]
structure aV where
 Name:ByteArray
 cH:ByteArray
 gU:Int
 gV:Int
 aD:(List aS)
 bO:(List aS)
 Forms:(List aS)
def aZ (x:aV):List PV:=[(vS x.Name),(vS x.cH),(vI x.gU),(vI x.gV),(.sl (List.map aE x.aD)),(.sl (List.map aE x.bO)),(.sl (List.map aE x.Forms))]
abbrev cU (l:List aV):PV:=.sl (List.map aZ l)
structure aT where
 bF:bF
 aB:(List aV)
def aR (x:aT):List PV:=[(vS x.bF.Name),(vS x.bF.cH),(vI x.bF.gU),(vI x.bF.gV),(vI x.bF.fA),(vI x.bF.cQ),(.sl (List.map aE x.bF.cC)),(.sl (List.map aE x.bF.Used)),(.sl (List.map aZ x.aB))]
structure cT where
 X1:Int
 Y1:Int
 X2:Int
 Y2:Int
def xH (x:cT):List PV:=[(vI x.X1),(vI x.Y1),(vI x.X2),(vI x.Y2)]
structure bC where
 Line:cT
 A:Int
 B:Int
def bM (x:bC):List PV:=[(vI x.Line.X1),(vI x.Line.Y1),(vI x.Line.X2),(vI x.Line.Y2),(vI x.A),(vI x.B)]
abbrev bN (l:List bC):PV:=.sl (List.map bM l)
abbrev dO (e:Nat) (l:List bC):HO:=.row e [] (List.map bM l)
structure oJ where
structure Ar where
 X:Int
 Y:Int
structure bU where
 aV:Int
 jU:Int
 aX:Int
 cW:Ar
def cD (x:bU):List PV:=[(vI x.aV),(vI x.jU),(vI x.aX),(vI x.cW.X),(vI x.cW.Y)]
abbrev Yr (l:List bU):PV:=.sl (List.map cD l)
abbrev uM (e:Nat) (l:List bU):HO:=.row e [] (List.map cD l)
structure bQ where
 Cut:(List Bool)
 bD:(List (List Bool))
 cG:(List Bool)
 aX:(List Int)
 bJ:(List Bool)
def bV (x:bQ):List PV:=[(.sl (List.map cB x.Cut)),(.sl (List.map (cS cB) x.bD)),(.sl (List.map cB x.cG)),(.sl (List.map cI x.aX)),(.sl (List.map cB x.bJ))]
structure bB where
 At:cT
 Low:Int
 mC:Int
def aP (x:bB):List PV:=[(vI x.At.X1),(vI x.At.Y1),(vI x.At.X2),(vI x.At.Y2),(vI x.Low),(vI x.mC)]
abbrev bL (e:Nat) (l:List bB):HO:=.row e [] (List.map aP l)
structure aW where
 Cut:(List Bool)
 bD:(List (List Bool))
 cG:(List Bool)
 aX:(List Int)
 bJ:(List Bool)
def aM (x:aW):List PV:=[(.sl (List.map cB x.Cut)),(.sl (List.map (cS cB) x.bD)),(.sl (List.map cB x.cG)),(.sl (List.map cI x.aX)),(.sl (List.map cB x.bJ))]
abbrev kF (e:Nat) (l:List aW):HO:=.row e [] (List.map aM l)
def Se (x:aS):Prop:=R64 x.X∧R64 x.Y∧R64 x.W∧R64 x.H
def Ic (x:aS):Prop:=R64 x.X∧R64 x.Y∧R64 x.W∧R64 x.H
def Zh (x:bF):Prop:=RT x.Name∧RT x.cH∧R64 x.gU∧R64 x.gV∧R64 x.fA∧R64 x.cQ∧(RLN 1048576 Ic) x.cC∧(RLN 1048576 Ic) x.Used
def Sd (x:aV):Prop:=RT x.Name∧RT x.cH∧R64 x.gU∧R64 x.gV∧(RLN 1048576 Ic) x.aD∧(RLN 1048576 Ic) x.bO∧(RLN 1048576 Ic) x.Forms
def uN (x:aT):Prop:=Zh x.bF∧(RLN 1048576 Sd) x.aB
def strings_Contains (s sub:ByteArray):Option Bool:=if s.size<4294967281 then some (Go.Lib.contains s.data.toList sub.data.toList) else none
def qY (s0:ByteArray):Int→Option (Int ⊕ (Unit ⊕ Unit)):=fun a1 =>
 if (decide (a1<(s0.size:Int))) then ((Kg s0 a1).bind fun a0=>(if (decide (a0<97)) then (if (decide (a0<48)) then (some true) else (some (decide (a0>57)))) else (if (decide (a0>122)) then (if (decide (a0<48)) then (some true) else (some (decide (a0>57)))) else (some false))).bind fun a2=>if a2 then (some (.inr (.inl ()))) else (some (.inl (aL a1 1)))) else (some (.inr (.inr (()))))
def kQ (s0:ByteArray):Option (Bool):=
 (if (decide ((s0.size:Int)<1)) then (some true) else (if (decide ((s0.size:Int)>8)) then (some true) else ((Kg s0 0).bind fun x9=>if (decide (x9<97)) then (some true) else ((Kg s0 0).bind fun a3=>some (decide (a3>122)))))).bind fun j8=>if j8 then (some false) else ((aK (qY s0) 0).bind fun a4=>match a4 with | .inl a5=>some false | .inr a6=>(Rg (ByteArray.mk #[32]) s0).bind fun a1=>(Rg a1 (ByteArray.mk #[32])).bind fun a2=>(strings_Contains (ByteArray.mk #[32,112,97,114,116,32,109,97,116,101,114,105,97,108,32,98,97,115,101,32,102,108,97,110,103,101,32,104,111,108,101,32,99,117,116,32,102,111,114,109,32,101,97,115,116,32,115,111,117,116,104,32,119,101,115,116,32,110,111,114,116,104,32,117,112,32,100,111,119,110,32,99,108,111,115,101,117,112,32,99,108,111,115,101,100,111,119,110,32,103,114,97,105,110,32,120,32,121,32,116,97,98,108,101,32,97,110,103,108,101,32,109,97,99,104,105,110,101,32,112,117,110,99,104,32,100,105,101,32,102,114,97,109,101,32,103,97,117,103,101,32,112,111,108,121,32,115,116,97,116,105,111,110,115,32]) a2).bind fun a0=>some (!a0))
def zK (n:Int) (lo:Int) (hi:Int):Option (Bool):=
 (if (decide (lo≤n)) then (some (decide (n≤hi))) else (some false)).bind fun j1=>some j1
def Dj (gauge:Int) (grain:Int):Option (Bool):=
 ((zK gauge 1 60).bind fun r4=>if r4 then ((zK grain 0 2).bind fun r5=>some r5) else (some false)).bind fun j3=>some j3
def Eu (n:Int) (most:Int):Option (Bool):=
 (if (decide ((tE most)≤n)) then (some (decide (n≤most))) else (some false)).bind fun j1=>some j1
def sQ (x0:Int) (w:Int):Option (Bool):=
 ((Eu x0 1048576).bind fun r3=>if r3 then (if (decide (w>0)) then (if (decide (w≤2097152)) then (some (decide ((aL x0 w)≤1048576))) else (some false)) else (some false)) else (some false)).bind fun j2=>some j2
def fJ (r0:aS):Option (Bool):=
 ((sQ r0.X r0.W).bind fun r4=>if r4 then ((sQ r0.Y r0.H).bind fun r5=>some r5) else (some false)).bind fun j3=>some j3
def wN (l:(List aS)):Int→Option (Int ⊕ (Unit ⊕ Unit)):=fun a0 =>
 if (decide (a0<(l.length:Int))) then ((idx l a0).bind fun a2=>(fJ a2).bind fun a1=>if (!a1) then (some (.inr (.inl ()))) else (some (.inl (aL a0 1)))) else (some (.inr (.inr (()))))
def vJ (l:(List aS)):Option (Bool):=
 (aK (wN l) 0).bind fun a0=>match a0 with | .inl a1=>some false | .inr a2=>some true
def Ir (s0:bF) (margin:Int):Option (aS×Bool):=
 (fJ (aS.mk margin margin (aJ s0.fA (lB 2 margin)) (aJ s0.cQ (lB 2 margin)))).bind fun r3=>some ((aS.mk margin margin (aJ s0.fA (lB 2 margin)) (aJ s0.cQ (lB 2 margin))),r3)
def xK (a:aS) (b:aS):Option (Bool):=
 ((fJ a).bind fun r4=>if r4 then ((fJ b).bind fun r5=>if r5 then (if (decide (b.X≤a.X)) then (if (decide ((aL a.X a.W)≤(aL b.X b.W))) then (if (decide (b.Y≤a.Y)) then (some (decide ((aL a.Y a.H)≤(aL b.Y b.H)))) else (some false)) else (some false)) else (some false)) else (some false)) else (some false)).bind fun j3=>some j3
def lN (a4:aS×Bool) (a1:(List aS)):Int→Option (Int ⊕ (Unit ⊕ Unit)):=fun a0 =>
 if (decide (a0<(a1.length:Int))) then ((idx a1 a0).bind fun a3=>(xK a3 a4.1).bind fun a2=>if (!a2) then (some (.inr (.inl ()))) else (some (.inl (aL a0 1)))) else (some (.inr (.inr (()))))
def lO (s0:bF) (a5:aS×Bool):Int→Option (Int ⊕ (Unit ⊕ Unit)):=fun a0 =>
 if (decide (a0<([s0.cC,s0.Used].length:Int))) then ((idx [s0.cC,s0.Used] a0).bind fun a1=>(aK (lN a5 a1) 0).bind fun a2=>match a2 with | .inl a3=>some (.inr (.inl ())) | .inr a4=>some (.inl (aL a0 1))) else (some (.inr (.inr (()))))
def jS (s0:bF):Option (Int):=
 ((kQ s0.Name).bind fun a7=>if a7 then ((kQ s0.cH).bind fun a8=>some (!a8)) else (some true)).bind fun a1=>if a1 then (some 2) else (((Dj s0.gU s0.gV).bind fun a9=>if a9 then ((zK s0.fA 1 1048576).bind fun b0=>if b0 then ((zK s0.cQ 1 1048576).bind fun b1=>some (!b1)) else (some true)) else (some true)).bind fun a2=>if a2 then (some 1) else ((if (decide ((s0.cC.length:Int)>4)) then (some true) else (some (decide ((s0.Used.length:Int)>48)))).bind fun a3=>if a3 then (some 4) else (((vJ s0.cC).bind fun b2=>if b2 then ((vJ s0.Used).bind fun b3=>some (!b3)) else (some true)).bind fun a4=>if a4 then (some 1) else ((Ir s0 0).bind fun b4=>(aK (lO s0 b4) 0).bind fun a0=>match a0 with | .inl a5=>some 13 | .inr a6=>some 0))))
def xT (a:aS) (b:aS):Option (Bool):=
 ((fJ a).bind fun r4=>if r4 then ((fJ b).bind fun r5=>if r5 then (if (decide (a.X<(aL b.X b.W))) then (if (decide (b.X<(aL a.X a.W))) then (if (decide (a.Y<(aL b.Y b.H))) then (some (decide (b.Y<(aL a.Y a.H)))) else (some false)) else (some false)) else (some false)) else (some false)) else (some false)).bind fun j3=>some j3
def Dl (a:aS) (b:aS):Option (Bool):=
 (if ((aJ (mF (aL a.X a.W) (aL b.X b.W)) (imax a.X b.X))==0) then (if (decide ((aJ (mF (aL a.Y a.H) (aL b.Y b.H)) (imax a.Y b.Y))>0)) then (some true) else (if ((aJ (mF (aL a.Y a.H) (aL b.Y b.H)) (imax a.Y b.Y))==0) then (some (decide ((aJ (mF (aL a.X a.W) (aL b.X b.W)) (imax a.X b.X))>0))) else (some false))) else (if ((aJ (mF (aL a.Y a.H) (aL b.Y b.H)) (imax a.Y b.Y))==0) then (some (decide ((aJ (mF (aL a.X a.W) (aL b.X b.W)) (imax a.X b.X))>0))) else (some false))).bind fun j1=>some j1
def nC (a1:Int×(List Bool)×(List Int)):((List Bool)×(List Int))→Option ((Int×(List Bool)×(List Int)) ⊕ ((List Bool)×(List Int))):=fun a0 =>
 some (.inl ((aL a1.1 1),a0.1,a0.2))
def kP (l:(List aS)) (a4:Int):(Int×(List Bool)×(List Int))→Option ((Int×(List Bool)×(List Int)) ⊕ ((List Bool)×(List Int))):=fun a0 =>
 if (decide (a0.1<(l.length:Int))) then (((idx a0.2.1 a0.1).bind fun a5=>if a5 then (some false) else ((idx l a4).bind fun a6=>(idx l a0.1).bind fun a7=>(Dl a6 a7).bind fun a3=>some a3)).bind fun a1=>if a1 then ((idx a0.2.1 a0.1).bind fun a8=>(app a0.2.2 [a0.1]).bind fun a2=>nC a0 ((List.set a0.2.1 (Int.toNat a0.1) true),a2)) else (nC a0 (a0.2.1,a0.2.2))) else (some (.inr (a0.2.1,a0.2.2)))
def nD (l:(List aS)):((List Bool)×(List Int))→Option (((List Bool)×(List Int)) ⊕ (List Bool)):=fun a0 =>
 if (decide ((a0.2.length:Int)>0)) then ((idx a0.2 0).bind fun a2=>if (decide (1≤a0.2.length)) then ((aK (kP l a2) (0,a0.1,(List.drop 1 a0.2))).bind fun a1=>some (.inl (a1.1,a1.2))) else none) else (some (.inr a0.1))
def qT (a1:(List Bool)):Int→Option (Int ⊕ (Unit ⊕ Unit)):=fun a0 =>
 if (decide (a0<(a1.length:Int))) then ((idx a1 a0).bind fun a2=>if (!a2) then (some (.inr (.inl ()))) else (some (.inl (aL a0 1)))) else (some (.inr (.inr (()))))
def yA (l:(List aS)):Option (Bool):=
 (mk (l.length:Int) false).bind fun l2=>(idx l2 0).bind fun x4=>(aK (nD l) ((List.set l2 (Int.toNat 0) true),[0])).bind fun a0=>(aK (qT a0) 0).bind fun a1=>match a1 with | .inl a2=>some false | .inr a3=>some true
def sV (h0:aS) (l:(List aS)):Int→Option (Int ⊕ (Unit ⊕ Unit)):=fun a1 =>
 if (decide (a1<(l.length:Int))) then ((idx l a1).bind fun a0=>(if (decide (h0.X>a0.X)) then (if (decide (h0.Y>a0.Y)) then (if (decide ((aL h0.X h0.W)<(aL a0.X a0.W))) then (some (decide ((aL h0.Y h0.H)<(aL a0.Y a0.H)))) else (some false)) else (some false)) else (some false)).bind fun a2=>if a2 then (some (.inr (.inl ()))) else (some (.inl (aL a1 1)))) else (some (.inr (.inr (()))))
def wM (h0:aS) (l:(List aS)):Option (Bool):=
 (aK (sV h0 l) 0).bind fun a0=>match a0 with | .inl a1=>some true | .inr a2=>some false
def Ak (a:aS) (b:aS):Option (Int):=
 ((fJ a).bind fun r9=>if r9 then ((fJ b).bind fun a0=>some (!a0)) else (some true)).bind fun j8=>if j8 then (some 0) else (some (imax (imax (imax (imax 0 (aJ (aJ b.X a.X) a.W)) (aJ (aJ a.X b.X) b.W)) (aJ (aJ b.Y a.Y) a.H)) (aJ (aJ a.Y b.Y) b.H)))
def vE (x0:aV) (l6:(List aS)):Int→Option (Int ⊕ (Unit ⊕ Unit)):=fun a0 =>
 if (decide (a0<(l6.length:Int))) then ((idx l6 a0).bind fun a1=>(if (decide (a0<(x0.bO.length:Int))) then (if (a1.W==1) then (some true) else (if (a1.H==1) then (some true) else ((wM a1 x0.aD).bind fun a3=>some (!a3)))) else ((wM a1 x0.aD).bind fun a4=>some (!a4))).bind fun a2=>if a2 then (some (.inr (.inl ()))) else (some (.inl (aL a0 1)))) else (some (.inr (.inr (()))))
def vG (a3:aS) (a1:(List aS)):Int→Option (Int ⊕ (Unit ⊕ Unit)):=fun a0 =>
 if (decide (a0<(a1.length:Int))) then ((idx a1 a0).bind fun a4=>(Ak a3 a4).bind fun a2=>if (a2==0) then (some (.inr (.inl ()))) else (some (.inl (aL a0 1)))) else (some (.inr (.inr (()))))
def vH (l6:(List aS)):Int→Option (Int ⊕ (Unit ⊕ Unit)):=fun a0 =>
 if (decide (a0<(l6.length:Int))) then ((idx l6 a0).bind fun a2=>(slc l6 0 a0).bind fun a1=>(aK (vG a2 a1) 0).bind fun a3=>match a3 with | .inl a4=>some (.inr (.inl ())) | .inr a5=>some (.inl (aL a0 1))) else (some (.inr (.inr (()))))
def Ex (x0:aV):Option (Int):=
 (app [] x0.bO).bind fun l5=>(app l5 x0.Forms).bind fun l6=>(aK (vE x0 l6) 0).bind fun a4=>match a4 with | .inl a5=>some 13 | .inr a1=>(aK (vH l6) 0).bind fun a0=>match a0 with | .inl a2=>some 7 | .inr a3=>some 0
def dQ (x0:aV):(Int×Int×Int)→Option ((Int×Int×Int) ⊕ (Int×Int)):=fun a0 =>
 if (decide (a0.2.2<(x0.aD.length:Int))) then ((idx x0.aD a0.2.2).bind fun a1=>some (.inl ((mF a0.1 a1.X),(mF a0.2.1 a1.Y),(aL a0.2.2 1)))) else (some (.inr (a0.1,a0.2.1)))
def lL (a3:aS) (a1:(List aS)):Int→Option (Int ⊕ (Unit ⊕ Unit)):=fun a0 =>
 if (decide (a0<(a1.length:Int))) then ((idx a1 a0).bind fun a4=>(xT a3 a4).bind fun a2=>if a2 then (some (.inr (.inl ()))) else (some (.inl (aL a0 1)))) else (some (.inr (.inr (()))))
def lM (x0:aV):Int→Option (Int ⊕ (Unit ⊕ Unit)):=fun a0 =>
 if (decide (a0<(x0.aD.length:Int))) then ((idx x0.aD a0).bind fun a2=>(slc x0.aD 0 a0).bind fun a1=>(aK (lL a2 a1) 0).bind fun a3=>match a3 with | .inl a4=>some (.inr (.inl ())) | .inr a5=>some (.inl (aL a0 1))) else (some (.inr (.inr (()))))
def dV (x0:aV):Option (Int):=
 ((kQ x0.Name).bind fun b0=>if b0 then ((kQ x0.cH).bind fun b1=>some (!b1)) else (some true)).bind fun a4=>if a4 then (some 2) else ((Dj x0.gU x0.gV).bind fun b2=>if (!b2) then (some 1) else ((if (decide ((x0.aD.length:Int)>12)) then (some true) else (if (decide ((x0.bO.length:Int)>12)) then (some true) else (some (decide ((x0.Forms.length:Int)>12))))).bind fun a5=>if a5 then (some 4) else ((if ((x0.aD.length:Int)==0) then (some true) else ((vJ x0.aD).bind fun b3=>if b3 then ((vJ x0.bO).bind fun b4=>if b4 then ((vJ x0.Forms).bind fun b5=>some (!b5)) else (some true)) else (some true))).bind fun a6=>if a6 then (some 1) else ((idx x0.aD 0).bind fun b6=>(idx x0.aD 0).bind fun b7=>(aK (dQ x0) (b6.X,b7.Y,0)).bind fun a3=>(if (a3.1 != 0) then (some true) else (some (a3.2 != 0))).bind fun a9=>if a9 then (some 1) else ((aK (lM x0) 0).bind fun a2=>match a2 with | .inl a7=>some 7 | .inr a8=>(yA x0.aD).bind fun a0=>if (!a0) then (some 6) else ((Ex x0).bind fun a1=>some a1))))))
def lC (s:(List aS)):Option (List aS):=app [] s
def El (a1:Int×(List aS)):(List aS)→Option (Int×(List aS) ⊕ (List aS)):=fun a0 =>
 some (.inl ((aL a1.1 1),a0))
def Ba (x1:Int) (y:Int) (r2:(List aS)):Int×(List aS)→Option (Int×(List aS) ⊕ (List aS)):=fun a0 =>
 if (decide (a0.1<(r2.length:Int))) then ((idx a0.2 a0.1).bind fun a3=>(if (decide (a3.X<(-4194304))) then (some true) else (if (decide (a3.X>4194304)) then (some true) else (if (decide (a3.Y<(-4194304))) then (some true) else (some (decide (a3.Y>4194304)))))).bind fun a5=>if a5 then ((a0.2[Int.toNat a0.1]?).bind fun a4=>El a0 (List.set a0.2 (Int.toNat a0.1) (aS.mk a4.X a4.Y 0 a4.H))) else ((a0.2[Int.toNat a0.1]?).bind fun a2=>(a0.2[Int.toNat a0.1]?).bind fun a1=>El a0 (List.set (List.set a0.2 (Int.toNat a0.1) (aS.mk (aJ a2.X x1) a1.Y a1.W a1.H)) (Int.toNat a0.1) (aS.mk (((aS.mk (aJ a2.X x1) a1.Y a1.W a1.H)).X) (aJ (((aS.mk (aJ a2.X x1) a1.Y a1.W a1.H)).Y) y) (((aS.mk (aJ a2.X x1) a1.Y a1.W a1.H)).W) (((aS.mk (aJ a2.X x1) a1.Y a1.W a1.H)).H))))) else (some (.inr a0.2))
def Gl (l:(List aS)) (x1:Int) (y:Int):Option ((List aS)):=
 (lC l).bind fun r2=>(aK (Ba x1 y r2) (0,r2)).bind fun a0=>some a0
def nA (x0:aV):Int→Option (Int ⊕ (Unit ⊕ Unit)):=fun a0 =>
 if (decide (a0<(x0.aD.length:Int))) then ((idx x0.aD a0).bind fun a2=>(fJ a2).bind fun a1=>if (!a1) then (some (.inr (.inl ()))) else (some (.inl (aL a0 1)))) else (some (.inr (.inr (()))))
def fS (x0:aV):(Int×Int×Int)→Option ((Int×Int×Int) ⊕ (Int×Int)):=fun a0 =>
 if (decide (a0.2.2<(x0.aD.length:Int))) then ((idx x0.aD a0.2.2).bind fun a1=>some (.inl ((mF a0.1 a1.X),(mF a0.2.1 a1.Y),(aL a0.2.2 1)))) else (some (.inr (a0.1,a0.2.1)))
def kJ (x0:aV):Option (Int):=
 (aK (nA x0) 0).bind fun a6=>match a6 with | .inl a9=>some 1 | .inr b0=>if ((x0.aD.length:Int)==0) then ((dV x0).bind fun a5=>some a5) else ((idx x0.aD 0).bind fun a7=>(idx x0.aD 0).bind fun a8=>(aK (fS x0) (a7.X,a8.Y,0)).bind fun a0=>(Gl x0.aD a0.1 a0.2).bind fun a1=>(Gl x0.bO a0.1 a0.2).bind fun a2=>(Gl x0.Forms a0.1 a0.2).bind fun a3=>(dV (aV.mk x0.Name x0.cH x0.gU x0.gV a1 a2 a3)).bind fun a4=>some a4)
def Es (x0:aS) (a_0:Int) (a_1:Int) (a_2:Int) (a_3:Int):Option (Bool):=
 (xT (aS.mk a_0 a_1 a_2 a_3) x0).bind fun r2=>some r2
def bP (s0:(List aS)) (f_0_0:Int) (f_0_1:Int) (f_0_2:Int) (f_0_3:Int):Int→Option (Int ⊕ (Int ⊕ Unit)):=fun a0 =>
 if (decide (a0<(s0.length:Int))) then ((idx s0 a0).bind fun a2=>(Es a2 f_0_0 f_0_1 f_0_2 f_0_3).bind fun a1=>if a1 then (some (.inr (.inl a0))) else (some (.inl (aL a0 1)))) else (some (.inr (.inr (()))))
def eO (s0:(List aS)) (f_0_0:Int) (f_0_1:Int) (f_0_2:Int) (f_0_3:Int):Option (Int):=
 (aK (bP s0 f_0_0 f_0_1 f_0_2 f_0_3) 0).bind fun a1=>match a1 with | .inl a0=>some a0 | .inr a2=>some (-1)
def eC (s0:(List aS)) (f_0_0:Int) (f_0_1:Int) (f_0_2:Int) (f_0_3:Int):Option (Bool):=
 (eO s0 f_0_0 f_0_1 f_0_2 f_0_3).bind fun r2=>some (decide (r2 ≥ 0))
def Co (r0:aS) (l:(List aS)):Option (Bool):=
 (eC l r0.X r0.Y r0.W r0.H).bind fun r2=>some r2
def dF (l:aT):Int→Option (Int ⊕ (Int ⊕ Unit)):=fun a0 =>
 if (decide (a0<(l.aB.length:Int))) then ((idx l.aB a0).bind fun a2=>(kJ a2).bind fun a1=>if (a1 != 0) then (some (.inr (.inl a1))) else (some (.inl (aL a0 1)))) else (some (.inr (.inr (()))))
def tO (l:aT) (a2:aV):Int→Option (Int ⊕ (Unit ⊕ Unit)):=fun a0 =>
 if (decide (a0<(a2.aD.length:Int))) then ((idx a2.aD a0).bind fun a1=>((xK a1 (aS.mk 0 0 l.bF.fA l.bF.cQ)).bind fun a4=>if a4 then ((Co a1 l.bF.cC).bind fun a5=>if a5 then (some true) else ((Co a1 l.bF.Used).bind fun a6=>some a6)) else (some true)).bind fun a3=>if a3 then (some (.inr (.inl ()))) else (some (.inl (aL a0 1)))) else (some (.inr (.inr (()))))
def tP (l:aT):Int→Option (Int ⊕ (Unit ⊕ Unit)):=fun a0 =>
 if (decide (a0<(l.aB.length:Int))) then ((idx l.aB a0).bind fun a1=>(aK (tO l a1) 0).bind fun a2=>match a2 with | .inl a3=>some (.inr (.inl ())) | .inr a4=>some (.inl (aL a0 1))) else (some (.inr (.inr (()))))
def tQ (a1:aV) (a3:aV):Int→Option (Int ⊕ (Unit ⊕ Unit)):=fun a0 =>
 if (decide (a0<(a1.aD.length:Int))) then ((idx a1.aD a0).bind fun a4=>(Co a4 a3.aD).bind fun a2=>if a2 then (some (.inr (.inl ()))) else (some (.inl (aL a0 1)))) else (some (.inr (.inr (()))))
def tR (a2:aV) (a1:(List aV)):Int→Option (Int ⊕ (Unit ⊕ Unit)):=fun a0 =>
 if (decide (a0<(a1.length:Int))) then ((idx a1 a0).bind fun a3=>(aK (tQ a2 a3) 0).bind fun a4=>match a4 with | .inl a5=>some (.inr (.inl ())) | .inr a6=>some (.inl (aL a0 1))) else (some (.inr (.inr (()))))
def tS (l:aT):Int→Option (Int ⊕ (Unit ⊕ Unit)):=fun a0 =>
 if (decide (a0<(l.aB.length:Int))) then ((idx l.aB a0).bind fun a2=>(slc l.aB 0 a0).bind fun a1=>(aK (tR a2 a1) 0).bind fun a3=>match a3 with | .inl a4=>some (.inr (.inl ())) | .inr a5=>some (.inl (aL a0 1))) else (some (.inr (.inr (()))))
def tD (l:aT):Option (Int):=
 (jS l.bF).bind fun r4=>if (r4 != 0) then (some r4) else (if (decide ((l.aB.length:Int)>8)) then (some 4) else ((aK (dF l) 0).bind fun a7=>match a7 with | .inl a4=>some a4 | .inr a8=>(aK (tP l) 0).bind fun a1=>match a1 with | .inl a5=>some 13 | .inr a6=>(aK (tS l) 0).bind fun a0=>match a0 with | .inl a2=>some 7 | .inr a3=>some 0))
def tG (n:Int) (lo:Int) (hi:Int):Option (Bool):=
 (if (decide (n ≥ lo)) then (some (decide (n≤hi))) else (some false)).bind fun j1=>some j1
def rQ:Option (ByteArray):=
 some (ByteArray.mk #[32,112,97,114,116,32,109,97,116,101,114,105,97,108,32,98,97,115,101,32,102,108,97,110,103,101,32,104,111,108,101,32,99,117,116,32,102,111,114,109,32,101,97,115,116,32,115,111,117,116,104,32,119,101,115,116,32,110,111,114,116,104,32,117,112,32,100,111,119,110,32,99,108,111,115,101,117,112,32,99,108,111,115,101,100,111,119,110,32,103,114,97,105,110,32,120,32,121,32,116,97,98,108,101,32,97,110,103,108,101,32,109,97,99,104,105,110,101,32,112,117,110,99,104,32,100,105,101,32,102,114,97,109,101,32,103,97,117,103,101,32,112,111,108,121,32,115,116,97,116,105,111,110,115,32])
def iN (text:ByteArray) (s1:ByteArray):Int→Option (Int ⊕ (Unit ⊕ Unit)):=fun a0 =>
 if (decide ((aL (aL a0 (s1.size:Int)) 2)≤(text.size:Int))) then ((OC text a0 (aL (aL a0 (s1.size:Int)) 2)).bind fun a1=>(Rg (ByteArray.mk #[32]) s1).bind fun a2=>(Rg a2 (ByteArray.mk #[32])).bind fun a3=>if (a1.toList==a3.toList) then (some (.inr (.inl ()))) else (some (.inl (aL a0 1)))) else (some (.inr (.inr (()))))
def nW (text:ByteArray) (s1:ByteArray):Option (Bool):=
 (aK (iN text s1) 0).bind fun a0=>match a0 with | .inl a1=>some true | .inr a2=>some false
def gD (s0:ByteArray):Int→Option (Int ⊕ (Unit ⊕ Unit)):=fun a0 =>
 if (decide (a0<(s0.size:Int))) then (((Kg s0 a0).bind fun a3=>if (decide (a3 ≥ 97)) then ((Kg s0 a0).bind fun a4=>some (decide (a4≤122))) else (some false)).bind fun a1=>(if a1 then (some false) else ((Kg s0 a0).bind fun a5=>if (decide (a5<48)) then (some true) else ((Kg s0 a0).bind fun a6=>some (decide (a6>57))))).bind fun a2=>if a2 then (some (.inr (.inl ()))) else (some (.inl (aL a0 1)))) else (some (.inr (.inr (()))))
def eN (s0:ByteArray):Option (Bool):=
 ((tG (s0.size:Int) 1 8).bind fun a6=>if a6 then ((Kg s0 0).bind fun a7=>if (decide (a7<97)) then (some true) else ((Kg s0 0).bind fun a8=>some (decide (a8>122)))) else (some true)).bind fun a3=>if a3 then (some false) else ((aK (gD s0) 0).bind fun a2=>match a2 with | .inl a4=>some false | .inr a5=>(rQ).bind fun a0=>(nW a0 s0).bind fun a1=>some (!a1))
def lQ (name:ByteArray) (material:ByteArray) (gauge:Int) (grain:Int):Option (Int):=
 ((eN name).bind fun r9=>if r9 then ((eN material).bind fun a1=>some (!a1)) else (some true)).bind fun j8=>if j8 then (some 2) else ((if (decide (gauge<1)) then (some true) else (if (decide (gauge>60)) then (some true) else (if (decide (grain<0)) then (some true) else (some (decide (grain>2)))))).bind fun a0=>if a0 then (some 1) else (some 0))
def iH (n:Int):Option (Bool):=
 (if (decide (n ≥ (-1048576))) then (some (decide (n≤1048576))) else (some false)).bind fun j1=>some j1
def cY (r0:aS):Option (Bool):=
 ((iH r0.X).bind fun r9=>if r9 then ((iH r0.Y).bind fun a1=>if a1 then (if (decide (r0.W<1)) then (some true) else (if (decide (r0.H<1)) then (some true) else (if (decide (r0.W>2097152)) then (some true) else (some (decide (r0.H>2097152)))))) else (some true)) else (some true)).bind fun j8=>if j8 then (some false) else (((iH (aL r0.X r0.W)).bind fun a2=>if a2 then ((iH (aL r0.Y r0.H)).bind fun a3=>some a3) else (some false)).bind fun a0=>some a0)
def iO (l:(List aS)):Int→Option (Int ⊕ (Unit ⊕ Unit)):=fun a0 =>
 if (decide (a0<(l.length:Int))) then ((idx l a0).bind fun a2=>(cY a2).bind fun a1=>if (!a1) then (some (.inr (.inl ()))) else (some (.inl (aL a0 1)))) else (some (.inr (.inr (()))))
def dY (l:(List aS)):Option (Bool):=
 (aK (iO l) 0).bind fun a0=>match a0 with | .inl a1=>some false | .inr a2=>some true
def iK (a:aS) (b:aS):Option (Bool):=
 ((cY a).bind fun r4=>if r4 then ((cY b).bind fun r5=>if r5 then (if (decide (a.X ≥ b.X)) then (if (decide (a.Y ≥ b.Y)) then (if (decide ((aL a.X a.W)≤(aL b.X b.W))) then (some (decide ((aL a.Y a.H)≤(aL b.Y b.H)))) else (some false)) else (some false)) else (some false)) else (some false)) else (some false)).bind fun j3=>some j3
def iP (s0:bF) (l:(List aS)):Int→Option (Int ⊕ (Unit ⊕ Unit)):=fun a0 =>
 if (decide (a0<(l.length:Int))) then ((idx l a0).bind fun a2=>(iK a2 (aS.mk 0 0 s0.fA s0.cQ)).bind fun a1=>if (!a1) then (some (.inr (.inl ()))) else (some (.inl (aL a0 1)))) else (some (.inr (.inr (()))))
def kS (s0:bF) (l:(List aS)):Option (Bool):=
 (aK (iP s0 l) 0).bind fun a0=>match a0 with | .inl a1=>some false | .inr a2=>some true
def iX (s0:bF):Option (Int):=
 (lQ s0.Name s0.cH s0.gU s0.gV).bind fun r2=>if (r2 != 0) then (some r2) else ((if (decide (s0.fA<1)) then (some true) else (if (decide (s0.fA>1048576)) then (some true) else (if (decide (s0.cQ<1)) then (some true) else (some (decide (s0.cQ>1048576)))))).bind fun j4=>if j4 then (some 1) else ((if (decide ((s0.cC.length:Int)>4)) then (some true) else (some (decide ((s0.Used.length:Int)>48)))).bind fun j6=>if j6 then (some 4) else (((dY s0.cC).bind fun a2=>if a2 then ((dY s0.Used).bind fun a3=>some (!a3)) else (some true)).bind fun a0=>if a0 then (some 1) else (((kS s0 s0.cC).bind fun a4=>if a4 then ((kS s0 s0.Used).bind fun a5=>some (!a5)) else (some true)).bind fun a1=>if a1 then (some 13) else (some 0)))))
def mL (a1:Int×(List aS)) (a2:aS):(Int×Int)→Option (Int×(List aS) ⊕ (List aS)):=fun a0 =>
 (app a1.2 [(aS.mk a0.1 a0.2 a2.W a2.H)]).bind fun a3=>some (.inl ((aL a1.1 1),a3))
def mM (l:(List aS)) (x1:Int) (y:Int):Int×(List aS)→Option (Int×(List aS) ⊕ (List aS)):=fun a1 =>
 if (decide (a1.1<(l.length:Int))) then ((idx l a1.1).bind fun a0=>(if (decide (a0.X>(-2147483648))) then (if (decide (a0.X<2147483648)) then (if (decide (a0.Y>(-2147483648))) then (some (decide (a0.Y<2147483648))) else (some false)) else (some false)) else (some false)).bind fun a2=>if a2 then (mL a1 a0 ((aL a0.X x1),(aL a0.Y y))) else (mL a1 a0 (a0.X,a0.Y))) else (some (.inr a1.2))
def jC (l:(List aS)) (x1:Int) (y:Int):Option ((List aS)):=
 (aK (mM l x1 y) (0,[])).bind fun a0=>some a0
def vN (x0:aV) (dx:Int) (dy:Int):Option (aV):=
 (jC x0.aD dx dy).bind fun r2=>(jC x0.bO dx dy).bind fun r4=>(jC x0.Forms dx dy).bind fun r6=>some (aV.mk x0.Name x0.cH x0.gU x0.gV r2 r4 r6)
def nG (x0:aV):(Int×Int×Int)→Option ((Int×Int×Int) ⊕ (Int×Int)):=fun a0 =>
 if (decide (a0.2.2<(x0.aD.length:Int))) then ((idx x0.aD a0.2.2).bind fun a1=>(idx x0.aD a0.2.2).bind fun a2=>some (.inl ((mF a0.1 a1.X),(mF a0.2.1 a2.Y),(aL a0.2.2 1)))) else (some (.inr (a0.1,a0.2.1)))
def rF (x0:aV):Option (aV×Bool×ByteArray×ByteArray×Int×Int×(List aS)×(List aS)×(List aS)):=
 (dY x0.aD).bind fun r4=>if (!r4) then (some (x0,false,x0.Name,x0.cH,x0.gU,x0.gV,x0.aD,x0.bO,x0.Forms)) else (if ((x0.aD.length:Int)==0) then (some (x0,true,x0.Name,x0.cH,x0.gU,x0.gV,x0.aD,x0.bO,x0.Forms)) else ((idx x0.aD 0).bind fun x9=>(idx x0.aD 0).bind fun a2=>(aK (nG x0) (x9.X,a2.Y,1)).bind fun a1=>(vN x0 (tE a1.1) (tE a1.2)).bind fun a0=>some (a0,true,a0.Name,a0.cH,a0.gU,a0.gV,a0.aD,a0.bO,a0.Forms)))
def rX (l:(List aS)):(Int×Int×Int)→Option ((Int×Int×Int) ⊕ (Int×Int)):=fun a0 =>
 if (decide (a0.2.2<(l.length:Int))) then ((idx l a0.2.2).bind fun a1=>(idx l a0.2.2).bind fun a2=>some (.inl ((mF a0.1 a1.X),(mF a0.2.1 a2.Y),(aL a0.2.2 1)))) else (some (.inr (a0.1,a0.2.1)))
def pN (l:(List aS)):Option (Int×Int):=
 (idx l 0).bind fun x5=>(idx l 0).bind fun x6=>(aK (rX l) (x5.X,x6.Y,1)).bind fun a0=>some (a0.1,a0.2)
def mK (a:aS) (b:aS):Option (Bool):=
 ((cY a).bind fun r4=>if r4 then ((cY b).bind fun r5=>if r5 then (if (decide (a.X<(aL b.X b.W))) then (if (decide (b.X<(aL a.X a.W))) then (if (decide (a.Y<(aL b.Y b.H))) then (some (decide (b.Y<(aL a.Y a.H)))) else (some false)) else (some false)) else (some false)) else (some false)) else (some false)).bind fun j3=>some j3
def jG (r0:aS) (l:(List aS)):Int→Option (Int ⊕ (Unit ⊕ Unit)):=fun a0 =>
 if (decide (a0<(l.length:Int))) then ((idx l a0).bind fun a2=>(mK r0 a2).bind fun a1=>if a1 then (some (.inr (.inl ()))) else (some (.inl (aL a0 1)))) else (some (.inr (.inr (()))))
def gK (r0:aS) (l:(List aS)):Option (Bool):=
 (aK (jG r0 l) 0).bind fun a0=>match a0 with | .inl a1=>some true | .inr a2=>some false
def rY (a:aS) (b:aS):Option (Bool):=
 (if ((aJ (mF (aL a.X a.W) (aL b.X b.W)) (imax a.X b.X))==0) then (if (decide ((aJ (mF (aL a.Y a.H) (aL b.Y b.H)) (imax a.Y b.Y))>0)) then (some true) else (if ((aJ (mF (aL a.Y a.H) (aL b.Y b.H)) (imax a.Y b.Y))==0) then (some (decide ((aJ (mF (aL a.X a.W) (aL b.X b.W)) (imax a.X b.X))>0))) else (some false))) else (if ((aJ (mF (aL a.Y a.H) (aL b.Y b.H)) (imax a.Y b.Y))==0) then (some (decide ((aJ (mF (aL a.X a.W) (aL b.X b.W)) (imax a.X b.X))>0))) else (some false))).bind fun j1=>some j1
def eQ (a1:Int×(List Bool)×(List Int)):((List Bool)×(List Int))→Option ((Int×(List Bool)×(List Int)) ⊕ ((List Bool)×(List Int))):=fun a0 =>
 some (.inl ((aL a1.1 1),a0.1,a0.2))
def dW (l:(List aS)) (a4:Int×(List Bool)×(List Int)):(Int×(List Bool)×(List Int))→Option ((Int×(List Bool)×(List Int)) ⊕ ((List Bool)×(List Int))):=fun a0 =>
 if (decide (a0.1<(l.length:Int))) then (((idx a0.2.1 a0.1).bind fun a5=>if a5 then (some false) else ((idx a0.2.2 a4.1).bind fun a6=>(idx l a6).bind fun a7=>(idx l a0.1).bind fun a8=>(rY a7 a8).bind fun a3=>some a3)).bind fun a1=>if a1 then ((idx a0.2.1 a0.1).bind fun a9=>(app a0.2.2 [a0.1]).bind fun a2=>eQ a0 ((List.set a0.2.1 (Int.toNat a0.1) true),a2)) else (eQ a0 (a0.2.1,a0.2.2))) else (some (.inr (a0.2.1,a0.2.2)))
def eS (l:(List aS)):(Int×(List Bool)×(List Int))→Option ((Int×(List Bool)×(List Int)) ⊕ (List Int)):=fun a0 =>
 if (decide (a0.1<(a0.2.2.length:Int))) then ((aK (dW l a0) (0,a0.2.1,a0.2.2)).bind fun a1=>some (.inl ((aL a0.1 1),a1.1,a1.2))) else (some (.inr a0.2.2))
def lG (l:(List aS)):Option (Bool):=
 (mk (l.length:Int) false).bind fun l2=>(idx l2 0).bind fun x4=>(aK (eS l) (0,(List.set l2 (Int.toNat 0) true),[0])).bind fun a0=>some ((a0.length:Int)==(l.length:Int))
def jX (r0:aS) (l:(List aS)):Int→Option (Int ⊕ (Unit ⊕ Unit)):=fun a0 =>
 if (decide (a0<(l.length:Int))) then (((idx l a0).bind fun a2=>if (decide (r0.X>a2.X)) then ((idx l a0).bind fun a3=>if (decide (r0.Y>a3.Y)) then ((idx l a0).bind fun a4=>(idx l a0).bind fun a5=>if (decide ((aL r0.X r0.W)<(aL a4.X a5.W))) then ((idx l a0).bind fun a6=>(idx l a0).bind fun a7=>some (decide ((aL r0.Y r0.H)<(aL a6.Y a7.H)))) else (some false)) else (some false)) else (some false)).bind fun a1=>if a1 then (some (.inr (.inl ()))) else (some (.inl (aL a0 1)))) else (some (.inr (.inr (()))))
def rB (r0:aS) (l:(List aS)):Option (Bool):=
 (aK (jX r0 l) 0).bind fun a0=>match a0 with | .inl a1=>some true | .inr a2=>some false
def pL (a:aS) (b:aS):Option (Int):=
 ((cY a).bind fun r9=>if r9 then ((cY b).bind fun a0=>some (!a0)) else (some true)).bind fun j8=>if j8 then (some 0) else (some (imax (imax (imax 0 (aJ (aJ a.X b.X) b.W)) (aJ (aJ b.X a.X) a.W)) (imax (imax 0 (aJ (aJ a.Y b.Y) b.H)) (aJ (aJ b.Y a.Y) a.H))))
def eU (x0:aV):Int→Option (Int ⊕ (Unit ⊕ Unit)):=fun a0 =>
 if (decide (a0<(x0.aD.length:Int))) then ((idx x0.aD a0).bind fun a3=>(slc x0.aD 0 a0).bind fun a1=>(gK a3 a1).bind fun a2=>if a2 then (some (.inr (.inl ()))) else (some (.inl (aL a0 1)))) else (some (.inr (.inr (()))))
def eV (x0:aV) (a1:(List aS)):Int→Option (Int ⊕ (Unit ⊕ Unit)):=fun a0 =>
 if (decide (a0<(a1.length:Int))) then (((idx a1 a0).bind fun a4=>(rB a4 x0.aD).bind fun a3=>if a3 then (if (decide (a0<(x0.bO.length:Int))) then ((idx a1 a0).bind fun a5=>if (a5.W==1) then (some true) else ((idx a1 a0).bind fun a6=>some (a6.H==1))) else (some false)) else (some true)).bind fun a2=>if a2 then (some (.inr (.inl ()))) else (some (.inl (aL a0 1)))) else (some (.inr (.inr (()))))
def eW (a1:(List aS)) (a2:Int):Int→Option (Int ⊕ (Unit ⊕ Unit)):=fun a0 =>
 if (decide (a0<a2)) then ((idx a1 a2).bind fun a4=>(idx a1 a0).bind fun a5=>(pL a4 a5).bind fun a3=>if (a3==0) then (some (.inr (.inl ()))) else (some (.inl (aL a0 1)))) else (some (.inr (.inr (()))))
def eX (a1:(List aS)):Int→Option (Int ⊕ (Unit ⊕ Unit)):=fun a0 =>
 if (decide (a0<(a1.length:Int))) then ((aK (eW a1 a0) 0).bind fun a2=>match a2 with | .inl a3=>some (.inr (.inl ())) | .inr a4=>some (.inl (aL a0 1))) else (some (.inr (.inr (()))))
def bX (x0:aV):Option (Int):=
 (lQ x0.Name x0.cH x0.gU x0.gV).bind fun r2=>if (r2 != 0) then (some r2) else ((if (decide ((x0.aD.length:Int)>12)) then (some true) else (if (decide ((x0.bO.length:Int)>12)) then (some true) else (some (decide ((x0.Forms.length:Int)>12))))).bind fun j4=>if j4 then (some 4) else ((if ((x0.aD.length:Int)==0) then (some true) else ((dY x0.aD).bind fun b5=>if b5 then ((dY x0.bO).bind fun b6=>if b6 then ((dY x0.Forms).bind fun b7=>some (!b7)) else (some true)) else (some true))).bind fun a9=>if a9 then (some 1) else ((pN x0.aD).bind fun a6=>(if (a6.1 != 0) then (some true) else (some (a6.2 != 0))).bind fun b0=>if b0 then (some 1) else ((aK (eU x0) 0).bind fun a3=>match a3 with | .inl a7=>some 7 | .inr a8=>(lG x0.aD).bind fun a2=>if (!a2) then (some 6) else ((app [] x0.bO).bind fun a1=>(app a1 x0.Forms).bind fun a0=>(aK (eV x0 a0) 0).bind fun a4=>match a4 with | .inl b1=>some 13 | .inr b2=>(aK (eX a0) 0).bind fun a5=>match a5 with | .inl b3=>some 7 | .inr b4=>some 0)))))
def dA (l:aT):Int→Option (Int ⊕ (Int ⊕ Unit)):=fun a1 =>
 if (decide (a1<(l.aB.length:Int))) then ((idx l.aB a1).bind fun a3=>(rF a3).bind fun a0=>if (!a0.2.1) then (some (.inr (.inl 1))) else ((bX (aV.mk a0.1.Name a0.1.cH a0.1.gU a0.1.gV a0.1.aD a0.1.bO a0.1.Forms)).bind fun a2=>if (a2 != 0) then (some (.inr (.inl a2))) else (some (.inl (aL a1 1))))) else (some (.inr (.inr (()))))
def gN (l:aT) (a1:aV):Int→Option (Int ⊕ (Unit ⊕ Unit)):=fun a0 =>
 if (decide (a0<(a1.aD.length:Int))) then (((idx a1.aD a0).bind fun a6=>(iK a6 (aS.mk 0 0 l.bF.fA l.bF.cQ)).bind fun a3=>if a3 then ((idx a1.aD a0).bind fun a7=>(gK a7 l.bF.cC).bind fun a4=>if a4 then (some true) else ((idx a1.aD a0).bind fun a8=>(gK a8 l.bF.Used).bind fun a5=>some a5)) else (some true)).bind fun a2=>if a2 then (some (.inr (.inl ()))) else (some (.inl (aL a0 1)))) else (some (.inr (.inr (()))))
def gO (l:aT):Int→Option (Int ⊕ (Unit ⊕ Unit)):=fun a0 =>
 if (decide (a0<(l.aB.length:Int))) then ((idx l.aB a0).bind fun a1=>(aK (gN l a1) 0).bind fun a2=>match a2 with | .inl a3=>some (.inr (.inl ())) | .inr a4=>some (.inl (aL a0 1))) else (some (.inr (.inr (()))))
def gP (l:aT) (a1:Int) (a3:Int):Int→Option (Int ⊕ (Unit ⊕ Unit)):=fun a0 =>
 (idx l.aB a1).bind fun a4=>if (decide (a0<(a4.aD.length:Int))) then ((idx l.aB a1).bind fun a5=>(idx a5.aD a0).bind fun a6=>(idx l.aB a3).bind fun a7=>(gK a6 a7.aD).bind fun a2=>if a2 then (some (.inr (.inl ()))) else (some (.inl (aL a0 1)))) else (some (.inr (.inr (()))))
def gQ (l:aT) (a1:Int):Int→Option (Int ⊕ (Unit ⊕ Unit)):=fun a0 =>
 if (decide (a0<a1)) then ((aK (gP l a1 a0) 0).bind fun a2=>match a2 with | .inl a3=>some (.inr (.inl ())) | .inr a4=>some (.inl (aL a0 1))) else (some (.inr (.inr (()))))
def gR (l:aT):Int→Option (Int ⊕ (Unit ⊕ Unit)):=fun a0 =>
 if (decide (a0<(l.aB.length:Int))) then ((aK (gQ l a0) 0).bind fun a1=>match a1 with | .inl a2=>some (.inr (.inl ())) | .inr a3=>some (.inl (aL a0 1))) else (some (.inr (.inr (()))))
def dG (l:aT):Option (Int):=
 (iX l.bF).bind fun r2=>if (r2 != 0) then (some r2) else (if (decide ((l.aB.length:Int)>8)) then (some 4) else ((aK (dA l) 0).bind fun a7=>match a7 with | .inl a6=>some a6 | .inr a8=>(aK (gO l) 0).bind fun a0=>match a0 with | .inl a2=>some 13 | .inr a3=>(aK (gR l) 0).bind fun a1=>match a1 with | .inl a4=>some 7 | .inr a5=>some 0))
def wb (m n:Int):Bool:=decide (-m≤n)&&decide (n≤m)
theorem Gb {m n:Int}:wb m n=true↔-m≤n∧n≤m:=by unfold wb;simp only [Bool.and_eq_true,decide_eq_true_eq]
theorem JJ (n m:Int) (h : -1000000000≤m∧m≤1000000000):Eu n m=some (wb m n):=by
 unfold Eu wb
 rw [Yf (by omega) (by omega)]
 by_cases h1 : -m≤n <;> simp [h1]
def vR (r:aS):Prop:=(-1048576≤r.X∧r.X≤1048576)∧(-1048576≤r.Y∧r.Y≤1048576)∧0<r.W∧0<r.H∧r.X+r.W≤1048576∧r.Y+r.H≤1048576
instance (r:aS):Decidable (vR r):=by unfold vR;infer_instance
theorem QQ (x w:Int):sQ x w=some (decide ((-1048576≤x∧x≤1048576)∧0<w∧x+w≤1048576)):=by
 unfold sQ
 simp only [JJ _ 1048576 (by omega),Option.bind_some]
 by_cases h1:wb 1048576 x=true
 ·have h1':=Gb.1 h1
  by_cases h2:0<w
  ·by_cases h3:w≤2097152
   ·rw [aY (by omega) (by omega)]
    simp [h1,h2,h3,h1']
   ·have:¬ x+w≤1048576:=by omega
    simp [h1,h2,h3,this]
  ·simp [h1,h2]
 ·have h1':¬ (-1048576≤x∧x≤1048576):=fun q=>h1 (Gb.2 q)
  simp [h1];intro a b;exact absurd ⟨a,b⟩ h1'
theorem tC (r:aS):fJ r=some (decide (vR r)):=by
 unfold fJ
 simp only [QQ,Option.bind_some]
 by_cases h1:(-1048576≤r.X∧r.X≤1048576)∧0<r.W∧r.X+r.W≤1048576
 ·by_cases h2:(-1048576≤r.Y∧r.Y≤1048576)∧0<r.H∧r.Y+r.H≤1048576
  ·have:vR r:=by unfold vR;omega
   simp [h1,h2,this]
  ·have:¬ vR r:=by unfold vR;omega
   simp only [h1,h2,this,decide_true,decide_false,and_self];rfl
 ·have:¬ vR r:=by unfold vR;omega
  simp only [h1,this,decide_false];rfl
def tZ (a b:aS):Prop:=vR a∧vR b∧b.X≤a.X∧a.X+a.W≤b.X+b.W∧b.Y≤a.Y∧a.Y+a.H≤b.Y+b.H
instance (a b:aS):Decidable (tZ a b):=by unfold tZ;infer_instance
theorem Ot (a b:aS):xK a b=some (decide (tZ a b)):=by
 unfold xK tZ
 simp only [tC,Option.bind_some]
 by_cases h1:vR a
 ·by_cases h2:vR b
  ·have h1':=h1;have h2':=h2
   unfold vR at h1' h2'
   rw [aY (by omega) (by omega),aY (by omega) (by omega),aY (by omega) (by omega),aY (by omega) (by omega)]
   by_cases h3:b.X≤a.X <;> by_cases h4:a.X+a.W≤b.X+b.W <;> by_cases h5:b.Y≤a.Y <;> simp [h1,h2,h3,h4,h5]
  ·simp [h1,h2]
 ·simp [h1]
theorem QA (n:Int):iH n=some (wb 1048576 n):=by
 unfold iH wb
 by_cases h1 : -1048576≤n <;> simp [h1]
theorem Jm (r:aS):cY r=some (decide (vR r)):=by
 unfold cY
 simp only [QA,Option.bind_some]
 by_cases h1:wb 1048576 r.X=true
 ·by_cases h2 : wb 1048576 r.Y=true
  ·have h1':=Gb.1 h1
   have h2':=Gb.1 h2
   by_cases h3:r.W<1
   ·have:¬ vR r:=by unfold vR;omega
    simp [h1,h2,h3,this]
   ·by_cases h4:r.H<1
    ·have:¬ vR r:=by unfold vR;omega
     simp [h1,h2,h3,h4,this]
    ·by_cases h5:r.W>2097152
     ·have:¬ vR r:=by unfold vR;omega
      simp [h1,h2,h3,h4,h5,this]
     ·by_cases h6:r.H>2097152
      ·have:¬ vR r:=by unfold vR;omega
       simp [h1,h2,h3,h4,h5,h6,this]
      ·rw [aY (by omega) (by omega),aY (by omega) (by omega)]
       simp only [h1,h2,h3,h4,h5,h6,if_true,decide_false,Bool.false_eq_true,if_false,Option.bind_some]
       by_cases h7:wb 1048576 (r.X+r.W)=true
       ·have h7':=Gb.1 h7
        by_cases h8:wb 1048576 (r.Y+r.H)=true
        ·have h8':=Gb.1 h8
         have:vR r:=by unfold vR;omega
         simp [h7,h8,this]
        ·have h8':¬ (-1048576≤r.Y+r.H∧r.Y+r.H≤1048576):=fun q=>h8 (Gb.2 q)
         have:¬ vR r:=by unfold vR;omega
         simp [h7,h8,this]
       ·have h7':¬ (-1048576≤r.X+r.W∧r.X+r.W≤1048576):=fun q=>h7 (Gb.2 q)
        have:¬ vR r:=by unfold vR;omega
        simp [h7,this]
  ·have h2':¬ (-1048576≤r.Y∧r.Y≤1048576):=fun q=>h2 (Gb.2 q)
   have:¬ vR r:=fun q=>h2' q.2.1
   simp [h1,h2,this]
 ·have h1':¬ (-1048576≤r.X∧r.X≤1048576):=fun q=>h1 (Gb.2 q)
  have:¬ vR r:=fun q=>h1' q.1
  simp [h1,this]
theorem Ou (a b:aS):iK a b=some (decide (tZ a b)):=by
 unfold iK tZ
 simp only [Jm,Option.bind_some]
 by_cases h1:vR a
 ·by_cases h2:vR b
  ·have h1':=h1;have h2':=h2
   unfold vR at h1' h2'
   rw [aY (by omega) (by omega),aY (by omega) (by omega),aY (by omega) (by omega),aY (by omega) (by omega)]
   by_cases h3:b.X≤a.X <;> by_cases h4:a.X+a.W≤b.X+b.W <;> by_cases h5:b.Y≤a.Y <;> simp [h1,h2,h3,h4,h5]
  ·simp [h1,h2]
 ·simp [h1]
theorem jF {S R:Type} (n:Nat) (body:S→Option (S ⊕ R)) (st:Nat→S) (q:Nat→Bool) (no yes:R) {s0:S} (h0:st 0=s0) (step:∀ k:Nat,k<n→body (st k)=if q k then some (.inr yes) else some (.inl (st (k+1)))) (fin:body (st n)=some (.inr no)) :
  aK body s0=some (if (List.range n).any q then yes else no):=by
 have key:∀ (m k:Nat),k+m=n→(∀ j,j<k→q j=false)→aK body (st k)=some (if (List.range n).any q then yes else no):=by
  intro m
  induction m with
  | zero =>
    intro k h hb
    obtain rfl:k=n:=by omega
    have:(List.range k).any q=false:=by
     rw [List.any_eq_false];intro j hj;rw [hb j (List.mem_range.1 hj)];simp
    rw [eA fin,this];rfl
  | succ m ih =>
    intro k h hb
    have hs:=step k (by omega)
    by_cases hq:q k=true
    ·rw [if_pos hq] at hs
     have:(List.range n).any q=true:=List.any_eq_true.2 ⟨k,List.mem_range.2 (by omega),hq⟩
     rw [eA hs,this];rfl
    ·rw [if_neg hq] at hs
     rw [gT hs]
     refine ih (k+1) (by omega) fun j hj=>?_
     by_cases hjk:j=k
     ·subst hjk;simpa using hq
     ·exact hb j (by omega)
 rw [← h0]
 exact key n 0 (by omega) (fun j hj=>absurd hj (by omega))
theorem GJ {α:Type} (l:List α) (q:α→Bool) (p:Nat→Bool) (h:∀ k x,l[k]?=some x→p k=q x):(List.range l.length).any p=l.any q:=by
 rw [Bool.eq_iff_iff,List.any_eq_true,List.any_eq_true]
 constructor
 ·rintro ⟨k,hk,hp⟩
  have hk':=List.mem_range.1 hk
  have hx:l[k]?=some l[k]:=by simp
  exact ⟨l[k],List.getElem_mem hk',by rw [← h k _ hx];exact hp⟩
 ·rintro ⟨x,hx,hq⟩
  obtain ⟨k,hk⟩:=List.mem_iff_getElem?.1 hx
  exact ⟨k,List.mem_range.2 (List.getElem?_eq_some_iff.1 hk).1,by rw [h k _ hk];exact hq⟩
theorem gF {α S R:Type} (l:List α) (body:S→Option (S ⊕ R)) (st:Nat→S) (q:α→Bool) (no yes:R) {s0:S} (h0:st 0=s0) (step:∀ (k:Nat) (x:α),l[k]?=some x→body (st k)=if q x then some (.inr yes) else some (.inl (st (k+1)))) (fin:body (st l.length)=some (.inr no)) :
  aK body s0=some (if l.any q then yes else no):=by
 rw [jF l.length body st (fun k=>match l[k]? with | some x=>q x | none=>false) no yes h0 (fun k hk=>?_) fin]
 ·rw [GJ l q _ (fun k x h=>by rw [h])]
 ·have hx:l[k]?=some l[k]:=by simp
  rw [step k _ hx,hx]
def ovR (a b:aS):Prop:=vR a∧vR b∧a.X<b.X+b.W∧b.X<a.X+a.W∧a.Y<b.Y+b.H∧b.Y<a.Y+a.H
instance (a b:aS):Decidable (ovR a b):=by unfold ovR;infer_instance
theorem Sc (a b:aS):xT a b=some (decide (ovR a b)):=by
 unfold xT ovR
 simp only [tC,Option.bind_some]
 by_cases h1:vR a
 ·by_cases h2:vR b
  ·have h1':=h1;have h2':=h2
   unfold vR at h1' h2'
   rw [aY (by omega) (by omega),aY (by omega) (by omega),aY (by omega) (by omega),aY (by omega) (by omega)]
   by_cases h3:a.X<b.X+b.W <;> by_cases h4:b.X<a.X+a.W <;> by_cases h5:a.Y<b.Y+b.H <;> simp [h1,h2,h3,h4,h5]
  ·simp [h1,h2]
 ·simp [h1]
theorem Zf (a b:aS):mK a b=some (decide (ovR a b)):=by
 unfold mK ovR
 simp only [Jm,Option.bind_some]
 by_cases h1:vR a
 ·by_cases h2:vR b
  ·have h1':=h1;have h2':=h2
   unfold vR at h1' h2'
   rw [aY (by omega) (by omega),aY (by omega) (by omega),aY (by omega) (by omega),aY (by omega) (by omega)]
   by_cases h3:a.X<b.X+b.W <;> by_cases h4:b.X<a.X+a.W <;> by_cases h5:a.Y<b.Y+b.H <;> simp [h1,h2,h3,h4,h5]
  ·simp [h1,h2]
 ·simp [h1]
def Zz (a b:aS):Int:=if vR a∧vR b then max 0 (max (max (b.X-(a.X+a.W)) (a.X-(b.X+b.W))) (max (b.Y-(a.Y+a.H)) (a.Y-(b.Y+b.H)))) else 0
theorem Ks (a b:Int):imax a b=max a b:=by unfold imax;split <;> omega
theorem Ca (a b:Int):mF a b=min a b:=by unfold mF;split <;> omega
theorem Zd (a b:aS):Ak a b=some (Zz a b):=by
 unfold Ak Zz
 simp only [tC,Option.bind_some]
 by_cases h1:vR a
 ·by_cases h2:vR b
  ·have h1':=h1;have h2':=h2
   unfold vR at h1' h2'
   rw [bK (a:=b.X) (by omega) (by omega),bK (a:=a.X) (by omega) (by omega),bK (a:=b.Y) (by omega) (by omega),bK (a:=a.Y) (by omega) (by omega),bK (by omega) (by omega),bK (by omega) (by omega),bK (by omega) (by omega),bK (by omega) (by omega)]
   simp only [h1,h2,Ks,decide_true,and_self,if_true,Bool.not_true,Option.bind_some,Bool.false_eq_true,if_false]
   congr 1
   omega
  ·simp [h1,h2]
 ·simp [h1]
theorem JM (a b:aS):pL a b=some (Zz a b):=by
 unfold pL Zz
 simp only [Jm,Option.bind_some]
 by_cases h1:vR a
 ·by_cases h2:vR b
  ·have h1':=h1;have h2':=h2
   unfold vR at h1' h2'
   rw [bK (a:=b.X) (by omega) (by omega),bK (a:=a.X) (by omega) (by omega),bK (a:=b.Y) (by omega) (by omega),bK (a:=a.Y) (by omega) (by omega),bK (by omega) (by omega),bK (by omega) (by omega),bK (by omega) (by omega),bK (by omega) (by omega)]
   simp only [h1,h2,Ks,decide_true,and_self,if_true,Bool.not_true,Option.bind_some,Bool.false_eq_true,if_false]
   congr 1
   omega
  ·simp [h1,h2]
 ·simp [h1]
end Go.SM
namespace Go.SM
open Go Go.VI Go.Cells
def inC (r:aS) (x y:Int):Bool:=(decide (r.X≤x)&&decide (x<r.X+r.W))&&(decide (r.Y≤y)&&decide (y<r.Y+r.H))
def cov (l:List aS) (x y:Int):Bool:=l.any fun r=>inC r x y
def Uy (l:List aS):Prop:=∀ r ∈ l,vR r
theorem PT {r:aS} {x y:Int}:inC r x y=true↔r.X≤x∧x<r.X+r.W∧r.Y≤y∧y<r.Y+r.H:=by
 unfold inC;simp only [Bool.and_eq_true,decide_eq_true_eq];omega
theorem My {l:List aS} {x y:Int}:cov l x y=true↔∃ r ∈ l,inC r x y=true:=List.any_eq_true
end Go.SM
namespace Go.Cells
def Mq (s:Int→Int) (a b:Int):Prop:=a<b∧s a≠0∧(∀ z,a≤z→z<b→s z=s a)∧s (a-1)≠s a∧s b≠s a
def nR (s:Int→Int) (l:List (Int×Int)):Prop:=l.Pairwise (fun p q=>p.1<q.1)∧∀ a b,(a,b) ∈ l↔Mq s a b
theorem Fz {α:Type} {lt:α→α→Prop} (irr:∀ x,¬ lt x x) (tr:∀ x y z,lt x y→lt y z→lt x z):∀ {l l':List α},l.Pairwise lt→l'.Pairwise lt→(∀ x,x ∈ l↔x ∈ l')→l=l'
 | [],[],_,_,_=>rfl
 | [],y::t,_,_,h=>absurd ((h y).2 List.mem_cons_self) (by simp)
 | x::t,[],_,_,h=>absurd ((h x).1 List.mem_cons_self) (by simp)
 | x::t,y::t',h1,h2,h=>by
   rw [List.pairwise_cons] at h1 h2
   have e:x=y:=by
    rcases List.mem_cons.1 ((h x).1 List.mem_cons_self) with e | m
    ·exact e
    ·rcases List.mem_cons.1 ((h y).2 List.mem_cons_self) with e | m'
     ·exact e.symm
     ·exact absurd (tr _ _ _ (h1.1 y m') (h2.1 x m)) (irr x)
   subst e
   congr 1
   refine Fz irr tr h1.2 h2.2 fun z=>?_
   constructor
   ·intro m
    rcases List.mem_cons.1 ((h z).1 (List.mem_cons_of_mem _ m)) with e | m'
    ·subst e;exact absurd (h1.1 _ m) (irr _)
    ·exact m'
   ·intro m
    rcases List.mem_cons.1 ((h z).2 (List.mem_cons_of_mem _ m)) with e | m'
    ·subst e;exact absurd (h2.1 _ m) (irr _)
    ·exact m'
theorem BL {s:Int→Int} {l l':List (Int×Int)} (h:nR s l) (h':nR s l'):l=l':=
 Fz (lt:=fun p q=>p.1<q.1) (fun _=>Int.lt_irrefl _) (fun _ _ _=>Int.lt_trans) h.1 h'.1 fun x=>(h.2 x.1 x.2).trans (h'.2 x.1 x.2).symm
def cut (s:Int→Int) (e:Int):Int→Int:=fun z=>if z<e then s z else 0
theorem Ik {s:Int→Int} {e z:Int} (h:z<e):cut s e z=s z:=if_pos h
theorem Su {s:Int→Int} {e z:Int} (h:e≤z):cut s e z=0:=if_neg (by omega)
theorem tF {s:Int→Int} {e a b:Int}:Mq (cut s e) a b↔a<b∧b≤e∧s a≠0∧(∀ z,a≤z→z<b→s z=s a)∧s (a-1)≠s a∧(b=e∨s b≠s a):=by
 unfold Mq
 constructor
 ·rintro ⟨h1,h2,h3,h4,h5⟩
  have ha:a<e:=by
   rcases Int.lt_or_le a e with q | q
   ·exact q
   ·exact absurd (Su q) h2
  have hb:b≤e:=by
   rcases Int.lt_or_le e b with q | q
   ·have:=h3 e (by omega) q
    rw [Su (Int.le_refl e)] at this
    exact absurd this.symm h2
   ·exact q
  rw [Ik ha] at h2 h3 h4 h5
  rw [Ik (by omega)] at h4
  refine ⟨h1,hb,h2,fun z p q=>?_,h4, ?_⟩
  ·have:=h3 z p q;rwa [Ik (by omega)] at this
  ·rcases Int.lt_or_le b e with q | q
   ·right;rwa [Ik q] at h5
   ·left;omega
 ·rintro ⟨h1,hb,h2,h3,h4,h5⟩
  have ha:a<e:=by omega
  rw [Ik ha,Ik (show a-1<e by omega)]
  refine ⟨h1,h2,fun z p q=>?_,h4, ?_⟩
  ·rw [Ik (by omega)];exact h3 z p q
  ·rcases h5 with rfl | h5
   ·rw [Su (Int.le_refl _)];exact fun q=>h2 q.symm
   ·rcases Int.lt_or_le b e with q | q
    ·rwa [Ik q]
    ·rw [Su q];exact fun q=>h2 q.symm
theorem Ul {s:Int→Int} {e:Int} (h:∀ z,z<e→s z=0):nR (cut s e) []:=by
 refine ⟨.nil,fun a b=>⟨fun m=>by simp at m,fun m=>?_⟩⟩
 rw [tF] at m
 exact absurd (h a (by omega)) m.2.2.1
theorem Uk {s:Int→Int} {e:Int} {l:List (Int×Int)} (h:nR (cut s e) l) (h0:∀ z,e≤z→s z=0):nR s l:=by
 have:cut s e=s:=funext fun z=>by
  rcases Int.lt_or_le z e with q | q
  ·exact Ik q
  ·rw [Su q,h0 z q]
 rwa [this] at h
theorem QN {s:Int→Int} {e:Int} {l:List (Int×Int)} (h:nR (cut s e) l):∀ p ∈ l,p.1<e∧p.2≤e:=fun p hp=>by
 have:=tF.1 ((h.2 p.1 p.2).1 hp)
 omega
section
variable {s:Int→Int} {e e':Int} {l:List (Int×Int)} (h:nR (cut s e) l) (he:e<e') (hs:∀ z,e≤z→z<e'→s z=s e)
include h he hs
theorem Pr (h0:s e=0):nR (cut s e') l:=by
 refine ⟨h.1,fun a b=>(h.2 a b).trans ?_⟩
 rw [tF,tF]
 constructor
 ·rintro ⟨h1,hb,h2,h3,h4,h5⟩
  refine ⟨h1,by omega,h2,h3,h4, ?_⟩
  rcases h5 with rfl | h5
  ·right;rw [h0];exact fun q=>h2 q.symm
  ·exact .inr h5
 ·rintro ⟨h1,hb,h2,h3,h4,h5⟩
  have ha:a<e:=by
   rcases Int.lt_or_le a e with q | q
   ·exact q
   ·have:=hs a q (by omega);rw [h0] at this;exact absurd this h2
  have hbe:b≤e:=by
   rcases Int.lt_or_le e b with q | q
   ·have:=h3 e (by omega) q;rw [h0] at this;exact absurd this.symm h2
   ·exact q
  refine ⟨h1,hbe,h2,h3,h4, ?_⟩
  rcases h5 with rfl | h5
  ·left;omega
  ·exact .inr h5
theorem BK (h0:s e≠0) (hd:s (e-1)≠s e):nR (cut s e') (l++[(e,e')]):=by
 have hl:=QN h
 refine ⟨?_,fun a b=>?_⟩
 ·rw [List.pairwise_append]
  refine ⟨h.1,by simp,fun p hp q hq=>?_⟩
  simp at hq
  subst hq
  exact (hl p hp).1
 ·rw [List.mem_append,List.mem_singleton,h.2 a b,tF,tF]
  constructor
  ·rintro (⟨h1,hb,h2,h3,h4,h5⟩ | q)
   ·refine ⟨h1,by omega,h2,h3,h4, ?_⟩
    rcases h5 with rfl | h5
    ·right;rw [← h3 (b-1) (by omega) (by omega)];exact fun q=>hd q.symm
    ·exact .inr h5
   ·injection q with q1 q2
    subst q1 q2
    exact ⟨he,Int.le_refl _,h0,hs,hd,.inl rfl⟩
  ·rintro ⟨h1,hb,h2,h3,h4,h5⟩
   rcases Int.lt_or_le a e with q | q
   ·left
    have hbe:b≤e:=by
     rcases Int.lt_or_le e b with q' | q'
     ·have e1:=h3 e (by omega) q'
      have e2:=h3 (e-1) (by omega) (by omega)
      exact absurd (e2.trans e1.symm) hd
     ·exact q'
    refine ⟨h1,hbe,h2,h3,h4, ?_⟩
    rcases h5 with rfl | h5
    ·left;omega
    ·exact .inr h5
   ·right
    have ea:a=e:=by
     rcases Int.lt_or_le e a with q' | q'
     ·have e1:=hs a q (by omega)
      have e2:=hs (a-1) (by omega) (by omega)
      exact absurd (e2.trans e1.symm) h4
     ·omega
    subst ea
    have eb:b=e':=by
     rcases h5 with q' | q'
     ·exact q'
     ·rcases Int.lt_or_le b e' with w | w
      ·exact absurd (hs b (by omega) w) q'
      ·omega
    rw [eb]
theorem Xg {lo:Int} (hlo:∀ z,z<lo→s z=0) (h0:s e≠0) (hd:s (e-1)=s e):∃ l0 a,l=l0++[(a,e)]∧nR (cut s e') (l0++[(a,e')]):=by
 -- the run that ends at e
 have open_:∃ a,Mq (cut s e) a e:=by
  rcases Classical.em (∃ a,Mq (cut s e) a e) with q | q
  ·exact q
  ·exfalso
   have key:∀ n:Nat,∀ z,e-1-n≤z→z<e→s z=s e:=by
    intro n
    induction n with
    | zero => intro z p1 p2;obtain rfl:z = e-1 := by omega
              exact hd
    | succ n ih =>
      intro z p1 p2
      rcases Int.lt_or_le z (e-1-n) with w | w
      ·obtain rfl:z=e-1-n-1:=by omega
       rcases Classical.em (s (e-1-n-1)=s e) with r | r
       ·exact r
       ·refine absurd ⟨e-1-n, ?_⟩ q
        have ea:=ih (e-1-n) (by omega) (by omega)
        rw [tF]
        exact ⟨by omega,Int.le_refl _,by rw [ea];exact h0,fun z a b=>by rw [ea];exact ih z a b,by rw [ea];exact r,.inl rfl⟩
      ·exact ih z w p2
   have hz:=key (e-1-(min (lo-1) (e-1))).toNat (min (lo-1) (e-1)) (by omega) (by omega)
   rw [hlo _ (by omega)] at hz
   exact h0 hz.symm
 obtain ⟨a,ha⟩:=open_
 obtain ⟨a1,_,a2,a3,a4,_⟩:=tF.1 ha
 have sa:∀ z,a≤z→z<e'→s z=s a:=fun z p q=>by
  rcases Int.lt_or_le z e with w | w
  ·exact a3 z p w
  ·rw [hs z w q,← hd];exact a3 _ (by omega) (by omega)
 obtain ⟨l1,l2,rfl⟩:=List.append_of_mem ((h.2 a e).2 ha)
 have hp:=h.1
 rw [List.pairwise_append,List.pairwise_cons] at hp
 obtain ⟨p1,⟨p2,p3⟩,p4⟩:=hp
 have l2n:l2=[]:=by
  cases l2 with
  | nil=>rfl
  | cons q t =>
    exfalso
    have hq:=p2 q List.mem_cons_self
    have hr:=tF.1 ((h.2 q.1 q.2).1 (by simp))
    obtain ⟨r1,r2,r3,r4,r5,_⟩:=hr
    have hq:a<q.1:=hq
    refine r5 ?_
    rw [sa (q.1-1) (by omega) (by omega),sa q.1 (by omega) (by omega)]
 subst l2n
 refine ⟨l1,a,rfl, ?_,fun x y=>?_⟩
 ·rw [List.pairwise_append]
  refine ⟨p1,by simp,fun q hq r hr=>?_⟩
  simp at hr
  subst hr
  exact p4 q hq (a,e) List.mem_cons_self
 ·rw [List.mem_append,List.mem_singleton,tF]
  constructor
  ·rintro (m | m)
   ·have hx:x<a:=p4 (x,y) m (a,e) List.mem_cons_self
    obtain ⟨r1,r2,r3,r4,r5,r6⟩:=tF.1 ((h.2 x y).1 (List.mem_append_left _ m))
    have hy:y≤a:=by
     rcases Int.lt_or_le a y with q | q
     ·exact absurd ((r4 (a-1) (by omega) (by omega)).trans (r4 a (by omega) q).symm) a4
     ·exact q
    refine ⟨r1,by omega,r3,r4,r5, ?_⟩
    rcases r6 with r6 | r6
    ·omega
    ·exact .inr r6
   ·injection m with m1 m2
    subst m1 m2
    exact ⟨by omega,Int.le_refl _,a2,sa,a4,.inl rfl⟩
  ·rintro ⟨r1,r2,r3,r4,r5,r6⟩
   have hxe:x<e:=by
    rcases Int.lt_or_le x e with q | q
    ·exact q
    ·refine absurd ?_ r5
     rw [sa (x-1) (by omega) (by omega),sa x (by omega) (by omega)]
   rcases Int.lt_or_le y e with q | q
   ·left
    have:(x,y) ∈ l1++[(a,e)]:=(h.2 x y).2 (tF.2 ⟨r1,by omega,r3,r4,r5,by
     rcases r6 with r6 | r6
     ·omega
     ·exact .inr r6⟩)
    rcases List.mem_append.1 this with m | m
    ·exact m
    ·simp at m;omega
   ·right
    have ex:x=a:=by
     rcases Int.lt_or_le x a with w | w
     ·exact absurd ((r4 (a-1) (by omega) (by omega)).trans (r4 a (by omega) (by omega)).symm) a4
     ·rcases Int.lt_or_le a x with w' | w'
      ·refine absurd ?_ r5
       rw [sa (x-1) (by omega) (by omega),sa x (by omega) (by omega)]
      ·omega
    subst ex
    have ey:y=e':=by
     rcases r6 with r6 | r6
     ·exact r6
     ·rcases Int.lt_or_le y e' with w | w
      ·exact absurd (sa y (by omega) w) r6
      ·omega
    rw [ey]
end
theorem DT {s:Int→Int} {lo hi:Int} (hlo:∀ z,z<lo→s z=0) (hhi:∀ z,hi≤z→s z=0) {x:Int} (hx:s x≠0):∃ a b,Mq s a b∧a≤x∧x<b:=by
 have left_:∀ n:Nat,(∃ a,a≤x∧(∀ z,a≤z→z≤x→s z=s x)∧s (a-1)≠s x)∨∀ z,x-n≤z→z≤x→s z=s x:=by
  intro n
  induction n with
  | zero=>right;intro z p q;rw [show z=x from by omega]
  | succ n ih =>
    rcases ih with q | q
    ·exact .inl q
    ·rcases Classical.em (s (x-n-1)=s x) with r | r
     ·right
      intro z p1 p2
      rcases Int.lt_or_le z (x-n) with w | w
      ·rw [show z=x-n-1 from by omega];exact r
      ·exact q z w p2
     ·left;exact ⟨x-n,by omega,fun z a b=>q z a b,r⟩
 have right_:∀ n:Nat,(∃ b,x<b∧(∀ z,x≤z→z<b→s z=s x)∧s b≠s x)∨∀ z,x≤z→z≤x+n→s z=s x:=by
  intro n
  induction n with
  | zero=>right;intro z p q;rw [show z=x from by omega]
  | succ n ih =>
    rcases ih with q | q
    ·exact .inl q
    ·rcases Classical.em (s (x+n+1)=s x) with r | r
     ·right
      intro z p1 p2
      rcases Int.lt_or_le (x+n) z with w | w
      ·rw [show z=x+n+1 from by omega];exact r
      ·exact q z p1 w
     ·left;exact ⟨x+n+1,by omega,fun z a b=>q z a (by omega),r⟩
 obtain ⟨a,a1,a2,a3⟩:∃ a,a≤x∧(∀ z,a≤z→z≤x→s z=s x)∧s (a-1)≠s x:=by
  rcases left_ (x-min (lo-1) x).toNat with q | q
  ·exact q
  ·have:=q (min (lo-1) x) (by omega) (by omega)
   rw [hlo _ (by omega)] at this
   exact absurd this.symm hx
 obtain ⟨b,b1,b2,b3⟩:∃ b,x<b∧(∀ z,x≤z→z<b→s z=s x)∧s b≠s x:=by
  rcases right_ (max hi x-x).toNat with q | q
  ·exact q
  ·have:=q (max hi x) (by omega) (by omega)
   rw [hhi _ (by omega)] at this
   exact absurd this.symm hx
 have ha:=a2 a (Int.le_refl a) a1
 refine ⟨a,b,⟨by omega,by rw [ha];exact hx,fun z p q=>?_,by rw [ha];exact a3,by rw [ha];exact b3⟩,a1,b1⟩
 rw [ha]
 rcases Int.lt_or_le z x with w | w
 ·exact a2 z p (by omega)
 ·exact b2 z w q
end Go.Cells
namespace Go.SM
open Go Go.VI Go.Cells
def xsL (l:List aS):List Int:=l.flatMap fun r=>[r.X,r.X+r.W]
def ysL (l:List aS):List Int:=l.flatMap fun r=>[r.Y,r.Y+r.H]
def Bj (g l:List Int):Prop:=g.Pairwise (fun x y=>x<y)∧∀ x,x ∈ g↔x ∈ l
theorem Qf {g g' l:List Int} (h:Bj g l) (h':Bj g' l):g=g':=
 Fz (lt:=fun x y=>x<y) (fun _=>Int.lt_irrefl _) (fun _ _ _=>Int.lt_trans) h.1 h'.1 fun x=>(h.2 x).trans (h'.2 x).symm
theorem Mo (a b:List aS):xsL (a++b)=xsL a++xsL b:=by simp [xsL]
theorem Mp (a b:List aS):ysL (a++b)=ysL a++ysL b:=by simp [ysL]
theorem Oo (l:List aS):(xsL l).length=2*l.length:=by
 induction l with
 | nil=>rfl
 | cons r l ih=>rw [show xsL (r::l)=[r.X,r.X+r.W]++xsL l from rfl,List.length_append,ih];simp;omega
theorem Oq (l:List aS):(ysL l).length=2*l.length:=by
 induction l with
 | nil=>rfl
 | cons r l ih=>rw [show ysL (r::l)=[r.Y,r.Y+r.H]++ysL l from rfl,List.length_append,ih];simp;omega
theorem Yz {r:aS} (h:vR r):aL r.X r.W=r.X+r.W∧aL r.Y r.H=r.Y+r.H:=by
 unfold vR at h
 exact ⟨aY (by omega) (by omega),aY (by omega) (by omega)⟩
theorem nK {α:Type} {l:List α} {k:Nat} {x:α} (h:l[k]?=some x):l.take (k+1)=l.take k++[x]:=by rw [List.take_add_one,h];rfl
theorem mD {α:Type} {l:List α} {k:Nat} {x d:α} (h:l[k]?=some x):l.getD k d=x:=by rw [List.getD_eq_getElem?_getD,h];rfl
def ps (g:Int→Int) (xs:List Int) (k:Nat):Int:=Lg (fun i=>(xs.getD (i+1) 0-xs.getD i 0)*g (xs.getD i 0)) k
theorem Mu {xs:List Int} (h:xs.Pairwise fun x y=>x<y) {i j:Nat} {x y:Int} (hij:i<j) (hx:xs[i]?=some x) (hy:xs[j]?=some y):x<y:=by
 obtain ⟨a,rfl⟩:=List.getElem?_eq_some_iff.1 hx
 obtain ⟨b,rfl⟩:=List.getElem?_eq_some_iff.1 hy
 exact List.pairwise_iff_getElem.1 h i j a b hij
structure ED (xs:List Int):Prop where
 asc:xs.Pairwise fun x y=>x<y
 within:∀ x ∈ xs,-1048576≤x∧x≤1048576
 len:xs.length≤1000
theorem Px {β:Type} {f:Int→β} {C:Int→Prop} (hf:∀ x z,x≤z→(∀ c,C c→(c≤z↔c≤x))→f z=f x):∀ g:List Int,g.Pairwise (fun x y=>x<y)→(∀ c,C c→(∀ x,g.head?=some x→c<x)∨c ∈ g)→Fc f g
 | [],_,_=>trivial
 | [_],_,_=>trivial
 | x::y::t,h,hc=>by
   have hxy:=(List.pairwise_cons.1 h).1 y List.mem_cons_self
   have ht:=(List.pairwise_cons.1 h).2
   refine ⟨hxy,fun z h1 h2=>hf x z h1 fun c hC=>?_,Px hf (y::t) ht fun c hC=>?_⟩
   ·rcases hc c hC with q | q
    ·have:=q x rfl;omega
    ·rcases List.mem_cons.1 q with rfl | q
     ·omega
     ·rcases List.mem_cons.1 q with rfl | q
      ·omega
      ·have:=(List.pairwise_cons.1 ht).1 c q;omega
   ·rcases hc c hC with q | q
    ·left;intro w hw;simp at hw;subst hw;have:=q x rfl;omega
    ·rcases List.mem_cons.1 q with rfl | q
     ·left;intro w hw;simp at hw;subst hw;exact hxy
     ·exact .inr q
theorem Uw {l:List aS} {r:aS} (h:r ∈ l):r.X ∈ xsL l∧r.X+r.W ∈ xsL l:=by
 unfold xsL
 exact ⟨List.mem_flatMap.2 ⟨r,h,by simp⟩,List.mem_flatMap.2 ⟨r,h,by simp⟩⟩
theorem Zb {l:List aS} {r:aS} (h:r ∈ l):r.Y ∈ ysL l∧r.Y+r.H ∈ ysL l:=by
 unfold ysL
 exact ⟨List.mem_flatMap.2 ⟨r,h,by simp⟩,List.mem_flatMap.2 ⟨r,h,by simp⟩⟩
theorem Sg {α:Type} {l:List α} {f g:α→Bool} (h:∀ x ∈ l,f x=g x):l.any f=l.any g:=by
 induction l with
 | nil=>rfl
 | cons x l ih=>simp only [List.any_cons];rw [h x List.mem_cons_self,ih fun y hy=>h y (List.mem_cons_of_mem _ hy)]
structure Has (xs ys:List Int) (l:List aS):Prop where
 X:ED xs
 Y:ED ys
 x:∀ c ∈ xsL l,c ∈ xs
 y:∀ c ∈ ysL l,c ∈ ys
 v:Uy l
section
variable {xs ys:List Int} {l:List aS} (h:Has xs ys l)
include h
theorem OY {x y:Int} (hc:cov l x y=true):(∃ a ∈ xs,a≤x)∧(∃ a ∈ xs,x<a)∧(∃ a ∈ ys,a≤y)∧(∃ a ∈ ys,y<a):=by
 obtain ⟨r,hr,hb⟩:=List.any_eq_true.1 hc
 rw [PT] at hb
 exact ⟨⟨_,h.x _ (Uw hr).1,hb.1⟩,⟨_,h.x _ (Uw hr).2,hb.2.1⟩,⟨_,h.y _ (Zb hr).1,hb.2.2.1⟩,⟨_,h.y _ (Zb hr).2,hb.2.2.2⟩⟩
omit h in
theorem ends {x0:Int} {t:List Int} (ha:(x0::t).Pairwise fun x y=>x<y):∀ a ∈ x0::t,x0≤a∧a≤(x0::t).getLast (by simp):=fun a m=>by
 constructor
 ·rcases List.mem_cons.1 m with rfl | m
  ·exact Int.le_refl _
  ·exact Int.le_of_lt ((List.pairwise_cons.1 ha).1 a m)
 ·have e:x0::t=(x0::t).dropLast++[(x0::t).getLast (by simp)]:=(List.dropLast_concat_getLast (by simp)).symm
  rw [e,List.pairwise_append] at ha
  rw [e] at m
  rcases List.mem_append.1 m with m | m
  ·exact Int.le_of_lt (ha.2.2 a m _ (by simp))
  ·simp at m;omega
end
theorem Yk {l:List aS} (hv:Uy l):(∀ c ∈ xsL l,-1048576≤c∧c≤1048576)∧∀ c ∈ ysL l,-1048576≤c∧c≤1048576:=by
 constructor
 ·intro c hc
  obtain ⟨r,hr,hm⟩:=List.mem_flatMap.1 hc
  have:=hv r hr
  unfold vR at this
  simp at hm
  omega
 ·intro c hc
  obtain ⟨r,hr,hm⟩:=List.mem_flatMap.1 hc
  have:=hv r hr
  unfold vR at this
  simp at hm
  omega
theorem Wz {α:Type} [BEq α] [LawfulBEq α]:∀ {g l:List α},g.Nodup→(∀ x ∈ g,x ∈ l)→g.length≤l.length
 | [],_,_,_=>by simp
 | x::g,l,hn,h=>by
   rw [List.nodup_cons] at hn
   have:=Wz (g:=g) (l:=l.erase x) hn.2 fun y hy=>(List.mem_erase_of_ne (fun e=>hn.1 (by rw [← e];exact hy))).2 (h y (List.mem_cons_of_mem _ hy))
   rw [List.length_erase_of_mem (h x List.mem_cons_self)] at this
   have hp:=List.length_pos_of_mem (h x List.mem_cons_self)
   simp only [List.length_cons];omega
theorem xC {g l:List Int} (hg:g.Pairwise fun x y=>x<y) (h:∀ x ∈ g,x ∈ l):g.length≤l.length:=by
 have hn:g.Nodup:=hg.imp fun q=>by omega
 exact Wz hn h
theorem LO {xs ys:List Int} {lines l:List aS} (hv:Uy lines) (hl:lines.length≤400) (hx:Bj xs (xsL lines)) (hy:Bj ys (ysL lines)) (hs:∀ r ∈ l,r ∈ lines):Has xs ys l:=by
 have w:=Yk hv
 have lx:=xC hx.1 fun x m=>(hx.2 x).1 m
 have ly:=xC hy.1 fun x m=>(hy.2 x).1 m
 rw [Oo] at lx
 rw [Oq] at ly
 refine ⟨⟨hx.1,fun x m=>w.1 x ((hx.2 x).1 m),by omega⟩,⟨hy.1,fun x m=>w.2 x ((hy.2 x).1 m),by omega⟩,fun c hc=>?_,fun c hc=>?_,fun r hr=>hv r (hs r hr)⟩
 ·obtain ⟨r,hr,hm⟩:=List.mem_flatMap.1 hc
  exact (hx.2 c).2 (List.mem_flatMap.2 ⟨r,hs r hr,hm⟩)
 ·obtain ⟨r,hr,hm⟩:=List.mem_flatMap.1 hc
  exact (hy.2 c).2 (List.mem_flatMap.2 ⟨r,hs r hr,hm⟩)
def lK (R:List (List aS)) (x y:Int):Option Nat:=R.findIdx? fun l=>cov l x y
def Ge (o:Option Nat):Option Int:=o.map fun i=>(i:Int)
def eJ (R:List (List aS)) (x y:Int):Option Int:=Ge (lK R x y)
def CX (R:List (List aS)) (x y:Int):Int:=match lK R x y with
 | some i=>(i:Int)
 | none=>-1
theorem SQ (R:List (List aS)) (x y:Int):CX R x y=match eJ R x y with | some i=>i | none=>-1:=by
 unfold CX eJ Ge
 cases lK R x y <;> rfl
theorem Rq {R:List (List aS)} {x y:Int} {i:Nat} (h:lK R x y=some i):i<R.length:=by
 unfold lK at h
 exact (List.findIdx?_eq_some_iff_getElem.1 h).1
theorem Tq {R:List (List aS)} {x y x' y':Int} (h:∀ l ∈ R,cov l x y=cov l x' y'):lK R x y=lK R x' y':=by
 unfold lK
 have:∀ R:List (List aS),(∀ l ∈ R,cov l x y=cov l x' y')→R.findIdx? (fun l=>cov l x y)=R.findIdx? fun l=>cov l x' y':=by
  intro R
  induction R with
  | nil=>intro _;rfl
  | cons l R ih =>
    intro h
    rw [List.findIdx?_cons,List.findIdx?_cons,h l List.mem_cons_self,ih fun k hk=>h k (List.mem_cons_of_mem _ hk)]
 exact this R h
theorem Ky {α R:Type} (l:List α) (body:Int→Option (Int ⊕ R)) (q:α→Bool) (yes:Nat→R) (no:R) (step:∀ (k:Nat) (x:α),l[k]?=some x→body k=if q x then some (.inr (yes k)) else some (.inl ((k+1:Nat):Int))) (fin:body (l.length:Int)=some (.inr no)) :
  aK body 0=some (match l.findIdx? q with | some i=>yes i | none=>no):=by
 have key:∀ (m k:Nat),k+m=l.length→aK body (k:Int)=some (match (l.drop k).findIdx? q with | some i=>yes (k+i) | none=>no):=by
  intro m
  induction m with
  | zero =>
    intro k h;obtain rfl:k=l.length:=by omega
    rw [List.drop_length,eA fin];rfl
  | succ m ih =>
    intro k h
    have hk:k<l.length:=by omega
    have hx:l[k]?=some l[k]:=by simp
    have hs:=step k _ hx
    rw [List.drop_eq_getElem_cons hk,List.findIdx?_cons]
    cases hq:q l[k] with
    | true=>rw [hq] at hs;rw [eA hs];simp
    | false =>
      rw [hq] at hs
      rw [gT hs,ih (k+1) (by omega)]
      cases (l.drop (k+1)).findIdx? q with
      | none=>rfl
      | some i=>simp;congr 1;omega
 have:=key l.length 0 (by omega)
 simpa using this
structure Lay (R:List (List aS)) (xs ys:List Int):Prop where
 x:Bj xs (xsL R.flatten)
 y:Bj ys (ysL R.flatten)
 v:Uy R.flatten
 n:R.flatten.length≤400
 m:R.length≤900
section
variable {R:List (List aS)} {xs ys:List Int} (h:Lay R xs ys)
include h
theorem Lay.has {l:List aS} (hl:l ∈ R):Has xs ys l:=LO h.v h.n h.x h.y fun r hr=>List.mem_flatten.2 ⟨l,hl,hr⟩
theorem Lay.TV:Has xs ys R.flatten:=LO h.v h.n h.x h.y fun r hr=>hr
theorem Lay.X:ED xs:=h.TV.X
theorem Lay.Y:ED ys:=h.TV.Y
theorem MC {x y:Int} {i:Nat} (hc:lK R x y=some i):(∃ a ∈ xs,a≤x)∧(∃ a ∈ xs,x<a)∧(∃ a ∈ ys,a≤y)∧(∃ a ∈ ys,y<a):=by
 unfold lK at hc
 obtain ⟨hi,h1,_⟩:=List.findIdx?_eq_some_iff_getElem.1 hc
 exact OY (h.has (List.getElem_mem hi)) h1
theorem Yi:Fc (fun x=>lK R x) xs:=Px (C:=fun c=>c ∈ xsL R.flatten) (fun x z hxz hC=>funext fun y=>Tq fun l hl=>Sg fun r hr=>by
 have hrm:r ∈ R.flatten:=List.mem_flatten.2 ⟨l,hl,hr⟩
 have h1:=hC _ (Uw hrm).1
 have h2:=hC _ (Uw hrm).2
 show ((decide (r.X≤z)&&decide (z<r.X+r.W))&&_)=((decide (r.X≤x)&&decide (x<r.X+r.W))&&_)
 rw [show decide (r.X≤z)=decide (r.X≤x) from by simp only [h1],show decide (z<r.X+r.W)=decide (x<r.X+r.W) from by
  have:(z<r.X+r.W)=(x<r.X+r.W):=by apply propext;omega
  simp only [this]]) xs h.X.asc fun c hc=>.inr ((h.x.2 c).2 hc)
theorem FE:Fc (fun y=>fun x=>lK R x y) ys:=Px (C:=fun c=>c ∈ ysL R.flatten) (fun y z hyz hC=>funext fun x=>Tq fun l hl=>Sg fun r hr=>by
 have hrm:r ∈ R.flatten:=List.mem_flatten.2 ⟨l,hl,hr⟩
 have h1:=hC _ (Zb hrm).1
 have h2:=hC _ (Zb hrm).2
 show (_&&(decide (r.Y≤z)&&decide (z<r.Y+r.H)))=(_&&(decide (r.Y≤y)&&decide (y<r.Y+r.H)))
 rw [show decide (r.Y≤z)=decide (r.Y≤y) from by simp only [h1],show decide (z<r.Y+r.H)=decide (y<r.Y+r.H) from by
  have:(z<r.Y+r.H)=(y<r.Y+r.H):=by apply propext;omega
  simp only [this]]) ys h.Y.asc fun c hc=>.inr ((h.y.2 c).2 hc)
end
def num:Option Int→Int
 | none=>0
 | some i=>i+1
def cod (a b:Option Int):Int:=if a=b then 0 else num a*1000+num b
theorem Yn {a b:Option Int} (ha:∀ i,a=some i→0≤i) (hb:∀ i,b=some i→0≤i) (h:num a=num b):a=b:=by
 cases a with
 | none=>cases b with
   | none=>rfl
   | some j=>have:=hb j rfl;simp only [num] at h;omega
 | some i=>cases b with
   | none=>have:=ha i rfl;simp only [num] at h;omega
   | some j=>simp only [num] at h;rw [show i=j by omega]
def SmO (a:Option Int):Prop:=∀ i,a=some i→0≤i∧i<900
theorem Pk {a:Option Int} (h:SmO a):0≤num a∧num a≤900:=by
 cases a with
 | none=>simp [num]
 | some i=>have:=h i rfl;simp only [num];omega
theorem Gi {a b:Option Int} (ha:SmO a) (hb:SmO b):cod a b=0↔a=b:=by
 unfold cod
 constructor
 ·intro h
  split at h
  ·assumption
  ·have:=Pk ha;have:=Pk hb
   exact Yn (fun i e=>(ha i e).1) (fun i e=>(hb i e).1) (by omega)
 ·intro h;rw [if_pos h]
theorem EM {a b a' b':Option Int} (ha:SmO a) (hb:SmO b) (ha':SmO a') (hb':SmO b') (h0:cod a b≠0) (h:cod a b=cod a' b'):a=a'∧b=b':=by
 have h0':cod a' b'≠0:=by rw [← h];exact h0
 unfold cod at h h0 h0'
 split at h
 ·rename_i e;rw [if_pos e] at h0;exact absurd rfl h0
 ·split at h
  ·rename_i e;rw [if_pos e] at h0';exact absurd rfl h0'
  ·have:=Pk ha;have:=Pk hb;have:=Pk ha';have:=Pk hb'
   exact ⟨Yn (fun i e=>(ha i e).1) (fun i e=>(ha' i e).1) (by omega),Yn (fun i e=>(hb i e).1) (fun i e=>(hb' i e).1) (by omega)⟩
theorem lD {R:List (List aS)} (hm:R.length≤900) (x y:Int):SmO (eJ R x y):=fun i h=>by
 unfold eJ Ge at h
 cases e:lK R x y with
 | none=>rw [e] at h;cases h
 | some j=>rw [e] at h;have:=Rq e;simp at h;omega
def hS (R:List (List aS)) (y:Int) (z:Int):Int:=cod (eJ R z y) (eJ R z (y-1))
def vS (R:List (List aS)) (x:Int) (z:Int):Int:=cod (eJ R x z) (eJ R (x-1) z)
def mB (s:Int→Int):List (Int×Int):=open Classical in if h:∃ L,nR s L then Classical.choose h else []
theorem Kf {s:Int→Int} {L:List (Int×Int)} (h:nR s L):mB s=L:=by
 unfold mB
 have hx:∃ L,nR s L:=⟨L,h⟩
 rw [dif_pos hx]
 exact BL (Classical.choose_spec hx) h
theorem Hz {β γ:Type} (f:β→γ) {g:Int→β}:∀ {l:List Int},Fc g l→Fc (fun x=>f (g x)) l
 | [],_=>trivial
 | [_],_=>trivial
 | _::_::_,h=>⟨h.1,fun z a b=>congrArg f (h.2.1 z a b),Hz f h.2.2⟩
theorem xF {β:Type} {f:Int→β}:∀ {xs:List Int},Fc f xs→∀ {k:Nat} {x x':Int},xs[k]?=some x→xs[k+1]?=some x'→x<x'∧∀ z,x≤z→z<x'→f z=f x
 | [],_,k,x,x',h,_=>by simp at h
 | [_],_,k,x,x',_,h=>by simp at h
 | a::b::t,hs,0,x,x',h,h'=>by
   simp at h h'
   subst h h'
   exact ⟨hs.1,hs.2.1⟩
 | a::b::t,hs,k+1,x,x',h,h'=>by
   simp only [List.getElem?_cons_succ] at h h'
   exact xF hs.2.2 h h'
structure Al (A B:Int→Option Int) (xs:List Int):Prop where
 st:Fc (fun z=>(A z,B z)) xs
 len:xs.length≤1000
 sa:∀ z,SmO (A z)
 sb:∀ z,SmO (B z)
 low:∀ x0,xs[0]?=some x0→∀ z,z<x0→A z=none∧B z=none
 high:∀ x1,xs[xs.length-1]?=some x1→∀ z,x1≤z→A z=none∧B z=none
 emp:xs=[]→∀ z,A z=none∧B z=none
theorem Vu {g:List Int} {a b:Int} (hg:g.Pairwise fun x y=>x<y) (ha:g[0]?=some a) (hb:b ∈ g):a≤b:=by
 obtain ⟨i,hi⟩:=List.mem_iff_getElem?.1 hb
 rcases Nat.eq_zero_or_pos i with q | q
 ·subst q;rw [ha] at hi;injection hi with hi;omega
 ·have:=Mu hg q ha hi;omega
theorem Zn {g:List Int} {a b:Int} (hg:g.Pairwise fun x y=>x<y) (ha:g[g.length-1]?=some a) (hb:b ∈ g):b≤a:=by
 obtain ⟨i,hi⟩:=List.mem_iff_getElem?.1 hb
 have:=bG hi
 by_cases q:i=g.length-1
 ·subst q;rw [ha] at hi;injection hi with hi;omega
 ·have:=Mu hg (show i<g.length-1 by omega) hi ha;omega
section
variable {R:List (List aS)} {xs ys:List Int} (h:Lay R xs ys)
include h
theorem Nw:(∀ x0,xs[0]?=some x0→∀ x y,x<x0→lK R x y=none)∧(∀ x1,xs[xs.length-1]?=some x1→∀ x y,x1≤x→lK R x y=none)∧(xs=[]→∀ x y,lK R x y=none) ∧
  (∀ y0,ys[0]?=some y0→∀ x y,y<y0→lK R x y=none)∧(∀ y1,ys[ys.length-1]?=some y1→∀ x y,y1≤y→lK R x y=none)∧(ys=[]→∀ x y,lK R x y=none):=by
 have no:∀ {x y:Int},(∀ i,lK R x y≠some i)→lK R x y=none:=fun {x y} hn=>by
  cases e:lK R x y with
  | none=>rfl
  | some i=>exact absurd e (hn i)
 refine ⟨fun x0 h0 x y hx=>no fun i e=>?_,fun x0 h0 x y hx=>no fun i e=>?_,fun h0 x y=>no fun i e=>?_,fun x0 h0 x y hx=>no fun i e=>?_,fun x0 h0 x y hx=>no fun i e=>?_,fun h0 x y=>no fun i e=>?_⟩ <;> obtain ⟨⟨a,ha,a1⟩,⟨b,hb,b1⟩,⟨c,hc,c1⟩,⟨d,hd,d1⟩⟩:=MC h e
 ·have:=Vu h.X.asc h0 ha;omega
 ·have:=Zn h.X.asc h0 hb;omega
 ·rw [h0] at ha;cases ha
 ·have:=Vu h.Y.asc h0 hc;omega
 ·have:=Zn h.Y.asc h0 hd;omega
 ·rw [h0] at hc;cases hc
omit h in
theorem nU {x y:Int} (e:lK R x y=none):eJ R x y=none:=by unfold eJ Ge;rw [e];rfl
theorem TP (y:Int):Al (fun z=>eJ R z y) (fun z=>eJ R z (y-1)) xs:=by
 obtain ⟨o1,o2,o3,_⟩:=Nw h
 exact ⟨Hz (fun f:Int→Option Nat=>(Ge (f y),Ge (f (y-1)))) (g:=fun x=>lK R x) (Yi h),h.X.len,fun z=>lD h.m _ _,fun z=>lD h.m _ _,
  fun x0 h0 z hz=>⟨nU (o1 x0 h0 z _ hz),nU (o1 x0 h0 z _ hz)⟩,fun x0 h0 z hz=>⟨nU (o2 x0 h0 z _ hz),nU (o2 x0 h0 z _ hz)⟩,fun h0 z=>⟨nU (o3 h0 z _),nU (o3 h0 z _)⟩⟩
theorem OO (x:Int):Al (fun z=>eJ R x z) (fun z=>eJ R (x-1) z) ys:=by
 obtain ⟨_,_,_,o1,o2,o3⟩:=Nw h
 exact ⟨Hz (fun f:Int→Option Nat=>(Ge (f x),Ge (f (x-1)))) (g:=fun y=>fun x=>lK R x y) (FE h),h.Y.len,fun z=>lD h.m _ _,fun z=>lD h.m _ _,
  fun x0 h0 z hz=>⟨nU (o1 x0 h0 _ z hz),nU (o1 x0 h0 _ z hz)⟩,fun x0 h0 z hz=>⟨nU (o2 x0 h0 _ z hz),nU (o2 x0 h0 _ z hz)⟩,fun h0 z=>⟨nU (o3 h0 _ z),nU (o3 h0 _ z)⟩⟩
end
section
variable {A B:Int→Option Int} {xs:List Int} (h:Al A B xs)
include h
theorem Al.s0 (z:Int):cod (A z) (B z)=0↔A z=B z:=Gi (h.sa z) (h.sb z)
theorem Al.inj {z w:Int} (h0:cod (A z) (B z)≠0) (e:cod (A z) (B z)=cod (A w) (B w)):A z=A w∧B z=B w:=EM (h.sa z) (h.sb z) (h.sa w) (h.sb w) h0 e
theorem Al.lo:∃ lo,∀ z,z<lo→cod (A z) (B z)=0:=by
 have e0:∀ z,A z=none∧B z=none→cod (A z) (B z)=0:=fun z q=>by rw [q.1,q.2];rfl
 cases hx:xs[0]? with
 | none=>exact ⟨0,fun z _=>e0 z (h.emp (by simpa using hx) z)⟩
 | some x0=>exact ⟨x0,fun z hz=>e0 z (h.low x0 hx z hz)⟩
theorem Al.before {k:Nat} {x e:Int} (hx:xs[k]?=some x) (he:xs[k+1]?=some e):A (e-1)=A x∧B (e-1)=B x:=by
 obtain ⟨h1,h2⟩:=xF h.st hx he
 have:=h2 (e-1) (by omega) (by omega)
 injection this with q1 q2
 exact ⟨q1,q2⟩
end
end Go.SM
namespace Go.VI
theorem mG {S R:Type} (μ:S→Nat) (I:S→Prop) (Q:R→Prop) (body:S→Option (S ⊕ R))
  (step:∀ s,I s→(∃ s',body s=some (.inl s')∧I s'∧μ s'<μ s)∨(∃ r,body s=some (.inr r)∧Q r)):∀ s,I s→∃ r,aK body s=some r∧Q r:=by
 have key:∀ (n:Nat) s,μ s<n→I s→∃ r,aK body s=some r∧Q r:=by
  intro n
  induction n with
  | zero=>intro s h;exact absurd h (Nat.not_lt_zero _)
  | succ n ih =>
    intro s h hs
    rcases step s hs with ⟨s',e,hs',hm⟩ | ⟨r,e,hr⟩
    ·rw [gT e];exact ih s' (by omega) hs'
    ·exact ⟨r,eA e,hr⟩
 exact fun s hs=>key (μ s+1) s (Nat.lt_succ_self _) hs
section
variable {α:Type} (d:α)
def gz (l:List α) (i:Int):α:=l.getD i.toNat d
theorem iW {l:List α} {i:Int} (h:0≤i) (h2:i<l.length):idx l i=some (gz d l i):=by
 unfold idx gz
 rw [if_pos h,List.getD_eq_getElem?_getD,List.getElem?_eq_getElem (by omega)]
 rfl
theorem LL {l:List α} {i k:Int} (hi:0≤i) (hk:0≤k) (h:i<l.length) (v:α):gz d (l.set i.toNat v) k=if k=i then v else gz d l k:=by
 unfold gz
 rw [List.getD_eq_getElem?_getD,List.getD_eq_getElem?_getD,List.getElem?_set]
 by_cases e:k=i
 ·subst e
  rw [if_pos rfl,if_pos (by omega),if_pos rfl];rfl
 ·rw [if_neg (by omega),if_neg e]
def sw (l:List α) (i j:Int):List α:=(l.set i.toNat (gz d l j)).set j.toNat (gz d l i)
theorem Us (l:List α) (i j:Int):(sw d l i j).length=l.length:=by simp [sw]
theorem qK {l:List α} {i j k:Int} (hi:0≤i) (hj:0≤j) (hk:0≤k) (h1:i<l.length) (h2:j<l.length):gz d (sw d l i j) k=if k=j then gz d l i else if k=i then gz d l j else gz d l k:=by
 unfold sw
 rw [LL d hj hk (by rw [List.length_set];exact h2),LL d hi hk h1]
inductive On (a b:Int):List α→List α→Prop
 | refl (l:List α):On a b l l
 | step {l l':List α} (h:On a b l l') (i j:Int) (hi:a≤i) (hi':i<b) (hj:a≤j) (hj':j<b) (ha:0≤a) (hb:b≤l'.length):On a b l (sw d l' i j)
theorem On.len {a b:Int} {l l':List α} (h:On d a b l l'):l'.length=l.length:=by
 induction h with
 | refl=>rfl
 | step h i j _ _ _ _ _ _ ih=>rw [Us,ih]
theorem On.trans {a b:Int} {l l' l'':List α} (h:On d a b l l') (h':On d a b l' l''):On d a b l l'':=by
 induction h' with
 | refl=>exact h
 | step _ i j hi hi' hj hj' ha hb ih=>exact .step ih i j hi hi' hj hj' ha hb
theorem On.mono {a b a' b':Int} {l l':List α} (h:On d a b l l') (h0:0≤a') (h1:a'≤a) (h2:b≤b') (h3:b'≤l.length):On d a' b' l l':=by
 induction h with
 | refl=>exact .refl _
 | step h i j hi hi' hj hj' ha hb ih=>exact .step ih i j (by omega) (by omega) (by omega) (by omega) h0 (by rw [h.len];exact h3)
theorem On.out {a b:Int} {l l':List α} (h:On d a b l l') {k:Int} (hk:0≤k) (hk':k<a∨b≤k):gz d l' k=gz d l k:=by
 induction h with
 | refl=>rfl
 | step h i j hi hi' hj hj' ha hb ih =>
   rw [qK d (by omega) (by omega) hk (by omega) (by omega),if_neg (by omega),if_neg (by omega),ih]
theorem On.all {a b:Int} {l l':List α} (h:On d a b l l') (Q:α→Prop) (hq:∀ k,a≤k→k<b→Q (gz d l k)):∀ k,a≤k→k<b→Q (gz d l' k):=by
 induction h with
 | refl=>exact hq
 | step h i j hi hi' hj hj' ha hb ih =>
   intro k h1 h2
   rw [qK d (by omega) (by omega) (by omega) (by omega) (by omega)]
   split
   ·exact ih i hi hi'
   ·split
    ·exact ih j hj hj'
    ·exact ih k h1 h2
theorem QU {l:List α} {i j:Int} (hi:0≤i) (hj:0≤j) (h1:i<l.length) (h2:j<l.length):(sw d l i j).Perm l:=by
 unfold sw gz
 have e1:l.getD i.toNat d=l[i.toNat]'(by omega):=by rw [List.getD_eq_getElem?_getD,List.getElem?_eq_getElem (by omega)];rfl
 have e2:l.getD j.toNat d=l[j.toNat]'(by omega):=by rw [List.getD_eq_getElem?_getD,List.getElem?_eq_getElem (by omega)];rfl
 rw [e1,e2]
 exact List.set_set_perm (by omega) (by omega)
theorem On.perm {a b:Int} {l l':List α} (h:On d a b l l'):l'.Perm l:=by
 induction h with
 | refl=>exact .refl _
 | step h i j hi hi' hj hj' ha hb ih=>exact (QU d (by omega) (by omega) (by omega) (by omega)).trans ih
def Asc (lt:α→α→Bool) (a b:Int) (l:List α):Prop:=∀ i j,a≤i→i<j→j<b→lt (gz d l j) (gz d l i)=false
structure Qv (lt:α→α→Bool):Prop where
 asymm:∀ x y,lt x y=true→lt y x=false
 neg:∀ x y z,lt x z=true→lt x y=true∨lt y z=true
theorem Qv.le_trans {lt:α→α→Bool} (w:Qv lt) {x y z:α} (h1:lt y x=false) (h2:lt z y=false):lt z x=false:=by
 cases h:lt z x with
 | false=>rfl
 | true=>rcases w.neg z y x h with q | q <;> simp_all
theorem Qv.irrefl {lt:α→α→Bool} (w:Qv lt) (x:α):lt x x=false:=by
 cases h:lt x x with
 | false=>rfl
 | true=>have:=w.asymm x x h;simp_all
end
end Go.VI
namespace Go.SM
open Go Go.VI
abbrev Br (α:Type):Type 1:=∀ (β:Type),α→α→(Bool→Option β)→Option β
def brC {α:Type} (cmp:α→α→Option Int):Br α:=fun _ x y k=>(cmp x y).bind fun r=>k (decide (r<0))
def sR:(Int×Int)→Option (Int):=fun j3 =>
 (Kg (ByteArray.mk #[0,1,2,2,3,3,3,3,4,4,4,4,4,4,4,4,5,5,5,5,5,5,5,5,5,5,5,5,5,5,5,5,6,6,6,6,6,6,6,6,6,6,6,6,6,6,6,6,6,6,6,6,6,6,6,6,6,6,6,6,6,6,6,6,7,7,7,7,7,7,7,7,7,7,7,7,7,7,7,7,7,7,7,7,7,7,7,7,7,7,7,7,7,7,7,7,7,7,7,7,7,7,7,7,7,7,7,7,7,7,7,7,7,7,7,7,7,7,7,7,7,7,7,7,7,7,7,7,8,8,8,8,8,8,8,8,8,8,8,8,8,8,8,8,8,8,8,8,8,8,8,8,8,8,8,8,8,8,8,8,8,8,8,8,8,8,8,8,8,8,8,8,8,8,8,8,8,8,8,8,8,8,8,8,8,8,8,8,8,8,8,8,8,8,8,8,8,8,8,8,8,8,8,8,8,8,8,8,8,8,8,8,8,8,8,8,8,8,8,8,8,8,8,8,8,8,8,8,8,8,8,8,8,8,8,8,8,8,8,8,8,8,8,8,8,8,8,8,8,8,8,8,8,8,8,8]) (IntKind.wrap .u8 j3.1)).bind fun x5=>some (aL j3.2 (IntKind.wrap .i64 x5))
def vX:(Int×Int)→Option (Int):=fun j2 =>
 if (decide (j2.1 ≥ 256)) then (sR ((Int.fdiv j2.1 (2^(min (Int.toNat 8) 64))),(aL j2.2 8))) else (sR (j2.1,j2.2))
def yZ:(Int×Int)→Option (Int):=fun j1 =>
 if (decide (j1.1 ≥ 65536)) then (vX ((Int.fdiv j1.1 (2^(min (Int.toNat 16) 64))),(aL j1.2 16))) else (vX (j1.1,j1.2))
def Lm (x0:Int):Option (Int):=
 if (decide (x0 ≥ 4294967296)) then (yZ ((Int.fdiv x0 (2^(min (Int.toNat 32) 64))),32)) else (yZ (x0,0))
def Ew (x0:Int):Option (Int):=
 (Lm x0).bind fun r2=>some r2
def xU (length:Int):Option (Int):=
 (Ew (IntKind.wrap .u64 length)).bind fun r2=>if (decide (0≤r2)) then (some (IntKind.wrap .u64 (1*2^(min (Int.toNat r2) 64)))) else none
def Gy (h0_0:Int):Option (Int):=
 some (jP .u64 (jP .u64 (jP .u64 h0_0 (IntKind.wrap .u64 (h0_0*2^(min (Int.toNat 13) 64)))) (Int.fdiv (jP .u64 h0_0 (IntKind.wrap .u64 (h0_0*2^(min (Int.toNat 13) 64)))) (2^(min (Int.toNat 7) 64)))) (IntKind.wrap .u64 ((jP .u64 (jP .u64 h0_0 (IntKind.wrap .u64 (h0_0*2^(min (Int.toNat 13) 64)))) (Int.fdiv (jP .u64 h0_0 (IntKind.wrap .u64 (h0_0*2^(min (Int.toNat 13) 64)))) (2^(min (Int.toNat 7) 64))))*2^(min (Int.toNat 17) 64))))
def sL {α:Type} (br:Br α) (a:Int):Int×(List α)→Option (Int×(List α) ⊕ (List α)):=fun a0 =>
 (if (decide (a0.1>a)) then ((idx a0.2 a0.1).bind fun a4=>(idx a0.2 (aJ a0.1 1)).bind fun a5=>br _ a4 a5 fun a3=>some a3) else (some false)).bind fun a2=>if a2 then ((idx a0.2 (aJ a0.1 1)).bind fun a1=>(idx a0.2 a0.1).bind fun a6=>(idx a0.2 a0.1).bind fun a7=>(idx (List.set a0.2 (Int.toNat a0.1) a1) (aJ a0.1 1)).bind fun a8=>some (.inl ((aJ a0.1 1),(List.set (List.set a0.2 (Int.toNat a0.1) a1) (Int.toNat (aJ a0.1 1)) a6)))) else (some (.inr a0.2))
def wE {α:Type} (br:Br α) (a:Int) (b:Int):Int×(List α)→Option (Int×(List α) ⊕ (List α)):=fun a0 =>
 if (decide (a0.1<b)) then ((aK (sL br a) (a0.1,a0.2)).bind fun a1=>some (.inl ((aL a0.1 1),a1))) else (some (.inr a0.2))
def zI {α:Type} (br:Br α) (a:Int) (b:Int) (h0:(List α)):Option ((List α)):=
 (aK (wE br a b) ((aL a 1),h0)).bind fun a0=>some a0
def uX {α:Type} (br:Br α) (first:Int) (a0:Int×(List α)):Int→Option (Int×(List α) ⊕ ((List α) ⊕ (List α))):=fun a1 =>
 (idx a0.2 (aL first a0.1)).bind fun a4=>(idx a0.2 (aL first a1)).bind fun a5=>br _ a4 a5 fun a3=>if (!a3) then (some (.inr (.inr a0.2))) else ((idx a0.2 (aL first a1)).bind fun a2=>(idx a0.2 (aL first a0.1)).bind fun a6=>(idx a0.2 (aL first a0.1)).bind fun a7=>(idx (List.set a0.2 (Int.toNat (aL first a0.1)) a2) (aL first a1)).bind fun a8=>some (.inl (a1,(List.set (List.set a0.2 (Int.toNat (aL first a0.1)) a2) (Int.toNat (aL first a1)) a6))))
def Dc {α:Type} (br:Br α) (hi:Int) (first:Int):Int×(List α)→Option (Int×(List α) ⊕ ((List α) ⊕ (List α))):=fun a0 =>
 if (decide ((aL (lB 2 a0.1) 1) ≥ hi)) then (some (.inr (.inl a0.2))) else ((if (decide ((aL (aL (lB 2 a0.1) 1) 1)<hi)) then ((idx a0.2 (aL first (aL (lB 2 a0.1) 1))).bind fun a3=>(idx a0.2 (aL (aL first (aL (lB 2 a0.1) 1)) 1)).bind fun a4=>br _ a3 a4 fun a2=>some a2) else (some false)).bind fun a1=>if a1 then (uX br first a0 (aL (aL (lB 2 a0.1) 1) 1)) else (uX br first a0 (aL (lB 2 a0.1) 1)))
def Bf {α:Type} (br:Br α) (lo:Int) (hi:Int) (first:Int) (h0:(List α)):Option ((List α)):=
 (aK (Dc br hi first) (lo,h0)).bind fun a2=>match a2 with | .inl a0=>some a0 | .inr a1=>some a1
def Da {α:Type} (br:Br α) (a:Int) (b:Int):Int×(List α)→Option (Int×(List α) ⊕ (List α)):=fun a0 =>
 if (decide (a0.1 ≥ 0)) then ((Bf br a0.1 (aJ b a) a a0.2).bind fun a1=>some (.inl ((aJ a0.1 1),a1))) else (some (.inr a0.2))
def Db {α:Type} (br:Br α) (a:Int):Int×(List α)→Option (Int×(List α) ⊕ (List α)):=fun a0 =>
 if (decide (a0.1 ≥ 0)) then ((idx a0.2 (aL a a0.1)).bind fun a1=>(idx a0.2 a).bind fun a3=>(idx a0.2 a).bind fun a4=>(idx (List.set a0.2 (Int.toNat a) a1) (aL a a0.1)).bind fun a5=>(Bf br 0 a0.1 a (List.set (List.set a0.2 (Int.toNat a) a1) (Int.toNat (aL a a0.1)) a3)).bind fun a2=>some (.inl ((aJ a0.1 1),a2))) else (some (.inr a0.2))
def Jw {α:Type} (br:Br α) (a:Int) (b:Int) (h0:(List α)):Option ((List α)):=
 (aK (Da br a b) ((rO (aJ (aJ b a) 1) 2),h0)).bind fun a1=>(aK (Db br a) ((aJ (aJ b a) 1),a1)).bind fun a0=>some a0
def sK {α:Type} (br:Br α) (a:Int) (a0:Int×Int×(List α)):Int→Option (Int×Int×(List α) ⊕ (List α)):=fun a1 =>
 (idx a0.2.2 (aL a a1)).bind fun a2=>(idx a0.2.2 a0.1).bind fun a3=>(idx a0.2.2 a0.1).bind fun a4=>(idx (List.set a0.2.2 (Int.toNat a0.1) a2) (aL a a1)).bind fun a5=>some (.inl ((aL a0.1 1),(jP .u64 (jP .u64 (jP .u64 a0.2.1 (IntKind.wrap .u64 (a0.2.1*2^(min (Int.toNat 13) 64)))) (Int.fdiv (jP .u64 a0.2.1 (IntKind.wrap .u64 (a0.2.1*2^(min (Int.toNat 13) 64)))) (2^(min (Int.toNat 7) 64)))) (IntKind.wrap .u64 ((jP .u64 (jP .u64 a0.2.1 (IntKind.wrap .u64 (a0.2.1*2^(min (Int.toNat 13) 64)))) (Int.fdiv (jP .u64 a0.2.1 (IntKind.wrap .u64 (a0.2.1*2^(min (Int.toNat 13) 64)))) (2^(min (Int.toNat 7) 64))))*2^(min (Int.toNat 17) 64)))),(List.set (List.set a0.2.2 (Int.toNat a0.1) a2) (Int.toNat (aL a a1)) a3)))
def wD {α:Type} (br:Br α) (a:Int) (b:Int) (r2:Int):Int×Int×(List α)→Option (Int×Int×(List α) ⊕ (List α)):=fun a0 =>
 if (decide (a0.1≤(aL (aL a (lB (rO (aJ b a) 4) 2)) 1))) then ((Gy a0.2.1).bind fun a1=>if (decide ((IntKind.wrap .i64 (Nv .u64 a1 (IntKind.wrap .u64 (r2-1)))) ≥ (aJ b a))) then (sK br a a0 (aJ (IntKind.wrap .i64 (Nv .u64 a1 (IntKind.wrap .u64 (r2-1)))) (aJ b a))) else (sK br a a0 (IntKind.wrap .i64 (Nv .u64 a1 (IntKind.wrap .u64 (r2-1)))))) else (some (.inr a0.2.2))
def zE {α:Type} (br:Br α) (a:Int) (b:Int) (h0:(List α)):Option ((List α)):=
 if (decide ((aJ b a) ≥ 8)) then ((xU (aJ b a)).bind fun r2=>(aK (wD br a b r2) ((aJ (aL a (lB (rO (aJ b a) 4) 2)) 1),(IntKind.wrap .u64 (aJ b a)),h0)).bind fun a0=>some a0) else (some h0)
def Gx {α:Type} (br:Br α) (data:(List α)) (a:Int) (b:Int) (h0_0:Int):Option (Int×Int×Int):=
 (idx data b).bind fun a1=>(idx data a).bind fun a2=>br _ a1 a2 fun a0=>if a0 then (some (b,a,(aL h0_0 1))) else (some (a,b,h0_0))
def Kq {α:Type} (br:Br α) (data:(List α)) (a:Int) (b:Int) (c:Int) (h0_0:Int):Option (Int×Int):=
 (Gx br data a b h0_0).bind fun r2=>(Gx br data r2.2.1 c r2.2.2).bind fun r4=>(Gx br data r2.1 r4.1 r4.2.2).bind fun r6=>some (r6.2.1,r6.2.2)
def qE {α:Type} (br:Br α) (data:(List α)) (a:Int) (h0_0:Int):Option (Int×Int):=
 (Kq br data (aJ a 1) a (aL a 1) h0_0).bind fun r2=>some (r2.1,r2.2)
def uC {α:Type} (br:Br α):(Int×Int)→Option (Int×Int):=fun a0 =>
 if (a0.2==0) then (some (a0.1,1)) else (if (a0.2==12) then (some (a0.1,2)) else (some (a0.1,0)))
def uD {α:Type} (br:Br α) (data:(List α)):(Int×Int×Int×Int)→Option (Int×Int):=fun a0 =>
 (Kq br data a0.1 a0.2.1 a0.2.2.1 a0.2.2.2).bind fun a1=>uC br (a1.1,a1.2)
def Cz {α:Type} (br:Br α) (data:(List α)) (a:Int) (b:Int):Option (Int×Int):=
 if (decide ((aJ b a) ≥ 8)) then (if (decide ((aJ b a) ≥ 50)) then ((qE br data (aL a (lB (rO (aJ b a) 4) 1)) 0).bind fun a0=>(qE br data (aL a (lB (rO (aJ b a) 4) 2)) a0.2).bind fun a1=>(qE br data (aL a (lB (rO (aJ b a) 4) 3)) a1.2).bind fun a2=>uD br data (a0.1,a1.1,a2.1,a2.2)) else (uD br data ((aL a (lB (rO (aJ b a) 4) 1)),(aL a (lB (rO (aJ b a) 4) 2)),(aL a (lB (rO (aJ b a) 4) 3)),0))) else (uC br ((aL a (lB (rO (aJ b a) 4) 2)),0))
def xE {α:Type} (br:Br α):Int×Int×(List α)→Option (Int×Int×(List α) ⊕ (List α)):=fun a0 =>
 if (decide (a0.1<a0.2.1)) then ((idx a0.2.2 a0.2.1).bind fun a1=>(idx a0.2.2 a0.1).bind fun a2=>(idx a0.2.2 a0.1).bind fun a3=>(idx (List.set a0.2.2 (Int.toNat a0.1) a1) a0.2.1).bind fun a4=>some (.inl ((aL a0.1 1),(aJ a0.2.1 1),(List.set (List.set a0.2.2 (Int.toNat a0.1) a1) (Int.toNat a0.2.1) a2)))) else (some (.inr a0.2.2))
def Bm {α:Type} (br:Br α) (a:Int) (b:Int) (h0:(List α)):Option ((List α)):=
 (aK (xE br) (a,(aJ b 1),h0)).bind fun a0=>some a0
def oY {α:Type} (br:Br α) (a1:Int×Int×(List α)):Int×(List α)→Option (Int×Int×(List α) ⊕ (Bool×(List α) ⊕ (List α))):=fun a0 =>
 some (.inl (a0.1,(aL a1.2.1 1),a0.2))
def kL {α:Type} (br:Br α) (b:Int) (a1:Int×Int×(List α)):Int→Option (Int ⊕ Int):=fun a0 =>
 (if (decide (a0<b)) then ((idx a1.2.2 a0).bind fun a4=>(idx a1.2.2 (aJ a0 1)).bind fun a5=>br _ a4 a5 fun a3=>some (!a3)) else (some false)).bind fun a2=>if a2 then (some (.inl (aL a0 1))) else (some (.inr a0))
def kM {α:Type} (br:Br α) (b:Int):Int×(List α)→Option (Int×(List α) ⊕ (List α)):=fun a0 =>
 if (decide (a0.1<b)) then ((idx a0.2 a0.1).bind fun a3=>(idx a0.2 (aJ a0.1 1)).bind fun a4=>br _ a3 a4 fun a2=>if (!a2) then (some (.inr a0.2)) else ((idx a0.2 (aJ a0.1 1)).bind fun a1=>(idx a0.2 a0.1).bind fun a5=>(idx a0.2 a0.1).bind fun a6=>(idx (List.set a0.2 (Int.toNat a0.1) a1) (aJ a0.1 1)).bind fun a7=>some (.inl ((aL a0.1 1),(List.set (List.set a0.2 (Int.toNat a0.1) a1) (Int.toNat (aJ a0.1 1)) a5))))) else (some (.inr a0.2))
def kK {α:Type} (br:Br α) (b:Int) (a2:Int×Int×(List α)) (a0:Int):(List α)→Option (Int×Int×(List α) ⊕ (Bool×(List α) ⊕ (List α))):=fun a1 =>
 if (decide ((aJ b a0) ≥ 2)) then ((aK (kM br b) ((aL a0 1),a1)).bind fun a3=>oY br a2 (a0,a3)) else (oY br a2 (a0,a1))
def kO {α:Type} (br:Br α):Int×(List α)→Option (Int×(List α) ⊕ (List α)):=fun a0 =>
 if (decide (a0.1 ≥ 1)) then ((idx a0.2 a0.1).bind fun a3=>(idx a0.2 (aJ a0.1 1)).bind fun a4=>br _ a3 a4 fun a2=>if (!a2) then (some (.inr a0.2)) else ((idx a0.2 (aJ a0.1 1)).bind fun a1=>(idx a0.2 a0.1).bind fun a5=>(idx a0.2 a0.1).bind fun a6=>(idx (List.set a0.2 (Int.toNat a0.1) a1) (aJ a0.1 1)).bind fun a7=>some (.inl ((aJ a0.1 1),(List.set (List.set a0.2 (Int.toNat a0.1) a1) (Int.toNat (aJ a0.1 1)) a5))))) else (some (.inr a0.2))
def oZ {α:Type} (br:Br α) (a:Int) (b:Int):Int×Int×(List α)→Option (Int×Int×(List α) ⊕ (Bool×(List α) ⊕ (List α))):=fun a0 =>
 if (decide (a0.2.1<5)) then ((aK (kL br b a0) a0.1).bind fun a1=>if (a1==b) then (some (.inr (.inl (true,a0.2.2)))) else (if (decide ((aJ b a)<50)) then (some (.inr (.inl (false,a0.2.2)))) else ((idx a0.2.2 (aJ a1 1)).bind fun a2=>(idx a0.2.2 a1).bind fun a3=>(idx a0.2.2 a1).bind fun a5=>(idx (List.set a0.2.2 (Int.toNat a1) a2) (aJ a1 1)).bind fun a6=>if (decide ((aJ a1 a) ≥ 2)) then ((aK (kO br) ((aJ a1 1),(List.set (List.set a0.2.2 (Int.toNat a1) a2) (Int.toNat (aJ a1 1)) a3))).bind fun a4=>kK br b a0 a1 a4) else (kK br b a0 a1 (List.set (List.set a0.2.2 (Int.toNat a1) a2) (Int.toNat (aJ a1 1)) a3))))) else (some (.inr (.inr a0.2.2)))
def sS {α:Type} (br:Br α) (a:Int) (b:Int) (h0:(List α)):Option (Bool×(List α)):=
 (aK (oZ br a b) ((aL a 1),0,h0)).bind fun a2=>match a2 with | .inl a0=>some (a0.1,a0.2) | .inr a1=>some (false,a1)
def qF {α:Type} (br:Br α) (a:Int) (a1:Int×Int×(List α)):Int→Option (Int ⊕ Int):=fun a0 =>
 (if (decide (a0≤a1.2.1)) then ((idx a1.2.2 a).bind fun a4=>(idx a1.2.2 a0).bind fun a5=>br _ a4 a5 fun a3=>some (!a3)) else (some false)).bind fun a2=>if a2 then (some (.inl (aL a0 1))) else (some (.inr a0))
def qG {α:Type} (br:Br α) (a:Int) (a1:Int×Int×(List α)) (a4:Int):Int→Option (Int ⊕ Int):=fun a0 =>
 (if (decide (a4≤a0)) then ((idx a1.2.2 a).bind fun a5=>(idx a1.2.2 a0).bind fun a6=>br _ a5 a6 fun a3=>some a3) else (some false)).bind fun a2=>if a2 then (some (.inl (aJ a0 1))) else (some (.inr a0))
def uW {α:Type} (br:Br α) (a:Int):Int×Int×(List α)→Option (Int×Int×(List α) ⊕ Int×(List α)):=fun a0 =>
 (aK (qF br a a0) a0.1).bind fun a1=>(aK (qG br a a0 a1) a0.2.1).bind fun a2=>if (decide (a1>a2)) then (some (.inr (a1,a0.2.2))) else ((idx a0.2.2 a2).bind fun a3=>(idx a0.2.2 a1).bind fun a4=>(idx a0.2.2 a1).bind fun a5=>(idx (List.set a0.2.2 (Int.toNat a1) a3) a2).bind fun a6=>some (.inl ((aL a1 1),(aJ a2 1),(List.set (List.set a0.2.2 (Int.toNat a1) a3) (Int.toNat a2) a4))))
def xV {α:Type} (br:Br α) (a:Int) (b:Int) (pivot:Int) (h0:(List α)):Option (Int×(List α)):=
 (idx h0 pivot).bind fun x9=>(idx h0 a).bind fun a1=>(idx h0 a).bind fun a2=>(idx (List.set h0 (Int.toNat a) x9) pivot).bind fun a3=>(aK (uW br a) ((aL a 1),(aJ b 1),(List.set (List.set h0 (Int.toNat a) x9) (Int.toNat pivot) a1))).bind fun a0=>some (a0.1,a0.2)
def wX {α:Type} (br:Br α) (a:Int) (b:Int) (pivot:Int) (h0:(List α)) (x9:α) (a5:α):Int→Option (Int ⊕ Int):=fun a0 =>
 (if (decide (a0≤(aJ b 1))) then ((idx (List.set (List.set h0 (Int.toNat a) x9) (Int.toNat pivot) a5) a0).bind fun a3=>(idx (List.set (List.set h0 (Int.toNat a) x9) (Int.toNat pivot) a5) a).bind fun a4=>br _ a3 a4 fun a2=>some a2) else (some false)).bind fun a1=>if a1 then (some (.inl (aL a0 1))) else (some (.inr a0))
def wY {α:Type} (br:Br α) (a:Int) (pivot:Int) (h0:(List α)) (x9:α) (a6:α) (a3:Int):Int→Option (Int ⊕ Int):=fun a0 =>
 (if (decide (a3≤a0)) then ((idx (List.set (List.set h0 (Int.toNat a) x9) (Int.toNat pivot) a6) a0).bind fun a4=>(idx (List.set (List.set h0 (Int.toNat a) x9) (Int.toNat pivot) a6) a).bind fun a5=>br _ a4 a5 fun a2=>some (!a2)) else (some false)).bind fun a1=>if a1 then (some (.inl (aJ a0 1))) else (some (.inr a0))
def wZ {α:Type} (br:Br α) (a:Int) (a1:Int×Int×(List α)):Int→Option (Int ⊕ Int):=fun a0 =>
 (if (decide (a0≤a1.2.1)) then ((idx a1.2.2 a0).bind fun a4=>(idx a1.2.2 a).bind fun a5=>br _ a4 a5 fun a3=>some a3) else (some false)).bind fun a2=>if a2 then (some (.inl (aL a0 1))) else (some (.inr a0))
def xA {α:Type} (br:Br α) (a:Int) (a1:Int×Int×(List α)) (a4:Int):Int→Option (Int ⊕ Int):=fun a0 =>
 (if (decide (a4≤a0)) then ((idx a1.2.2 a0).bind fun a5=>(idx a1.2.2 a).bind fun a6=>br _ a5 a6 fun a3=>some (!a3)) else (some false)).bind fun a2=>if a2 then (some (.inl (aJ a0 1))) else (some (.inr a0))
def xB {α:Type} (br:Br α) (a:Int):Int×Int×(List α)→Option (Int×Int×(List α) ⊕ Int×(List α)):=fun a0 =>
 (aK (wZ br a a0) a0.1).bind fun a1=>(aK (xA br a a0 a1) a0.2.1).bind fun a2=>if (decide (a1>a2)) then (some (.inr (a2,a0.2.2))) else ((idx a0.2.2 a2).bind fun a3=>(idx a0.2.2 a1).bind fun a4=>(idx a0.2.2 a1).bind fun a5=>(idx (List.set a0.2.2 (Int.toNat a1) a3) a2).bind fun a6=>some (.inl ((aL a1 1),(aJ a2 1),(List.set (List.set a0.2.2 (Int.toNat a1) a3) (Int.toNat a2) a4))))
def Bz {α:Type} (br:Br α) (a:Int) (b:Int) (pivot:Int) (h0:(List α)):Option (Int×Bool×(List α)):=
 (idx h0 pivot).bind fun x9=>(idx h0 a).bind fun a3=>(idx h0 a).bind fun b6=>(idx (List.set h0 (Int.toNat a) x9) pivot).bind fun b7=>(aK (wX br a b pivot h0 x9 a3) (aL a 1)).bind fun a2=>(aK (wY br a pivot h0 x9 a3 a2) (aJ b 1)).bind fun a1=>if (decide (a2>a1)) then ((idx (List.set (List.set h0 (Int.toNat a) x9) (Int.toNat pivot) a3) a).bind fun a6=>(idx (List.set (List.set h0 (Int.toNat a) x9) (Int.toNat pivot) a3) a1).bind fun a8=>(idx (List.set (List.set h0 (Int.toNat a) x9) (Int.toNat pivot) a3) a1).bind fun b2=>(idx (List.set (List.set (List.set h0 (Int.toNat a) x9) (Int.toNat pivot) a3) (Int.toNat a1) a6) a).bind fun b3=>some (a1,true,(List.set (List.set (List.set (List.set h0 (Int.toNat a) x9) (Int.toNat pivot) a3) (Int.toNat a1) a6) (Int.toNat a) a8))) else ((idx (List.set (List.set h0 (Int.toNat a) x9) (Int.toNat pivot) a3) a1).bind fun a7=>(idx (List.set (List.set h0 (Int.toNat a) x9) (Int.toNat pivot) a3) a2).bind fun a9=>(idx (List.set (List.set h0 (Int.toNat a) x9) (Int.toNat pivot) a3) a2).bind fun b4=>(idx (List.set (List.set (List.set h0 (Int.toNat a) x9) (Int.toNat pivot) a3) (Int.toNat a2) a7) a1).bind fun b5=>(aK (xB br a) ((aL a2 1),(aJ a1 1),(List.set (List.set (List.set (List.set h0 (Int.toNat a) x9) (Int.toNat pivot) a3) (Int.toNat a2) a7) (Int.toNat a1) a9))).bind fun a0=>(idx a0.2 a).bind fun a4=>(idx a0.2 a0.1).bind fun a5=>(idx a0.2 a0.1).bind fun b0=>(idx (List.set a0.2 (Int.toNat a0.1) a4) a).bind fun b1=>some (a0.1,false,(List.set (List.set a0.2 (Int.toNat a0.1) a4) (Int.toNat a) a5)))
def wH {α:Type} (br:Br α) (self:Int→Int→Int→(List α)→Option ((List α))) (a1:Int×Int×Int×Bool×Bool×(List α)) (a3:Int×(List α)) (a4:Int×Int×(List α)):Bool×Bool×(List α)→Option (Int×Int×Int×Bool×Bool×(List α) ⊕ (List α)):=fun a2 =>
 (if (decide (a1.1>0)) then ((idx a2.2.2 (aJ a1.1 1)).bind fun b0=>(idx a2.2.2 a4.1).bind fun b1=>br _ b0 b1 fun a7=>some (!a7)) else (some false)).bind fun a6=>if a6 then ((xV br a1.1 a1.2.1 a4.1 a2.2.2).bind fun a5=>some (.inl (a5.1,a1.2.1,a3.1,a2.1,a2.2.1,a5.2))) else ((Bz br a1.1 a1.2.1 a4.1 a2.2.2).bind fun a0=>if (decide ((aJ a0.1 a1.1)<(aJ a1.2.1 a0.1))) then ((self a1.1 a0.1 a3.1 a0.2.2).bind fun a8=>some (.inl ((aL a0.1 1),a1.2.1,a3.1,(decide ((aJ a0.1 a1.1) ≥ (rO (aJ a1.2.1 a1.1) 8))),a0.2.1,a8))) else ((self (aL a0.1 1) a1.2.1 a3.1 a0.2.2).bind fun a9=>some (.inl (a1.1,a0.1,a3.1,(decide ((aJ a1.2.1 a0.1) ≥ (rO (aJ a1.2.1 a1.1) 8))),a0.2.1,a9))))
def wJ {α:Type} (br:Br α) (self:Int→Int→Int→(List α)→Option ((List α))) (a3:Int×Int×Int×Bool×Bool×(List α)) (a4:Int×(List α)):Int×Int×(List α)→Option (Int×Int×Int×Bool×Bool×(List α) ⊕ (List α)):=fun a0 =>
 (if a3.2.2.2.1 then (if a3.2.2.2.2.1 then (some (true,true,(a0.2.1==1))) else (some (true,false,false))) else (some (false,a3.2.2.2.2.1,false))).bind fun a1=>if a1.2.2 then ((sS br a3.1 a3.2.1 a0.2.2).bind fun a2=>if a2.1 then (some (.inr a2.2)) else (wH br self a3 a4 a0 (a1.1,a1.2.1,a2.2))) else (wH br self a3 a4 a0 (a1.1,a1.2.1,a0.2.2))
def wK {α:Type} (br:Br α) (self:Int→Int→Int→(List α)→Option ((List α))) (a2:Int×Int×Int×Bool×Bool×(List α)):Int×(List α)→Option (Int×Int×Int×Bool×Bool×(List α) ⊕ (List α)):=fun a0 =>
 (Cz br a0.2 a2.1 a2.2.1).bind fun a1=>if (a1.2==2) then ((Bm br a2.1 a2.2.1 a0.2).bind fun a3=>wJ br self a2 a0 ((aJ (aJ a2.2.1 1) (aJ a1.1 a2.1)),1,a3)) else (wJ br self a2 a0 (a1.1,a1.2,a0.2))
def Ap {α:Type} (br:Br α) (self:Int→Int→Int→(List α)→Option ((List α))):Int×Int×Int×Bool×Bool×(List α)→Option (Int×Int×Int×Bool×Bool×(List α) ⊕ (List α)):=fun a0 =>
 if (decide ((aJ a0.2.1 a0.1)≤12)) then ((zI br a0.1 a0.2.1 a0.2.2.2.2.2).bind fun a1=>some (.inr a1)) else (if (a0.2.2.1==0) then ((Jw br a0.1 a0.2.1 a0.2.2.2.2.2).bind fun a2=>some (.inr a2)) else (if (!a0.2.2.2.1) then ((zE br a0.1 a0.2.1 a0.2.2.2.2.2).bind fun a3=>wK br self a0 ((aJ a0.2.2.1 1),a3)) else (wK br self a0 (a0.2.2.1,a0.2.2.2.2.2))))
def tT {α:Type} (br:Br α) (self:Int→Int→Int→(List α)→Option ((List α))) (a:Int) (b:Int) (limit:Int) (h0:(List α)):Option ((List α)):=
 (aK (Ap br self) (a,b,limit,true,true,h0)).bind fun a0=>some a0
def qJ {α:Type} (br:Br α):Nat→Int→Int→Int→(List α)→Option ((List α))
 | 0=>fun _ _ _ _=>none
 | n+1=>tT br (qJ br n)
def Tg {α:Type} (br:Br α) (a:Int) (b:Int) (limit:Int) (h0:(List α)):Option ((List α)):=qJ br 1000 a b limit h0
def Jv {α:Type} (br:Br α) (h0:(List α)):Option ((List α)):=
 (Ew (IntKind.wrap .u64 (h0.length:Int))).bind fun r3=>(Tg br 0 (h0.length:Int) r3 h0).bind fun r4=>some r4
structure Fb {α:Type} (P:α→Prop) (d:α) (l:List α):Prop where
 len:(l.length:Int)≤1073741824
 all:∀ k:Int,0≤k→k<l.length→P (gz d l k)
theorem Fb.on {α:Type} {P:α→Prop} {d:α} {a b:Int} {l l':List α} (h:Fb P d l) (ho:On d a b l l'):Fb P d l':=by
 induction ho with
 | refl=>exact h
 | step ho i j hi hi' hj hj' ha hb ih =>
   refine ⟨by rw [Us];exact ih.len,fun k h1 h2=>?_⟩
   rw [Us] at h2
   rw [qK d (by omega) (by omega) h1 (by omega) (by omega)]
   split
   ·exact ih.all _ (by omega) (by omega)
   ·split
    ·exact ih.all _ (by omega) (by omega)
    ·exact ih.all _ h1 h2
section
variable {α:Type} {br:Br α} {lt:α→α→Bool} {P:α→Prop} {d:α} (hbr:∀ (β:Type) (x y:α) (k:Bool→Option β),P x→P y→br β x y k=k (lt x y)) (w:Qv lt)
include hbr w
theorem HM {a i:Int} {l0:List α} (ha:0≤a) (hi:a<i) (hil:i<l0.length) (hf0:Fb P d l0) (h0:Asc d lt a i l0) :
  ∃ l',aK (sL br a) (i,l0)=some l'∧On d a (i+1) l0 l'∧Asc d lt a (i+1) l':=by
 refine mG (fun s=>(s.1-a).toNat) (fun s=>a≤s.1∧s.1≤i∧On d a (i+1) l0 s.2∧∀ p q:Int,a≤p→p<q→q≤i→q≠s.1→lt (gz d s.2 q) (gz d s.2 p)=false)
  (fun l'=>On d a (i+1) l0 l'∧Asc d lt a (i+1) l') (sL br a) ?_ (i,l0) ⟨by omega,Int.le_refl _,.refl _,fun p q h1 h2 h3 h4=>h0 p q h1 h2 (by simp only at h4;omega)⟩
 rintro ⟨j,l⟩ ⟨h1,h2,hon,hI⟩
 simp only at h1 h2 hon hI ⊢
 have hf:=hf0.on hon
 have hl:=hon.len
 have hL:=hf.len
 unfold sL
 by_cases hja:j>a
 ·cases hc:lt (gz d l j) (gz d l (j-1)) with
  | true =>
    left
    refine ⟨(j-1,sw d l j (j-1)), ?_,⟨by simp only;omega,by simp only;omega,.step hon j (j-1) (by omega) (by omega) (by omega) (by omega) ha (by omega), ?_⟩,by simp only;omega⟩
    ·simp (disch:=first | omega | (simp only [List.length_set];omega) | (refine hf.all _ ?_ ?_ <;> omega)) only [hja,decide_true,if_true,bK,iW d,Option.bind_some,hbr,hc]
     rfl
    ·simp only
     intro p q p1 p2 p3 p4
     rw [qK d (by omega) (by omega) (by omega) (by omega) (by omega),qK d (by omega) (by omega) (by omega) (by omega) (by omega)]
     rw [if_neg p4]
     by_cases e1:q=j
     ·rw [if_pos e1]
      by_cases e2:p=j-1
      ·rw [if_pos e2];exact w.asymm _ _ hc
      ·rw [if_neg e2,if_neg (by omega)]
       exact hI p (j-1) (by omega) (by omega) (by omega) (by omega)
     ·rw [if_neg e1]
      by_cases e2:p=j-1
      ·rw [if_pos e2];exact hI j q (by omega) (by omega) p3 e1
      ·rw [if_neg e2]
       by_cases e3:p=j
       ·rw [if_pos e3];exact hI (j-1) q (by omega) (by omega) p3 e1
       ·rw [if_neg e3];exact hI p q p1 p2 p3 e1
  | false =>
    right
    refine ⟨l, ?_,hon, ?_⟩
    ·simp (disch:=first | omega | (simp only [List.length_set];omega) | (refine hf.all _ ?_ ?_ <;> omega)) only [hja,decide_true,if_true,bK,iW d,Option.bind_some,hbr,hc,Bool.false_eq_true,if_false]
    ·intro p q p1 p2 p3
     by_cases e1:q=j
     ·subst e1
      by_cases e2:p=q-1
      ·subst e2;exact hc
      ·exact w.le_trans (hI p (q-1) p1 (by omega) (by omega) (by omega)) hc
     ·exact hI p q p1 p2 (by omega) e1
 ·right
  refine ⟨l, ?_,hon, ?_⟩
  ·simp only [hja,decide_false,Bool.false_eq_true,if_false,Option.bind_some]
  ·intro p q p1 p2 p3
   exact hI p q p1 p2 (by omega) (by omega)
theorem Ph {a b:Int} {l0:List α} (ha:0≤a) (hab:a≤b) (hb:b≤l0.length) (hf0:Fb P d l0) :
  ∃ l',zI br a b l0=some l'∧On d a b l0 l'∧Asc d lt a b l':=by
 have hL:=hf0.len
 obtain ⟨l',h1,h2,h3⟩:=mG (fun s=>(b-s.1).toNat) (fun s=>a<s.1∧On d a b l0 s.2∧Asc d lt a (min s.1 b) s.2)
  (fun l'=>On d a b l0 l'∧Asc d lt a b l') (wE br a b) (by
   rintro ⟨i,l⟩ ⟨h1,hon,hI⟩
   simp only at h1 hon hI ⊢
   have hf:=hf0.on hon
   have hl:=hon.len
   unfold wE
   by_cases hib:i<b
   ·left
    obtain ⟨l',q1,q2,q3⟩:=HM hbr w ha h1 (by omega) hf (by rwa [Int.min_eq_left (by omega)] at hI)
    refine ⟨(i+1,l'), ?_,⟨by simp only;omega,hon.trans d (q2.mono d ha (Int.le_refl _) (by omega) (by omega)), ?_⟩,by simp only;omega⟩
    ·simp (disch:=omega) only [hib,decide_true,if_true,q1,Option.bind_some,aY]
    ·simp only
     rw [Int.min_eq_left (by omega)];exact q3
   ·right
    refine ⟨l, ?_,hon, ?_⟩
    ·simp only [hib,decide_false,Bool.false_eq_true,if_false]
    ·rwa [Int.min_eq_right (by omega)] at hI) (a+1,l0) ⟨by simp only;omega,.refl _,fun p q p1 p2 p3=>by simp only at p3;omega⟩
 refine ⟨l', ?_,h2,h3⟩
 unfold zI
 simp (disch:=omega) only [aY,h1,Option.bind_some]
end
def Lh {α:Type} (d:α) (lt:α→α→Bool) (first lo hi:Int) (r:Int) (l:List α):Prop:=∀ p c:Int,lo≤p→p≠r→c<hi→(c=2*p+1∨c=2*p+2)→lt (gz d l (first+p)) (gz d l (first+c))=false
section
variable {α:Type} {br:Br α} {lt:α→α→Bool} {P:α→Prop} {d:α} (hbr:∀ (β:Type) (x y:α) (k:Bool→Option β),P x→P y→br β x y k=k (lt x y)) (w:Qv lt)
include w
theorem LQ {first hi:Int} {l:List α} (h:Lh d lt first 0 hi (-1) l):∀ n:Nat,∀ c:Int,0≤c→c≤n→c<hi→lt (gz d l first) (gz d l (first+c))=false:=by
 intro n
 induction n with
 | zero => intro c h1 h2 h3;obtain rfl:c = 0 := by omega
           rw [Int.add_zero];exact w.irrefl _
 | succ n ih =>
   intro c h1 h2 h3
   by_cases e:c=0
   ·subst e;rw [Int.add_zero];exact w.irrefl _
   ·have e1:=ih ((c-1) / 2) (by omega) (by omega) (by omega)
    have e2:=h ((c-1) / 2) c (by omega) (by omega) h3 (by omega)
    exact w.le_trans e2 e1
include hbr
theorem Qo {first lo hi:Int} {l0:List α} (h1:0≤first) (h2:0≤lo) (h3:first+hi≤l0.length) (hf0:Fb P d l0) (h0:Lh d lt first lo hi lo l0) (hlo:lo≤l0.length) :
  ∃ l',Bf br lo hi first l0=some l'∧On d (first+lo) (first+hi) l0 l'∧Lh d lt first lo hi (-1) l':=by
 have hL:=hf0.len
 obtain ⟨r,q1,q2⟩:=mG (fun s:Int×List α=>(hi-s.1).toNat)
  (fun s:Int×List α=>lo≤s.1∧s.1≤(l0.length:Int)∧On d (first+lo) (first+hi) l0 s.2∧Lh d lt first lo hi s.1 s.2∧∀ p c:Int,lo≤p→(s.1=2*p+1∨s.1=2*p+2)→(c=2*s.1+1∨c=2*s.1+2)→c<hi→lt (gz d s.2 (first+p)) (gz d s.2 (first+c))=false)
  (fun r:List α ⊕ List α=>∃ l',(r=.inl l'∨r=.inr l')∧On d (first+lo) (first+hi) l0 l'∧Lh d lt first lo hi (-1) l') (Dc br hi first) (by
   rintro ⟨r,l⟩ ⟨i1,i2,hon,hI,hG⟩
   simp only at i1 i2 hon hI hG ⊢
   have hf:=hf0.on hon
   have hl:=hon.len
   unfold Dc
   have e1:aL (lB 2 r) 1=2*r+1:=by rw [Kt (by omega) (by omega),aY (by omega) (by omega)]
   simp only [e1]
   by_cases hc:2*r+1 ≥ hi
   ·right
    refine ⟨.inl l,by simp only [hc,decide_true,if_true],l,.inl rfl,hon,fun p c p1 p2 p3 p4=>?_⟩
    by_cases e:p=r
    ·omega
    ·exact hI p c p1 e p3 p4
   ·-- the greater child
    have key:∀ ch:Int,(ch=2*r+1∨ch=2*r+2)→ch<hi→(∀ c:Int,(c=2*r+1∨c=2*r+2)→c<hi→lt (gz d l (first+ch)) (gz d l (first+c))=false) →
      (∃ s',uX br first (r,l) ch=some (.inl s')∧(lo≤s'.1∧s'.1≤l0.length∧On d (first+lo) (first+hi) l0 s'.2∧Lh d lt first lo hi s'.1 s'.2∧∀ p c:Int,lo≤p→(s'.1=2*p+1∨s'.1=2*p+2)→(c=2*s'.1+1∨c=2*s'.1+2)→c<hi→lt (gz d s'.2 (first+p)) (gz d s'.2 (first+c))=false)∧(hi-s'.1).toNat<(hi-r).toNat) ∨
      (∃ x,uX br first (r,l) ch=some (.inr x)∧∃ l',(x=.inl l'∨x=.inr l')∧On d (first+lo) (first+hi) l0 l'∧Lh d lt first lo hi (-1) l'):=by
     intro ch c1 c2 c3
     have a1:aL first r=first+r:=aY (by omega) (by omega)
     have a2:aL first ch=first+ch:=aY (by omega) (by omega)
     unfold uX
     cases hlt:lt (gz d l (first+r)) (gz d l (first+ch)) with
     | false =>
       right
       refine ⟨.inr l, ?_,l,.inr rfl,hon,fun p c p1 p2 p3 p4=>?_⟩
       ·simp (disch:=first | omega | (simp only [List.length_set];omega) | (refine hf.all _ ?_ ?_ <;> omega)) only [a1,a2,iW d,Option.bind_some,hbr,hlt,Bool.not_false,if_true]
       ·by_cases e:p=r
        ·subst e;exact w.le_trans (c3 c p4 p3) hlt
        ·exact hI p c p1 e p3 p4
     | true =>
       left
       refine ⟨(ch,sw d l (first+r) (first+ch)), ?_,⟨by simp only;omega,by simp only;omega,.step hon _ _ (by omega) (by omega) (by omega) (by omega) (by omega) (by omega), ?_, ?_⟩,by simp only;omega⟩
       ·simp (disch:=first | omega | (simp only [List.length_set];omega) | (refine hf.all _ ?_ ?_ <;> omega)) only [a1,a2,iW d,Option.bind_some,hbr,hlt,Bool.not_true,Bool.false_eq_true,if_false]
        rfl
       ·intro p c p1 p2 p3 p4
        simp only at p2 ⊢
        rw [qK d (by omega) (by omega) (by omega) (by omega) (by omega),qK d (by omega) (by omega) (by omega) (by omega) (by omega)]
        by_cases e1:p=r
        ·rw [if_neg (by omega),if_pos (by omega)]
         by_cases e2:c=ch
         ·rw [if_pos (by omega)];exact w.asymm _ _ hlt
         ·rw [if_neg (by omega),if_neg (by omega)];exact c3 c (by omega) p3
        ·rw [if_neg (by omega),if_neg (by omega)]
         by_cases e2:c=r
         ·rw [if_neg (by omega),if_pos (by omega)];exact hG p ch p1 (by omega) c1 c2
         ·rw [if_neg (by omega),if_neg (by omega)];exact hI p c p1 e1 p3 p4
       ·intro p c p1 p2 p3 p4
        simp only at p2 p3
        simp only
        obtain rfl:p=r:=by omega
        rw [qK d (by omega) (by omega) (by omega) (by omega) (by omega),qK d (by omega) (by omega) (by omega) (by omega) (by omega)]
        rw [if_neg (by omega),if_pos rfl,if_neg (by omega),if_neg (by omega)]
        exact hI ch c (by omega) (by omega) p4 p3
    have b1:aL first (2*r+1)=first+(2*r+1):=aY (by omega) (by omega)
    have b2:aL (first+(2*r+1)) 1=first+(2*r+2):=by rw [aY (by omega) (by omega)];omega
    have b3:aL (2*r+1) 1=2*r+2:=by rw [aY (by omega) (by omega)];omega
    simp only [hc,decide_false,Bool.false_eq_true,if_false,b1,b2,b3]
    by_cases h2c:2*r+2<hi
    ·cases hcc:lt (gz d l (first+(2*r+1))) (gz d l (first+(2*r+2))) with
     | true =>
       simp (disch:=first | omega | (refine hf.all _ ?_ ?_ <;> omega)) only [h2c,decide_true,if_true,iW d,Option.bind_some,hbr,hcc]
       refine key (2*r+2) (.inr rfl) h2c fun c p1 p2=>?_
       rcases p1 with rfl | rfl
       ·exact w.asymm _ _ hcc
       ·exact w.irrefl _
     | false =>
       simp (disch:=first | omega | (refine hf.all _ ?_ ?_ <;> omega)) only [h2c,decide_true,if_true,iW d,Option.bind_some,hbr,hcc,Bool.false_eq_true,if_false]
       refine key (2*r+1) (.inl rfl) (by omega) fun c p1 p2=>?_
       rcases p1 with rfl | rfl
       ·exact w.irrefl _
       ·exact hcc
    ·simp only [h2c,decide_false,Bool.false_eq_true,if_false,Option.bind_some]
     refine key (2*r+1) (.inl rfl) (by omega) fun c p1 p2=>?_
     obtain rfl:c=2*r+1:=by omega
     exact w.irrefl _) (lo,l0) ⟨Int.le_refl _,hlo,.refl _,h0,fun p c p1 p2=>by simp only at p2;omega⟩
 obtain ⟨l',hr,q3,q4⟩:=q2
 refine ⟨l', ?_,q3,q4⟩
 unfold Bf
 rw [q1]
 rcases hr with rfl | rfl <;> rfl
theorem AK {a b:Int} {l0:List α} (ha:0≤a) (hab:a≤b) (hb:b≤l0.length) (hf0:Fb P d l0) :
  ∃ l',Jw br a b l0=some l'∧On d a b l0 l'∧Asc d lt a b l':=by
 have hL:=hf0.len
 have s1:aJ b a=b-a:=bK (by omega) (by omega)
 have s2:aJ (b-a) 1=b-a-1:=bK (by omega) (by omega)
 have ht:0≤(b-a-1).tdiv 2∧(b-a-1).tdiv 2≤b-a∧b-a-1<2*(b-a-1).tdiv 2+2:=by
  by_cases h:0≤b-a-1
  ·rw [Int.tdiv_eq_ediv_of_nonneg h];omega
  ·rw [show b-a-1=-1 from by omega,show Int.tdiv (-1) 2=0 from rfl];omega
 have s3:rO (b-a-1) 2=(b-a-1).tdiv 2:=yH _ (by omega) (by omega)
 obtain ⟨l1,q1,q2,q3⟩:=mG (fun s:Int×List α=>(s.1+1).toNat) (fun s:Int×List α=>-1≤s.1∧s.1≤b-a∧On d a b l0 s.2∧Lh d lt a (s.1+1) (b-a) (-1) s.2)
  (fun l'=>On d a b l0 l'∧Lh d lt a 0 (b-a) (-1) l') (Da br a b) (by
   rintro ⟨i,l⟩ ⟨i1,i2,hon,hI⟩
   simp only at i1 i2 hon hI ⊢
   have hf:=hf0.on hon
   have hl:=hon.len
   unfold Da
   by_cases hi:i ≥ 0
   ·left
    obtain ⟨l',p1,p2,p3⟩:=Qo hbr w (first:=a) (lo:=i) (hi:=b-a) ha hi (by omega) hf (fun p c c1 c2 c3 c4=>hI p c (by omega) (by omega) c3 c4) (by omega)
    refine ⟨(i-1,l'), ?_,⟨by simp only;omega,by simp only;omega,hon.trans d (p2.mono d ha (by omega) (by omega) (by omega)), ?_⟩,by simp only;omega⟩
    ·simp (disch:=omega) only [hi,decide_true,if_true,s1,p1,Option.bind_some,bK]
    ·simp only
     rw [show i-1+1=i from by omega];exact p3
   ·right
    refine ⟨l,by simp only [hi,decide_false,Bool.false_eq_true,if_false],hon, ?_⟩
    rwa [show i+1=0 from by omega] at hI) ((b-a-1).tdiv 2,l0) ⟨by simp only;omega,by simp only;omega,.refl _,fun p c p1 p2 p3 p4=>by simp only at p1;omega⟩
 have hl1:=q2.len
 obtain ⟨l2,r1,r2,r3⟩:=mG (fun s:Int×List α=>(s.1+1).toNat)
  (fun s:Int×List α=>-1≤s.1∧s.1<b-a∧On d a b l0 s.2∧Lh d lt a 0 (s.1+1) (-1) s.2∧∀ q:Int,s.1<q→q<b-a→∀ p:Int,0≤p→p<q→lt (gz d s.2 (a+q)) (gz d s.2 (a+p))=false)
  (fun l'=>On d a b l0 l'∧Asc d lt a b l') (Db br a) (by
   rintro ⟨i,l⟩ ⟨i1,i2,hon,hH,hI⟩
   simp only at i1 i2 hon hH hI ⊢
   have hf:=hf0.on hon
   have hl:=hon.len
   unfold Db
   by_cases hi:i ≥ 0
   ·left
    have hmax:=fun c h1 h2=>LQ w hH i.toNat c h1 (by omega) h2
    have hsw:On d a (a+i+1) l (sw d l a (a+i)):=.step (.refl _) _ _ (Int.le_refl _) (by omega) (by omega) (by omega) ha (by omega)
    have hsl:(sw d l a (a+i)).length=l.length:=Us ..
    obtain ⟨l',p1,p2,p3⟩:=Qo hbr w (first:=a) (lo:=0) (hi:=i) (l0:=sw d l a (a+i)) ha (Int.le_refl _) (by omega) (hf.on hsw) (fun p c c1 c2 c3 c4=>by
     rw [qK d (by omega) (by omega) (by omega) (by omega) (by omega),qK d (by omega) (by omega) (by omega) (by omega) (by omega)]
     rw [if_neg (by omega),if_neg (by omega),if_neg (by omega),if_neg (by omega)]
     exact hH p c c1 (by omega) (by omega) c4) (by omega)
    have hall:On d a (a+i+1) l l':=hsw.trans d (p2.mono d ha (by omega) (by omega) (by omega))
    have a1:aL a i=a+i:=aY (by omega) (by omega)
    refine ⟨(i-1,l'), ?_,⟨by simp only;omega,by simp only;omega,hon.trans d (hall.mono d ha (Int.le_refl _) (by omega) (by omega)), ?_, ?_⟩,by simp only;omega⟩
    ·have p1':Bf br 0 i a (List.set (List.set l (Int.toNat a) (gz d l (a+i))) (Int.toNat (a+i)) (gz d l a))=some l':=p1
     simp (disch:=first | omega | (simp only [List.length_set];omega)) only [hi,decide_true,if_true,a1,iW d,Option.bind_some,p1',bK]
    ·simp only
     rw [show i-1+1=i from by omega];exact p3
    ·simp only
     intro q c1 c2 p c3 c4
     by_cases e:q=i
     ·subst e
      have e1:gz d l' (a+q)=gz d l a:=by
       rw [p2.out d (by omega) (.inr (by omega)),qK d (by omega) (by omega) (by omega) (by omega) (by omega),if_pos rfl]
      rw [e1]
      refine p2.all d (fun x=>lt (gz d l a) x=false) (fun k k1 k2=>?_) (a+p) (by omega) (by omega)
      rw [qK d (by omega) (by omega) (by omega) (by omega) (by omega),if_neg (by omega)]
      split
      ·exact hmax q (by omega) (by omega)
      ·have:=hmax (k-a) (by omega) (by omega)
       rwa [show a+(k-a)=k from by omega] at this
     ·have e1:gz d l' (a+q)=gz d l (a+q):=hall.out d (by omega) (.inr (by omega))
      rw [e1]
      by_cases e2:p≤i
      ·refine hall.all d (fun x=>lt (gz d l (a+q)) x=false) (fun k k1 k2=>?_) (a+p) (by omega) (by omega)
       have:=hI q (by omega) c2 (k-a) (by omega) (by omega)
       rwa [show a+(k-a)=k from by omega] at this
      ·rw [hall.out d (k:=a+p) (by omega) (.inr (by omega))]
       exact hI q (by omega) c2 p c3 c4
   ·right
    refine ⟨l,by simp only [hi,decide_false,Bool.false_eq_true,if_false],hon,fun p q c1 c2 c3=>?_⟩
    have:=hI (q-a) (by omega) (by omega) (p-a) (by omega) (by omega)
    rwa [show a+(q-a)=q from by omega,show a+(p-a)=p from by omega] at this) (b-a-1,l1) ⟨by simp only;omega,by simp only;omega,q2,by simp only;rw [show b-a-1+1=b-a from by omega];exact q3,fun q c1 c2=>by simp only at c1;omega⟩
 refine ⟨l2, ?_,r2,r3⟩
 unfold Jw
 simp only [s1,s2,s3,q1,Option.bind_some,r1]
end
theorem Ry {body:Int→Option (Int ⊕ Int)} (c:Int→Bool) {i j:Int} (hij:i≤j+1) (hs:∀ s,i≤s→s≤j→body s=if c s then some (.inl (s+1)) else some (.inr s)) (he:body (j+1)=some (.inr (j+1))) :
  ∃ x,aK body i=some x∧i≤x∧x≤j+1∧(∀ k,i≤k→k<x→c k=true)∧(x≤j→c x=false):=
 mG (fun s:Int=>(j+1-s).toNat) (fun s=>i≤s∧s≤j+1∧∀ k,i≤k→k<s→c k=true) (fun x=>i≤x∧x≤j+1∧(∀ k,i≤k→k<x→c k=true)∧(x≤j→c x=false)) body (by
  rintro s ⟨h1,h2,h3⟩
  by_cases h:s≤j
  ·cases hc:c s with
   | true =>
     left
     refine ⟨s+1,by rw [hs s h1 h,hc];rfl,⟨by omega,by omega,fun k k1 k2=>?_⟩,by omega⟩
     by_cases e:k=s
     ·subst e;exact hc
     ·exact h3 k k1 (by omega)
   | false =>
     right
     exact ⟨s,by rw [hs s h1 h,hc];rfl,h1,h2,h3,fun _=>hc⟩
  ·right
   obtain rfl:s=j+1:=by omega
   exact ⟨_,he,h1,h2,h3,fun q=>absurd q (by omega)⟩) i ⟨Int.le_refl _,hij,fun k k1 k2=>absurd k1 (by omega)⟩
theorem Ps {body:Int→Option (Int ⊕ Int)} (c:Int→Bool) {i j:Int} (hij:i≤j+1) (hs:∀ s,i≤s→s≤j→body s=if c s then some (.inl (s-1)) else some (.inr s)) (he:body (i-1)=some (.inr (i-1))) :
  ∃ x,aK body j=some x∧i-1≤x∧x≤j∧(∀ k,x<k→k≤j→c k=true)∧(i≤x→c x=false):=
 mG (fun s:Int=>(s+1-i).toNat) (fun s=>i-1≤s∧s≤j∧∀ k,s<k→k≤j→c k=true) (fun x=>i-1≤x∧x≤j∧(∀ k,x<k→k≤j→c k=true)∧(i≤x→c x=false)) body (by
  rintro s ⟨h1,h2,h3⟩
  by_cases h:i≤s
  ·cases hc:c s with
   | true =>
     left
     refine ⟨s-1,by rw [hs s h h2,hc];rfl,⟨by omega,by omega,fun k k1 k2=>?_⟩,by omega⟩
     by_cases e:k=s
     ·subst e;exact hc
     ·exact h3 k (by omega) k2
   | false =>
     right
     exact ⟨s,by rw [hs s h h2,hc];rfl,h1,h2,h3,fun _=>hc⟩
  ·right
   obtain rfl:s=i-1:=by omega
   exact ⟨_,he,h1,h2,h3,fun q=>absurd q (by omega)⟩) j ⟨by omega,Int.le_refl _,fun k k1 k2=>absurd k1 (by omega)⟩
section
variable {α:Type} {br:Br α} {lt:α→α→Bool} {P:α→Prop} {d:α} (hbr:∀ (β:Type) (x y:α) (k:Bool→Option β),P x→P y→br β x y k=k (lt x y)) (w:Qv lt)
include hbr
theorem Ub {a b:Int} {l0:List α} (ha:0≤a) (hab:a<b) (hb:b≤l0.length) (hf0:Fb P d l0) {i0 j0:Int} (h1:a+1≤i0) (h2:j0≤b-1) (h3:i0≤j0+1)
  (hlo:∀ k,a+1≤k→k<i0→lt (gz d l0 k) (gz d l0 a)=true) (hhi:∀ k,j0<k→k<b→lt (gz d l0 k) (gz d l0 a)=false) :
  ∃ r,aK (xB br a) (i0,j0,l0)=some r∧On d (a+1) b l0 r.2∧gz d r.2 a=gz d l0 a∧a≤r.1∧r.1<b∧(∀ k,a+1≤k→k≤r.1→lt (gz d r.2 k) (gz d l0 a)=true)∧(∀ k,r.1<k→k<b→lt (gz d r.2 k) (gz d l0 a)=false):=by
 have hL:=hf0.len
 refine mG (fun s:Int×Int×List α=>(s.2.1+1-s.1).toNat) (fun s:Int×Int×List α=>a+1≤s.1∧s.2.1≤b-1∧s.1≤s.2.1+1∧On d (a+1) b l0 s.2.2∧gz d s.2.2 a=gz d l0 a ∧
  (∀ k,a+1≤k→k<s.1→lt (gz d s.2.2 k) (gz d l0 a)=true)∧(∀ k,s.2.1<k→k<b→lt (gz d s.2.2 k) (gz d l0 a)=false)) _ (xB br a) ?_ (i0,j0,l0) ⟨h1,h2,h3,.refl _,rfl,hlo,hhi⟩
 rintro ⟨i,j,l⟩ ⟨i1,i2,i3,hon,hp,hI,hJ⟩
 simp only at i1 i2 i3 hon hp hI hJ ⊢
 have hf:=hf0.on hon
 have hl:=hon.len
 unfold xB
 obtain ⟨x,x1,x2,x3,x4,x5⟩:=Ry (body:=wZ br a (i,j,l)) (fun k=>lt (gz d l k) (gz d l0 a)) i3 (fun s s1 s2=>by
  unfold wZ
  simp (disch:=first | omega | (refine hf.all _ ?_ ?_ <;> omega) | (refine hf0.all _ ?_ ?_ <;> omega)) only [s2,decide_true,if_true,iW d,Option.bind_some,hbr,hp,aY]) (by
  unfold wZ
  simp only [show ¬ j+1≤j from by omega,decide_false,Bool.false_eq_true,if_false,Option.bind_some])
 obtain ⟨y,y1,y2,y3,y4,y5⟩:=Ps (body:=xA br a (i,j,l) x) (fun k=>!lt (gz d l k) (gz d l0 a)) x3 (fun s s1 s2=>by
  unfold xA
  simp (disch:=first | omega | (refine hf.all _ ?_ ?_ <;> omega) | (refine hf0.all _ ?_ ?_ <;> omega)) only [s1,decide_true,if_true,iW d,Option.bind_some,hbr,hp,bK]) (by
  unfold xA
  simp only [show ¬ x≤x-1 from by omega,decide_false,Bool.false_eq_true,if_false,Option.bind_some])
 simp only [x1,y1,Option.bind_some]
 by_cases hxy:x>y
 ·right
  refine ⟨(y,l),by simp only [hxy,decide_true,if_true],hon,hp,by simp only;omega,by simp only;omega,fun k k1 k2=>?_,fun k k1 k2=>?_⟩
  ·simp only at k2 ⊢
   by_cases e:k<i
   ·exact hI k k1 e
   ·exact x4 k (by omega) (by omega)
  ·simp only at k1 ⊢
   by_cases e:j<k
   ·exact hJ k e k2
   ·have:=y4 k (by omega) (by omega)
    simpa using this
 ·left
  have hx:=x5 (by omega)
  have hy:=y5 (by omega)
  simp only [Bool.not_eq_eq_eq_not,Bool.not_false] at hy
  have hne:x≠y:=fun e=>by subst e;rw [hx] at hy;cases hy
  refine ⟨(x+1,y-1,sw d l x y), ?_,⟨by simp only;omega,by simp only;omega,by simp only;omega,.step hon x y (by omega) (by omega) (by omega) (by omega) (by omega) (by omega), ?_,fun k k1 k2=>?_,fun k k1 k2=>?_⟩,by simp only;omega⟩
  ·simp (disch:=first | omega | (simp only [List.length_set];omega)) only [hxy,decide_false,Bool.false_eq_true,if_false,iW d,Option.bind_some,aY,bK]
   rfl
  ·simp only
   rw [qK d (by omega) (by omega) (by omega) (by omega) (by omega),if_neg (by omega),if_neg (by omega)];exact hp
  ·simp only at k2 ⊢
   rw [qK d (by omega) (by omega) (by omega) (by omega) (by omega),if_neg (by omega)]
   by_cases e:k=x
   ·rw [if_pos e];exact hy
   ·rw [if_neg e]
    by_cases e:k<i
    ·exact hI k k1 e
    ·exact x4 k (by omega) (by omega)
  ·simp only at k1 ⊢
   rw [qK d (by omega) (by omega) (by omega) (by omega) (by omega)]
   by_cases e:k=y
   ·rw [if_pos e];exact hx
   ·rw [if_neg e,if_neg (by omega)]
    by_cases e:j<k
    ·exact hJ k e k2
    ·have:=y4 k (by omega) (by omega)
     simpa using this
theorem Yp {a b pivot:Int} {l0:List α} (ha:0≤a) (hab:a<b) (hb:b≤l0.length) (hf0:Fb P d l0) (hp1:a≤pivot) (hp2:pivot<b) :
  ∃ mid al l',Bz br a b pivot l0=some (mid,al,l')∧On d a b l0 l'∧a≤mid∧mid<b∧(∀ k,a≤k→k<mid→lt (gz d l' k) (gz d l' mid)=true)∧(∀ k,mid<k→k<b→lt (gz d l' k) (gz d l' mid)=false):=by
 have hL:=hf0.len
 have hon1:On d a b l0 (sw d l0 a pivot):=.step (.refl _) _ _ (Int.le_refl _) hab hp1 hp2 ha hb
 obtain ⟨l1,hl1⟩:∃ l1,sw d l0 a pivot=l1:=⟨_,rfl⟩
 have e1:List.set (List.set l0 (Int.toNat a) (gz d l0 pivot)) (Int.toNat pivot) (gz d l0 a)=l1:=hl1
 rw [hl1] at hon1
 have hf:=hf0.on hon1
 have hl:=hon1.len
 have s1:aJ b 1=b-1:=bK (by omega) (by omega)
 have s2:aL a 1=a+1:=aY (by omega) (by omega)
 unfold Bz
 simp (disch:=first | omega | (simp only [List.length_set];omega)) only [iW d (l:=l0),Option.bind_some]
 rw [show idx (l0.set a.toNat (gz d l0 pivot)) pivot=some (gz d (l0.set a.toNat (gz d l0 pivot)) pivot) from iW d (by omega) (by rw [List.length_set];omega),Option.bind_some,e1]
 obtain ⟨x,x1,x2,x3,x4,x5⟩:=Ry (body:=wX br a b pivot l0 (gz d l0 pivot) (gz d l0 a)) (fun k=>lt (gz d l1 k) (gz d l1 a)) (i:=a+1) (j:=b-1) (by omega) (fun s q1 q2=>by
  unfold wX
  simp (disch:=first | omega | (refine hf.all _ ?_ ?_ <;> omega)) only [e1,s1,q2,decide_true,if_true,iW d,Option.bind_some,hbr,aY]) (by
  unfold wX
  simp only [s1,show ¬ b-1+1≤b-1 from by omega,decide_false,Bool.false_eq_true,if_false,Option.bind_some])
 obtain ⟨y,y1,y2,y3,y4,y5⟩:=Ps (body:=wY br a pivot l0 (gz d l0 pivot) (gz d l0 a) x) (fun k=>!lt (gz d l1 k) (gz d l1 a)) (i:=x) (j:=b-1) x3 (fun s q1 q2=>by
  unfold wY
  simp (disch:=first | omega | (refine hf.all _ ?_ ?_ <;> omega)) only [e1,q1,decide_true,if_true,iW d,Option.bind_some,hbr,bK]) (by
  unfold wY
  simp only [show ¬ x≤x-1 from by omega,decide_false,Bool.false_eq_true,if_false,Option.bind_some])
 have fin:∀ (m:Int) (l:List α),On d a b l0 l→a≤m→m<b→gz d l a=gz d l1 a→(∀ k,a+1≤k→k≤m→lt (gz d l k) (gz d l1 a)=true)→(∀ k,m<k→k<b→lt (gz d l k) (gz d l1 a)=false) →
   On d a b l0 (sw d l m a)∧(∀ k,a≤k→k<m→lt (gz d (sw d l m a) k) (gz d (sw d l m a) m)=true)∧(∀ k,m<k→k<b→lt (gz d (sw d l m a) k) (gz d (sw d l m a) m)=false):=by
  intro m l on m1 m2 hq hlo hhi
  have hl:=on.len
  have em:gz d (sw d l m a) m=gz d l1 a:=by
   rw [qK d (by omega) (by omega) (by omega) (by omega) (by omega)]
   by_cases e:m=a
   ·rw [if_pos e,e];exact hq
   ·rw [if_neg e,if_pos rfl];exact hq
  refine ⟨.step on m a (by omega) (by omega) (by omega) (by omega) ha (by omega),fun k k1 k2=>?_,fun k k1 k2=>?_⟩
  ·rw [em,qK d (by omega) (by omega) (by omega) (by omega) (by omega)]
   by_cases e:k=a
   ·rw [if_pos e];exact hlo m (by omega) (Int.le_refl _)
   ·rw [if_neg e,if_neg (by omega)];exact hlo k (by omega) (by omega)
  ·rw [em,qK d (by omega) (by omega) (by omega) (by omega) (by omega),if_neg (by omega),if_neg (by omega)]
   exact hhi k k1 k2
 simp only [s1,s2,x1,y1,Option.bind_some]
 by_cases hxy:x>y
 ·obtain ⟨f1,f2,f3⟩:=fin y l1 hon1 (by omega) (by omega) rfl (fun k k1 k2=>x4 k k1 (by omega)) (fun k k1 k2=>by
   have:=y4 k k1 (by omega)
   simpa using this)
  refine ⟨y,true,sw d l1 y a, ?_,f1,by omega,by omega,f2,f3⟩
  simp (disch:=first | omega | (simp only [List.length_set];omega)) only [hxy,decide_true,if_true,iW d,Option.bind_some]
  rfl
 ·have hx:=x5 (by omega)
  have hy:=y5 (by omega)
  simp only [Bool.not_eq_eq_eq_not,Bool.not_false] at hy
  have hne:x≠y:=fun e=>by subst e;rw [hx] at hy;cases hy
  have hon2:On d (a+1) b l1 (sw d l1 x y):=.step (.refl _) x y (by omega) (by omega) (by omega) (by omega) (by omega) (by omega)
  have hga:gz d (sw d l1 x y) a=gz d l1 a:=by rw [qK d (by omega) (by omega) (by omega) (by omega) (by omega),if_neg (by omega),if_neg (by omega)]
  have hl2:(sw d l1 x y).length=l1.length:=Us ..
  obtain ⟨r,r1,r2,r3,r4,r5,r6,r7⟩:=Ub hbr (i0:=x+1) (j0:=y-1) ha hab (by omega) (hf.on hon2) (by omega) (by omega) (by omega) (fun k k1 k2=>by
   rw [hga,qK d (by omega) (by omega) (by omega) (by omega) (by omega),if_neg (by omega)]
   by_cases e:k=x
   ·rw [if_pos e];exact hy
   ·rw [if_neg e];exact x4 k k1 (by omega)) (fun k k1 k2=>by
   rw [hga,qK d (by omega) (by omega) (by omega) (by omega) (by omega)]
   by_cases e:k=y
   ·rw [if_pos e];exact hx
   ·rw [if_neg e,if_neg (by omega)]
    have:=y4 k (by omega) (by omega)
    simpa using this)
  rw [hga] at r3 r6 r7
  have hon3:=(hon2.trans d r2).mono d ha (by omega) (Int.le_refl _) (by omega)
  have hl3:=r2.len
  obtain ⟨f1,f2,f3⟩:=fin r.1 r.2 (hon1.trans d hon3) r4 r5 r3 r6 r7
  have e2:List.set (List.set l1 (Int.toNat x) (gz d l1 y)) (Int.toNat y) (gz d l1 x)=sw d l1 x y:=rfl
  refine ⟨r.1,false,sw d r.2 r.1 a, ?_,f1,r4,r5,f2,f3⟩
  simp (disch:=first | omega | (simp only [List.length_set];omega)) only [hxy,decide_false,Bool.false_eq_true,if_false,iW d,Option.bind_some,aY,bK,e2,r1]
  rfl
theorem Oe {a b pivot:Int} {l0:List α} (ha:0≤a) (hab:a<b) (hb:b≤l0.length) (hf0:Fb P d l0) (hp1:a≤pivot) (hp2:pivot<b) (hirr:∀ x,lt x x=false) :
  ∃ mid l',xV br a b pivot l0=some (mid,l')∧On d a b l0 l'∧a<mid∧mid≤b∧(∀ k,a≤k→k<mid→lt (gz d l0 pivot) (gz d l' k)=false):=by
 have hL:=hf0.len
 have hon1:On d a b l0 (sw d l0 a pivot):=.step (.refl _) _ _ (Int.le_refl _) hab hp1 hp2 ha hb
 obtain ⟨l1,hl1⟩:∃ l1,sw d l0 a pivot=l1:=⟨_,rfl⟩
 have e1:List.set (List.set l0 (Int.toNat a) (gz d l0 pivot)) (Int.toNat pivot) (gz d l0 a)=l1:=hl1
 have hpa:gz d l1 a=gz d l0 pivot:=by
  rw [← hl1,qK d (by omega) (by omega) (by omega) (by omega) (by omega)]
  by_cases e:a=pivot
  ·rw [if_pos e,e]
  ·rw [if_neg e,if_pos rfl]
 rw [hl1] at hon1
 have hf1:=hf0.on hon1
 have hl1':=hon1.len
 have s1:aJ b 1=b-1:=bK (by omega) (by omega)
 have s2:aL a 1=a+1:=aY (by omega) (by omega)
 obtain ⟨r,r1,r2,r3,r4,r5⟩:=mG (fun s:Int×Int×List α=>(s.2.1+1-s.1).toNat) (fun s:Int×Int×List α=>a+1≤s.1∧s.2.1≤b-1∧s.1≤s.2.1+1∧On d (a+1) b l1 s.2.2∧gz d s.2.2 a=gz d l1 a ∧
   (∀ k,a+1≤k→k<s.1→lt (gz d l1 a) (gz d s.2.2 k)=false)) (fun r:Int×List α=>On d a b l0 r.2∧a<r.1∧r.1≤b∧(∀ k,a≤k→k<r.1→lt (gz d l0 pivot) (gz d r.2 k)=false)) (uW br a) (by
  rintro ⟨i,j,l⟩ ⟨i1,i2,i3,hon,hp,hI⟩
  simp only at i1 i2 i3 hon hp hI ⊢
  have hf:=hf1.on hon
  have hl:=hon.len
  unfold uW
  obtain ⟨x,x1,x2,x3,x4,x5⟩:=Ry (body:=qF br a (i,j,l)) (fun k=>!lt (gz d l1 a) (gz d l k)) i3 (fun s s1 s2=>by
   unfold qF
   simp (disch:=first | omega | (refine hf.all _ ?_ ?_ <;> omega) | (refine hf1.all _ ?_ ?_ <;> omega)) only [s2,decide_true,if_true,iW d,Option.bind_some,hbr,hp,aY]) (by
   unfold qF
   simp only [show ¬ j+1≤j from by omega,decide_false,Bool.false_eq_true,if_false,Option.bind_some])
  obtain ⟨y,y1,y2,y3,y4,y5⟩:=Ps (body:=qG br a (i,j,l) x) (fun k=>lt (gz d l1 a) (gz d l k)) x3 (fun s s1 s2=>by
   unfold qG
   simp (disch:=first | omega | (refine hf.all _ ?_ ?_ <;> omega) | (refine hf1.all _ ?_ ?_ <;> omega)) only [s1,decide_true,if_true,iW d,Option.bind_some,hbr,hp,bK]) (by
   unfold qG
   simp only [show ¬ x≤x-1 from by omega,decide_false,Bool.false_eq_true,if_false,Option.bind_some])
  simp only [x1,y1,Option.bind_some]
  have below:∀ k,a+1≤k→k<x→lt (gz d l1 a) (gz d l k)=false:=fun k k1 k2=>by
   by_cases e:k<i
   ·exact hI k k1 e
   ·have:=x4 k (by omega) k2
    simpa using this
  by_cases hxy:x>y
  ·right
   refine ⟨(x,l),by simp only [hxy,decide_true,if_true],hon1.trans d (hon.mono d ha (by omega) (Int.le_refl _) (by omega)),by simp only;omega,by simp only;omega,fun k k1 k2=>?_⟩
   simp only at k2 ⊢
   rw [← hpa]
   by_cases e:k=a
   ·rw [e,hp];exact hirr _
   ·exact below k (by omega) k2
  ·left
   have hx:=x5 (by omega)
   have hy:=y5 (by omega)
   simp only [Bool.not_eq_eq_eq_not,Bool.not_false] at hx
   have hne:x≠y:=fun e=>by subst e;rw [hx] at hy;cases hy
   refine ⟨(x+1,y-1,sw d l x y), ?_,⟨by simp only;omega,by simp only;omega,by simp only;omega,.step hon x y (by omega) (by omega) (by omega) (by omega) (by omega) (by omega), ?_,fun k k1 k2=>?_⟩,by simp only;omega⟩
   ·simp (disch:=first | omega | (simp only [List.length_set];omega)) only [hxy,decide_false,Bool.false_eq_true,if_false,iW d,Option.bind_some,aY,bK]
    rfl
   ·simp only
    rw [qK d (by omega) (by omega) (by omega) (by omega) (by omega),if_neg (by omega),if_neg (by omega)];exact hp
   ·simp only at k2 ⊢
    rw [qK d (by omega) (by omega) (by omega) (by omega) (by omega),if_neg (by omega)]
    by_cases e:k=x
    ·rw [if_pos e];exact hy
    ·rw [if_neg e];exact below k k1 (by omega)) (a+1,b-1,l1) ⟨by simp only;omega,by simp only;omega,by simp only;omega,.refl _,rfl,fun k k1 k2=>absurd k1 (by simp only at k2;omega)⟩
 refine ⟨r.1,r.2, ?_,r2,r3,r4,r5⟩
 unfold xV
 simp (disch:=first | omega | (simp only [List.length_set];omega)) only [iW d (l:=l0),Option.bind_some]
 rw [show idx (l0.set a.toNat (gz d l0 pivot)) pivot=some (gz d (l0.set a.toNat (gz d l0 pivot)) pivot) from iW d (by omega) (by rw [List.length_set];omega),Option.bind_some,e1]
 simp only [s1,s2,r1,Option.bind_some]
end
theorem wrap_u64 {x:Int} (h0:0≤x) (h1:x<18446744073709551616):IntKind.wrap .u64 x=x:=by
 simp only [IntKind.wrap,IntKind.signed,IntKind.bits,IntKind.min,IntKind.max]
 first | omega | (simp;omega)
theorem TM:((List.range 256).all fun c=>match sR ((c:Int),0) with | some t=>decide (0≤t∧t≤8∧2^t.toNat≤max 1 (2*c)) | none=>false)=true:=by decide +kernel
theorem MA (c n:Int) (h0:0≤n) (h1:n≤64) (hc:0≤c) (hc2:c<256):∃ t:Int,sR (c,n)=some (n+t)∧0≤t∧t≤8∧2^t.toNat≤max 1 (2*c.toNat):=by
 have h:=List.all_eq_true.1 TM c.toNat (List.mem_range.2 (by omega))
 rw [show ((c.toNat:Nat):Int)=c from by omega] at h
 obtain ⟨T,hT⟩:∃ T:Int→Option Int,∀ c n,sR (c,n)=(T c).bind fun x=>some (aL n (IntKind.wrap .i64 x)):=⟨fun c=>Kg (ByteArray.mk #[0,1,2,2,3,3,3,3,4,4,4,4,4,4,4,4,5,5,5,5,5,5,5,5,5,5,5,5,5,5,5,5,6,6,6,6,6,6,6,6,6,6,6,6,6,6,6,6,6,6,6,6,6,6,6,6,6,6,6,6,6,6,6,6,7,7,7,7,7,7,7,7,7,7,7,7,7,7,7,7,7,7,7,7,7,7,7,7,7,7,7,7,7,7,7,7,7,7,7,7,7,7,7,7,7,7,7,7,7,7,7,7,7,7,7,7,7,7,7,7,7,7,7,7,7,7,7,7,8,8,8,8,8,8,8,8,8,8,8,8,8,8,8,8,8,8,8,8,8,8,8,8,8,8,8,8,8,8,8,8,8,8,8,8,8,8,8,8,8,8,8,8,8,8,8,8,8,8,8,8,8,8,8,8,8,8,8,8,8,8,8,8,8,8,8,8,8,8,8,8,8,8,8,8,8,8,8,8,8,8,8,8,8,8,8,8,8,8,8,8,8,8,8,8,8,8,8,8,8,8,8,8,8,8,8,8,8,8,8,8,8,8,8,8,8,8,8,8,8,8,8,8,8,8,8,8]) (IntKind.wrap .u8 c),fun _ _=>rfl⟩
 rw [hT] at h ⊢
 cases hs:T c with
 | none=>rw [hs] at h;simp at h
 | some t =>
   rw [hs] at h
   simp only [Option.bind_some,decide_eq_true_eq] at h ⊢
   generalize hw:IntKind.i64.wrap t=v at h ⊢
   have hv:aL 0 v=v:=by
    unfold aL
    rw [Int.zero_add,← hw]
    simp only [IntKind.wrap,IntKind.signed,IntKind.bits,IntKind.min,IntKind.max]
    first | omega | (simp only [Int.reducePow,if_true];omega) | (simp;omega)
   rw [hv] at h
   exact ⟨v,by rw [aY (by omega) (by omega)],h.1,h.2.1,h.2.2⟩
theorem MH {x:Int} (h0:0≤x) (h1:x≤1073741824):∃ v:Int,Ew (IntKind.wrap .u64 x)=some v∧0≤v∧v≤40∧2^v.toNat≤max 1 (2*x.toNat):=by
 have hw:IntKind.wrap .u64 x=x:=by
  exact wrap_u64 (by omega) (by omega)
 have c8:(2^(min (Int.toNat 8) 64):Int)=256:=by decide
 have c16:(2^(min (Int.toNat 16) 64):Int)=65536:=by decide
 have step:∀ (c n:Int),0≤c→0≤n→n≤30→c<65536→∃ t:Int,vX (c,n)=some (n+t)∧0≤t∧t≤16∧2^t.toNat≤max 1 (2*c.toNat):=fun c n h0 hn hn2 hc=>by
  unfold vX
  by_cases q:c ≥ 256
  ·simp only [q,decide_true,if_true,c8]
   have e:Int.fdiv c 256=c / 256:=Int.fdiv_eq_ediv_of_nonneg _ (by omega)
   rw [e,aY (by omega) (by omega)]
   obtain ⟨t,t1,t2,t3,t4⟩:=MA (c / 256) (n+8) (by omega) (by omega) (by omega) (by omega)
   refine ⟨8+t,by rw [t1];congr 1;omega,by omega,by omega, ?_⟩
   rw [show (8+t).toNat=8+t.toNat from by omega,Nat.pow_add]
   omega
  ·simp only [q,decide_false,Bool.false_eq_true,if_false]
   obtain ⟨t,t1,t2,t3,t4⟩:=MA c n (by omega) (by omega) (by omega) (by omega)
   exact ⟨t,t1,t2,by omega,t4⟩
 unfold Ew Lm yZ
 rw [hw]
 have q:¬ x ≥ 4294967296:=by omega
 simp only [q,decide_false,Bool.false_eq_true,if_false]
 by_cases q:x ≥ 65536
 ·simp only [q,decide_true,if_true,c16]
  have e:Int.fdiv x 65536=x / 65536:=Int.fdiv_eq_ediv_of_nonneg _ (by omega)
  rw [e,show aL 0 16=16 from rfl]
  obtain ⟨t,t1,t2,t3,t4⟩:=step (x / 65536) 16 (by omega) (by omega) (by omega) (by omega)
  refine ⟨16+t,by rw [t1];rfl,by omega,by omega, ?_⟩
  rw [show (16+t).toNat=16+t.toNat from by omega,Nat.pow_add]
  omega
 ·simp only [q,decide_false,Bool.false_eq_true,if_false]
  obtain ⟨t,t1,t2,t3,t4⟩:=step x 0 h0 (by omega) (by omega) (by omega)
  refine ⟨t,by rw [t1,Int.zero_add];rfl,t2,by omega,t4⟩
section
variable {α:Type} {br:Br α} {lt:α→α→Bool} {P:α→Prop} {d:α} (hbr:∀ (β:Type) (x y:α) (k:Bool→Option β),P x→P y→br β x y k=k (lt x y)) (w:Qv lt)
theorem DQ {a b:Int} {l0:List α} (ha:0≤a) (hb:b≤l0.length) (hL:(l0.length:Int)≤1073741824) (hab:a≤b):∃ l',Bm br a b l0=some l'∧On d a b l0 l':=by
 obtain ⟨l',r1,r2⟩:=mG (fun s:Int×Int×List α=>(s.2.1+1-s.1).toNat) (fun s:Int×Int×List α=>a≤s.1∧s.2.1<b∧s.1≤b∧a-1≤s.2.1∧On d a b l0 s.2.2) (fun l'=>On d a b l0 l') (xE br) (by
  rintro ⟨i,j,l⟩ ⟨h1,h2,h3,h4,hon⟩
  simp only at h1 h2 h3 h4 hon ⊢
  have hl:=hon.len
  unfold xE
  by_cases q:i<j
  ·left
   refine ⟨(i+1,j-1,sw d l i j), ?_,⟨by simp only;omega,by simp only;omega,by simp only;omega,by simp only;omega,.step hon i j h1 (by omega) (by omega) h2 ha (by omega)⟩,by simp only;omega⟩
   simp (disch:=first | omega | (simp only [List.length_set];omega)) only [q,decide_true,if_true,iW d,Option.bind_some,aY,bK]
   rfl
  ·right
   exact ⟨l,by simp only [q,decide_false,Bool.false_eq_true,if_false],hon⟩) (a,b-1,l0) ⟨by simp only;omega,by simp only;omega,by simp only;omega,by simp only;omega,.refl _⟩
 refine ⟨l', ?_,r2⟩
 unfold Bm
 rw [bK (by omega) (by omega),r1];rfl
theorem SB (r m:Int) (h0:0≤m) (h1:m<9223372036854775808):0≤Nv .u64 r m∧Nv .u64 r m≤m:=by
 unfold Nv
 have hb:(BitVec.ofInt 64 m).toNat=m.toNat:=by
  rw [BitVec.toNat_ofInt]
  omega
 have hle:(BitVec.ofInt IntKind.u64.bits r &&& BitVec.ofInt IntKind.u64.bits m).toNat≤m.toNat:=by
  show (BitVec.ofInt 64 r &&& BitVec.ofInt 64 m).toNat≤m.toNat
  rw [BitVec.toNat_and,hb]
  exact Nat.and_le_right
 generalize (BitVec.ofInt IntKind.u64.bits r &&& BitVec.ofInt IntKind.u64.bits m).toNat=v at hle ⊢
 have hw:IntKind.wrap .u64 (v:Int)=v:=by
  exact wrap_u64 (by omega) (by omega)
 rw [hw];omega
theorem UD {n:Int} (h:0≤n) (h2:n≤1073741824):rO n 4=n / 4:=by
 unfold rO
 rw [Int.tdiv_eq_ediv_of_nonneg h]
 exact yH _ (by omega) (by omega)
theorem KB {a b:Int} {l0:List α} (ha:0≤a) (hb:b≤l0.length) (hL:(l0.length:Int)≤1073741824) (hab:a≤b):∃ l',zE br a b l0=some l'∧On d a b l0 l':=by
 have s1:aJ b a=b-a:=bK (by omega) (by omega)
 unfold zE
 rw [s1]
 by_cases h8:b-a ≥ 8
 case neg=>simp only [h8,decide_false,Bool.false_eq_true,if_false];exact ⟨l0,rfl,.refl _⟩
 simp only [h8,decide_true,if_true]
 obtain ⟨v,v1,v2,v3,v4⟩:=MH (x:=b-a) (by omega) (by omega)
 have hpow:1≤2^v.toNat:=Nat.one_le_two_pow
 have hr2:xU (b-a)=some ((2^v.toNat:Nat):Int):=by
  unfold xU
  rw [v1]
  simp only [Option.bind_some,v2,decide_true,if_true]
  congr 1
  rw [show min v.toNat 64=v.toNat from by omega,Int.one_mul,show (2:Int)^v.toNat=((2^v.toNat:Nat):Int) from by simp]
  exact wrap_u64 (by omega) (by omega)
 rw [hr2,Option.bind_some]
 obtain ⟨R,hR⟩:∃ R:Int,((2^v.toNat:Nat):Int)=R:=⟨_,rfl⟩
 rw [hR]
 have hR1:1≤R:=by omega
 have hR2:R≤2*(b-a):=by omega
 have hm:IntKind.wrap .u64 (R-1)=R-1:=by
  exact wrap_u64 (by omega) (by omega)
 have q4:=UD (n:=b-a) (by omega) (by omega)
 have q2:lB ((b-a) / 4) 2=(b-a) / 4*2:=Kt (by omega) (by omega)
 have q3:aL a ((b-a) / 4*2)=a+(b-a) / 4*2:=aY (by omega) (by omega)
 have q5:aL (a+(b-a) / 4*2) 1=a+(b-a) / 4*2+1:=aY (by omega) (by omega)
 have q6:aJ (a+(b-a) / 4*2) 1=a+(b-a) / 4*2-1:=bK (by omega) (by omega)
 obtain ⟨l',r1,r2⟩:=mG (fun s:Int×Int×List α=>(a+(b-a) / 4*2+2-s.1).toNat) (fun s:Int×Int×List α=>a≤s.1∧On d a b l0 s.2.2) (fun l'=>On d a b l0 l') (wD br a b R) (by
  rintro ⟨i,rr,l⟩ ⟨h1,hon⟩
  simp only at h1 hon ⊢
  have hl:=hon.len
  unfold wD
  simp only [s1,q4,q2,q3,q5,hm]
  by_cases q:i≤a+(b-a) / 4*2+1
  ·left
   simp only [q,decide_true,if_true,Gy,Option.bind_some]
   generalize hz:(jP IntKind.u64 _ _:Int)=z
   obtain ⟨a1,a2⟩:=SB z (R-1) (by omega) (by omega)
   have hw:IntKind.wrap .i64 (Nv .u64 z (R-1))=Nv .u64 z (R-1):=yH _ (by omega) (by omega)
   rw [hw]
   obtain ⟨o,ho⟩:∃ o,Nv .u64 z (R-1)=o:=⟨_,rfl⟩
   rw [ho] at a1 a2 ⊢
   have key:∀ t:Int,0≤t→t<b-a→∃ s',sK br a (i,rr,l) t=some (.inl s')∧(a≤s'.1∧On d a b l0 s'.2.2)∧(a+(b-a) / 4*2+2-s'.1).toNat<(a+(b-a) / 4*2+2-i).toNat:=fun t t1 t2=>by
    have e:aL a t=a+t:=aY (by omega) (by omega)
    unfold sK
    simp (disch:=first | omega | (simp only [List.length_set];omega)) only [e,iW d,Option.bind_some]
    refine ⟨_,rfl,⟨?_, ?_⟩, ?_⟩
    ·simp only;rw [aY (by omega) (by omega)];omega
    ·exact .step hon i (a+t) (by omega) (by omega) (by omega) (by omega) ha (by omega)
    ·simp only;rw [aY (by omega) (by omega)];omega
   by_cases hge:o ≥ b-a
   ·simp only [hge,decide_true,if_true]
    rw [bK (by omega) (by omega)]
    exact key (o-(b-a)) (by omega) (by omega)
   ·simp only [hge,decide_false,Bool.false_eq_true,if_false]
    exact key o a1 (by omega)
  ·right
   exact ⟨l,by simp only [q,decide_false,Bool.false_eq_true,if_false],hon⟩) (a+(b-a) / 4*2-1,IntKind.wrap .u64 (b-a),l0) ⟨by simp only;omega,.refl _⟩
 refine ⟨l', ?_,r2⟩
 simp only [q4,q2,q3,q6,r1,Option.bind_some]
include hbr
theorem Pn {l:List α} (hf:Fb P d l) {x y:Int} (s:Int) (hx:0≤x) (hx':x<l.length) (hy:0≤y) (hy':y<l.length):∃ r,Gx br l x y s=some r∧((r.1=x∧r.2.1=y)∨(r.1=y∧r.2.1=x)):=by
 unfold Gx
 rw [iW d hy hy',Option.bind_some,iW d hx hx',Option.bind_some,hbr _ _ _ _ (hf.all _ hy hy') (hf.all _ hx hx')]
 cases lt (gz d l y) (gz d l x) with
 | true=>exact ⟨_,rfl,.inr ⟨rfl,rfl⟩⟩
 | false=>exact ⟨_,rfl,.inl ⟨rfl,rfl⟩⟩
theorem Wy {l:List α} (hf:Fb P d l) {lo hi x y z:Int} (s:Int) (hlo:0≤lo) (hhi:hi≤l.length) (hx:lo≤x∧x<hi) (hy:lo≤y∧y<hi) (hz:lo≤z∧z<hi):∃ r,Kq br l x y z s=some r∧lo≤r.1∧r.1<hi:=by
 unfold Kq
 obtain ⟨r1,e1,q1⟩:=Pn hbr hf (x:=x) (y:=y) s (by omega) (by omega) (by omega) (by omega)
 rw [e1,Option.bind_some]
 obtain ⟨r2,e2,q2⟩:=Pn hbr hf (x:=r1.2.1) (y:=z) r1.2.2 (by omega) (by omega) (by omega) (by omega)
 rw [e2,Option.bind_some]
 obtain ⟨r3,e3,q3⟩:=Pn hbr hf (x:=r1.1) (y:=r2.1) r2.2.2 (by omega) (by omega) (by omega) (by omega)
 rw [e3,Option.bind_some]
 exact ⟨_,rfl,by simp only;omega,by simp only;omega⟩
theorem GU {l:List α} (hf:Fb P d l) {a b:Int} (ha:0≤a) (hb:b≤l.length) (hab:a+12<b):∃ p h,Cz br l a b=some (p,h)∧a≤p∧p<b:=by
 have hL:=hf.len
 have s1:aJ b a=b-a:=bK (by omega) (by omega)
 have q4:=UD (n:=b-a) (by omega) (by omega)
 have m1:lB ((b-a) / 4) 1=(b-a) / 4*1:=Kt (by omega) (by omega)
 have m2:lB ((b-a) / 4) 2=(b-a) / 4*2:=Kt (by omega) (by omega)
 have m3:lB ((b-a) / 4) 3=(b-a) / 4*3:=Kt (by omega) (by omega)
 have a1:aL a ((b-a) / 4*1)=a+(b-a) / 4*1:=aY (by omega) (by omega)
 have a2:aL a ((b-a) / 4*2)=a+(b-a) / 4*2:=aY (by omega) (by omega)
 have a3:aL a ((b-a) / 4*3)=a+(b-a) / 4*3:=aY (by omega) (by omega)
 have k1:∀ p n:Int,∃ h,uC br (p,n)=some (p,h):=fun p n=>by
  unfold uC
  simp only
  split
  ·exact ⟨_,rfl⟩
  ·split
   ·exact ⟨_,rfl⟩
   ·exact ⟨_,rfl⟩
 have k2:∀ x y z s:Int,(a≤x∧x<b)→(a≤y∧y<b)→(a≤z∧z<b)→∃ p h,uD br l (x,y,z,s)=some (p,h)∧a≤p∧p<b:=fun x y z s hx hy hz=>by
  unfold uD
  obtain ⟨r,e,r1,r2⟩:=Wy hbr hf (lo:=a) (hi:=b) s ha hb hx hy hz
  simp only [e,Option.bind_some]
  obtain ⟨h,e2⟩:=k1 r.1 r.2
  exact ⟨_,h,e2,r1,r2⟩
 have adj:∀ x s:Int,a+1≤x→x+1<b→∃ r,qE br l x s=some r∧a≤r.1∧r.1<b:=fun x s h1 h2=>by
  unfold qE
  rw [bK (by omega) (by omega),aY (by omega) (by omega)]
  obtain ⟨r,e,r1,r2⟩:=Wy hbr hf (lo:=a) (hi:=b) (x:=x-1) (y:=x) (z:=x+1) s ha hb (by omega) (by omega) (by omega)
  rw [e]
  exact ⟨_,rfl,r1,r2⟩
 unfold Cz
 have h8:b-a ≥ 8:=by omega
 simp only [s1,q4,m1,m2,m3,a1,a2,a3,h8,decide_true,if_true]
 by_cases h50:b-a ≥ 50
 ·simp only [h50,decide_true,if_true]
  obtain ⟨r1,e1,p1,p2⟩:=adj (a+(b-a) / 4*1) 0 (by omega) (by omega)
  rw [e1,Option.bind_some]
  obtain ⟨r2,e2,p3,p4⟩:=adj (a+(b-a) / 4*2) r1.2 (by omega) (by omega)
  rw [e2,Option.bind_some]
  obtain ⟨r3,e3,p5,p6⟩:=adj (a+(b-a) / 4*3) r2.2 (by omega) (by omega)
  rw [e3,Option.bind_some]
  exact k2 _ _ _ _ ⟨p1,p2⟩ ⟨p3,p4⟩ ⟨p5,p6⟩
 ·simp only [h50,decide_false,Bool.false_eq_true,if_false]
  exact k2 _ _ _ _ (by omega) (by omega) (by omega)
end
section
variable {α:Type} {br:Br α} {lt:α→α→Bool} {P:α→Prop} {d:α} (hbr:∀ (β:Type) (x y:α) (k:Bool→Option β),P x→P y→br β x y k=k (lt x y)) (w:Qv lt)
include hbr
theorem JB {i b:Int} {l0:List α} (hi:0≤i) (hib:i+1≤b) (hb:b≤l0.length) (hf0:Fb P d l0):∃ l',aK (kM br b) (i+1,l0)=some l'∧On d i b l0 l':=by
 have hL:=hf0.len
 refine mG (fun s:Int×List α=>(b-s.1).toNat) (fun s:Int×List α=>i+1≤s.1∧On d i b l0 s.2) _ (kM br b) ?_ (i+1,l0) ⟨Int.le_refl _,.refl _⟩
 rintro ⟨j,l⟩ ⟨h1,hon⟩
 simp only at h1 hon ⊢
 have hf:=hf0.on hon
 have hl:=hon.len
 unfold kM
 by_cases q:j<b
 ·cases hc:lt (gz d l j) (gz d l (j-1)) with
  | true =>
    left
    refine ⟨(j+1,sw d l j (j-1)), ?_,⟨by simp only;omega,.step hon j (j-1) (by omega) (by omega) (by omega) (by omega) hi (by omega)⟩,by simp only;omega⟩
    simp (disch:=first | omega | (simp only [List.length_set];omega) | (refine hf.all _ ?_ ?_ <;> omega)) only [q,decide_true,if_true,bK,aY,iW d,Option.bind_some,hbr,hc,Bool.not_true,Bool.false_eq_true,if_false]
    rfl
  | false =>
    right
    refine ⟨l, ?_,hon⟩
    simp (disch:=first | omega | (refine hf.all _ ?_ ?_ <;> omega)) only [q,decide_true,if_true,bK,iW d,Option.bind_some,hbr,hc,Bool.not_false]
 ·right
  exact ⟨l,by simp only [q,decide_false,Bool.false_eq_true,if_false],hon⟩
include w
theorem JA {a b i:Int} {l0:List α} (ha:0≤a) (hi:a<i) (hib:i≤b) (hb:b≤l0.length) (hf0:Fb P d l0) (hpre:0<a→∀ k,a≤k→k<b→lt (gz d l0 k) (gz d l0 (a-1))=false) (h0:Asc d lt a (i-1) l0) :
  ∃ l',aK (kO br) (i-1,l0)=some l'∧On d a i l0 l'∧Asc d lt a i l':=by
 have hL:=hf0.len
 refine mG (fun s:Int×List α=>(s.1-a).toNat) (fun s:Int×List α=>a≤s.1∧s.1≤i-1∧On d a i l0 s.2∧∀ p q:Int,a≤p→p<q→q≤i-1→q≠s.1→lt (gz d s.2 q) (gz d s.2 p)=false)
  (fun l'=>On d a i l0 l'∧Asc d lt a i l') (kO br) ?_ (i-1,l0) ⟨by simp only;omega,Int.le_refl _,.refl _,fun p q h1 h2 h3 h4=>h0 p q h1 h2 (by simp only at h4;omega)⟩
 rintro ⟨j,l⟩ ⟨h1,h2,hon,hI⟩
 simp only at h1 h2 hon hI ⊢
 have hf:=hf0.on hon
 have hl:=hon.len
 have stop:(j=a∨lt (gz d l j) (gz d l (j-1))=false)→Asc d lt a i l:=fun hs p q p1 p2 p3=>by
  by_cases e1:q=j
  ·subst e1
   rcases hs with hs | hs
   ·omega
   ·by_cases e2:p=q-1
    ·subst e2;exact hs
    ·exact w.le_trans (hI p (q-1) p1 (by omega) (by omega) (by omega)) hs
  ·exact hI p q p1 p2 (by omega) e1
 unfold kO
 by_cases hj:j ≥ 1
 ·cases hc:lt (gz d l j) (gz d l (j-1)) with
  | false =>
    right
    refine ⟨l, ?_,hon,stop (.inr hc)⟩
    simp (disch:=first | omega | (refine hf.all _ ?_ ?_ <;> omega)) only [hj,decide_true,if_true,bK,iW d,Option.bind_some,hbr,hc,Bool.not_false]
  | true =>
    have hja:a<j:=by
     rcases Int.lt_or_le a j with q | q
     ·exact q
     ·exfalso
      obtain rfl:j=a:=by omega
      have e:gz d l (j-1)=gz d l0 (j-1):=hon.out d (by omega) (.inl (by omega))
      have:=hon.all d (fun x=>lt x (gz d l0 (j-1))=false) (fun k k1 k2=>hpre (by omega) k k1 (by omega)) j (Int.le_refl _) hi
      rw [e,this] at hc;cases hc
    left
    refine ⟨(j-1,sw d l j (j-1)), ?_,⟨by simp only;omega,by simp only;omega,.step hon j (j-1) (by omega) (by omega) (by omega) (by omega) ha (by omega), ?_⟩,by simp only;omega⟩
    ·simp (disch:=first | omega | (simp only [List.length_set];omega) | (refine hf.all _ ?_ ?_ <;> omega)) only [hj,decide_true,if_true,bK,iW d,Option.bind_some,hbr,hc,Bool.not_true,Bool.false_eq_true,if_false]
     rfl
    ·simp only
     intro p q p1 p2 p3 p4
     rw [qK d (by omega) (by omega) (by omega) (by omega) (by omega),qK d (by omega) (by omega) (by omega) (by omega) (by omega)]
     rw [if_neg p4]
     by_cases e1:q=j
     ·rw [if_pos e1]
      by_cases e2:p=j-1
      ·rw [if_pos e2];exact w.asymm _ _ hc
      ·rw [if_neg e2,if_neg (by omega)]
       exact hI p (j-1) (by omega) (by omega) (by omega) (by omega)
     ·rw [if_neg e1]
      by_cases e2:p=j-1
      ·rw [if_pos e2];exact hI j q (by omega) (by omega) p3 e1
      ·rw [if_neg e2]
       by_cases e3:p=j
       ·rw [if_pos e3];exact hI (j-1) q (by omega) (by omega) p3 e1
       ·rw [if_neg e3];exact hI p q p1 p2 p3 e1
 ·right
  refine ⟨l,by simp only [hj,decide_false,Bool.false_eq_true,if_false],hon,stop (.inl (by omega))⟩
theorem DI {a b:Int} {l0:List α} (ha:0≤a) (hab:a<b) (hb:b≤l0.length) (hf0:Fb P d l0) (hpre:0<a→∀ k,a≤k→k<b→lt (gz d l0 k) (gz d l0 (a-1))=false) :
  ∃ r l',sS br a b l0=some (r,l')∧On d a b l0 l'∧(r=true→Asc d lt a b l'):=by
 have hL:=hf0.len
 have s1:aJ b a=b-a:=bK (by omega) (by omega)
 have s2:aL a 1=a+1:=aY (by omega) (by omega)
 obtain ⟨r,r1,r2⟩:=mG (fun s:Int×Int×List α=>(5-s.2.1).toNat) (fun s:Int×Int×List α=>a+1≤s.1∧s.1≤b∧0≤s.2.1∧On d a b l0 s.2.2∧Asc d lt a s.1 s.2.2)
  (fun r:Bool×List α ⊕ List α=>match r with | .inl x=>On d a b l0 x.2∧(x.1=true→Asc d lt a b x.2) | .inr l=>On d a b l0 l) (oZ br a b) (by
  rintro ⟨i,c,l⟩ ⟨i1,i2,i3,hon,hA⟩
  simp only at i1 i2 i3 hon hA ⊢
  have hf:=hf0.on hon
  have hl:=hon.len
  unfold oZ
  by_cases hc5:c<5
  case neg =>
   right
   exact ⟨.inr l,by simp only [hc5,decide_false,Bool.false_eq_true,if_false],hon⟩
  obtain ⟨x,x1,x2,x3,x4,x5⟩:=Ry (body:=kL br b (i,c,l)) (fun k=>!lt (gz d l k) (gz d l (k-1))) (i:=i) (j:=b-1) (by omega) (fun s q1 q2=>by
   unfold kL
   simp (disch:=first | omega | (refine hf.all _ ?_ ?_ <;> omega)) only [show s<b from by omega,decide_true,if_true,iW d,Option.bind_some,hbr,aY,bK]) (by
   unfold kL
   simp only [show ¬ b-1+1<b from by omega,decide_false,Bool.false_eq_true,if_false,Option.bind_some])
  have hAx:Asc d lt a x l:=by
   have:∀ n:Nat,∀ y,y≤x→y≤i+n→Asc d lt a y l:=by
    intro n
    induction n with
    | zero=>intro y _ y2 p q p1 p2 p3;exact hA p q p1 p2 (by omega)
    | succ n ih =>
      intro y y1 y2
      by_cases e:y≤i+n
      ·exact ih y y1 e
      ·have h0:=ih (y-1) (by omega) (by omega)
       have h1:=x4 (y-1) (by omega) (by omega)
       simp only [Bool.not_eq_eq_eq_not,Bool.not_true] at h1
       intro p q p1 p2 p3
       by_cases e1:q=y-1
       ·subst e1
        by_cases e2:p=y-1-1
        ·subst e2;exact h1
        ·exact w.le_trans (h0 p (y-1-1) p1 (by omega) (by omega)) h1
       ·exact h0 p q p1 p2 (by omega)
   exact this (x-i).toNat x (Int.le_refl _) (by omega)
  simp only [hc5,decide_true,if_true,x1,Option.bind_some]
  by_cases hxb:x=b
  ·right
   refine ⟨.inl (true,l),by simp only [hxb,beq_self_eq_true,if_true],hon,fun _=>?_⟩
   simp only;rw [← hxb];exact hAx
  have hbx:(x==b)=false:=by simp [hxb]
  simp only [hbx,Bool.false_eq_true,if_false,s1]
  by_cases h50:b-a<50
  ·right
   exact ⟨.inl (false,l),by simp only [h50,decide_true,if_true],hon,fun q=>by cases q⟩
  left
  have e1:aJ x 1=x-1:=bK (by omega) (by omega)
  have e2:aJ x a=x-a:=bK (by omega) (by omega)
  have e3:aJ b x=b-x:=bK (by omega) (by omega)
  have e4:aL x 1=x+1:=aY (by omega) (by omega)
  have e5:aL c 1=c+1:=aY (by omega) (by omega)
  obtain ⟨l1,hl1⟩:∃ l1,sw d l x (x-1)=l1:=⟨_,rfl⟩
  have e6:List.set (List.set l (Int.toNat x) (gz d l (x-1))) (Int.toNat (x-1)) (gz d l x)=l1:=hl1
  have hon1:On d a b l0 l1:=hl1 ▸ .step hon x (x-1) (by omega) (by omega) (by omega) (by omega) ha (by omega)
  have hl1':=hon1.len
  have hf1:=hf0.on hon1
  have hpre1:0<a→∀ k,a≤k→k<b→lt (gz d l1 k) (gz d l1 (a-1))=false:=fun h k k1 k2=>by
   rw [hon1.out d (k:=a-1) (by omega) (.inl (by omega))]
   exact hon1.all d (fun y=>lt y (gz d l0 (a-1))=false) (fun k k1 k2=>hpre h k k1 k2) k k1 k2
  have hA1:Asc d lt a (x-1) l1:=fun p q p1 p2 p3=>by
   rw [← hl1,qK d (by omega) (by omega) (by omega) (by omega) (by omega),qK d (by omega) (by omega) (by omega) (by omega) (by omega),if_neg (by omega),if_neg (by omega),if_neg (by omega),if_neg (by omega)]
   exact hAx p q p1 p2 (by omega)
  -- behind the shift to the left
  have right_:∀ l2,On d a b l0 l2→Asc d lt a x l2→∃ l3,kK br b (i,c,l) x l2=some (.inl (x,c+1,l3))∧On d a b l0 l3∧Asc d lt a x l3:=fun l2 o2 a2=>by
   have hl2:=o2.len
   unfold kK oY
   by_cases q:b-x ≥ 2
   ·obtain ⟨l3,t1,t2⟩:=JB hbr (i:=x) (b:=b) (l0:=l2) (by omega) (by omega) (by omega) (hf0.on o2)
    refine ⟨l3, ?_,o2.trans d (t2.mono d ha (by omega) (Int.le_refl _) (by omega)),fun p q p1 p2 p3=>?_⟩
    ·simp only [e3,q,decide_true,if_true,e4,t1,Option.bind_some,e5]
    ·rw [t2.out d (by omega) (.inl (by omega)),t2.out d (by omega) (.inl (by omega))]
     exact a2 p q p1 p2 p3
   ·exact ⟨l2,by simp only [e3,q,decide_false,Bool.false_eq_true,if_false,e5],o2,a2⟩
  simp (disch:=first | omega | (simp only [List.length_set];omega)) only [h50,decide_false,Bool.false_eq_true,if_false,e1,e2,iW d,Option.bind_some,e6]
  by_cases h2:x-a ≥ 2
  ·obtain ⟨l2,t1,t2,t3⟩:=JA hbr w (a:=a) (b:=b) (i:=x) ha (by omega) (by omega) (by omega) hf1 hpre1 hA1
   obtain ⟨l3,u1,u2,u3⟩:=right_ l2 (hon1.trans d (t2.mono d ha (Int.le_refl _) (by omega) (by omega))) t3
   refine ⟨(x,c+1,l3), ?_,⟨by simp only;omega,by simp only;omega,by simp only;omega,u2,u3⟩,by simp only;omega⟩
   simp only [h2,decide_true,if_true,t1,Option.bind_some,u1]
  ·obtain ⟨l3,u1,u2,u3⟩:=right_ l1 hon1 (fun p q p1 p2 p3=>by omega)
   refine ⟨(x,c+1,l3), ?_,⟨by simp only;omega,by simp only;omega,by simp only;omega,u2,u3⟩,by simp only;omega⟩
   simp only [h2,decide_false,Bool.false_eq_true,if_false,u1]) (a+1,0,l0) ⟨by simp only;omega,by simp only;omega,by simp only;omega,.refl _,fun p q p1 p2 p3=>by simp only at p3;omega⟩
 unfold sS
 rw [s2,r1,Option.bind_some]
 cases r with
 | inl x=>exact ⟨x.1,x.2,rfl,r2.1,r2.2⟩
 | inr l=>exact ⟨false,l,rfl,r2,fun q=>by cases q⟩
end
def Out {α:Type} (d:α) (lt:α→α→Bool) (a0 b0 a b:Int) (l:List α):Prop:=∀ p q:Int,a0≤p→p<q→q<b0→(p<a∨b≤q)→lt (gz d l q) (gz d l p)=false
def Pre {α:Type} (d:α) (lt:α→α→Bool) (a b:Int) (l:List α):Prop:=0<a→∀ k,a≤k→k<b→lt (gz d l k) (gz d l (a-1))=false
section
variable {α:Type} {br:Br α} {lt:α→α→Bool} {P:α→Prop} {d:α} (hbr:∀ (β:Type) (x y:α) (k:Bool→Option β),P x→P y→br β x y k=k (lt x y)) (w:Qv lt)
theorem Ua {a0 b0 a b:Int} {l l':List α} (h:Out d lt a0 b0 a b l) (ho:On d a b l l') (h0:0≤a0) (h1:a0≤a) (h2:b≤b0):Out d lt a0 b0 a b l':=by
 intro p q p1 p2 p3 p4
 by_cases hp:a≤p∧p<b
 ·rw [ho.out d (k:=q) (by omega) (.inr (by omega))]
  exact ho.all d (fun x=>lt (gz d l q) x=false) (fun k k1 k2=>h k q (by omega) (by omega) p3 (.inr (by omega))) p hp.1 hp.2
 ·rw [ho.out d (k:=p) (by omega) (by omega)]
  by_cases hq:a≤q∧q<b
  ·exact ho.all d (fun x=>lt x (gz d l p)=false) (fun k k1 k2=>h p k p1 (by omega) (by omega) (.inl (by omega))) q hq.1 hq.2
  ·rw [ho.out d (k:=q) (by omega) (by omega)]
   exact h p q p1 p2 p3 p4
theorem OQ {a0 b0 a b:Int} {l:List α} (h:Out d lt a0 b0 a b l) (ha:Asc d lt a b l):Asc d lt a0 b0 l:=by
 intro p q p1 p2 p3
 by_cases e:p<a∨b≤q
 ·exact h p q p1 p2 p3 e
 ·exact ha p q (by omega) p2 (by omega)
theorem DK {a0 b0 a b:Int} {l0 l:List α} (hp:Pre d lt a0 b0 l0) (h0:0≤a0) (h1:a0≤a) (h2:b≤b0) (ho:On d a0 b0 l0 l) (h:Out d lt a0 b0 a b l):Pre d lt a b l:=by
 intro hpos k k1 k2
 by_cases e:a=a0
 ·subst e
  rw [ho.out d (k:=a-1) (by omega) (.inl (by omega))]
  exact ho.all d (fun x=>lt x (gz d l0 (a-1))=false) (fun k k1 k2=>hp hpos k k1 k2) k k1 (by omega)
 ·exact h (a-1) k (by omega) (by omega) (by omega) (.inl (by omega))
theorem pre_on {a b:Int} {l l':List α} (hp:Pre d lt a b l) (h0:0≤a) (ho:On d a b l l'):Pre d lt a b l':=DK (a0:=a) (b0:=b) hp h0 (Int.le_refl _) (Int.le_refl _) ho fun p q p1 p2 p3 p4=>absurd p4 (by omega)
include hbr w
theorem AZ {self:Int→Int→Int→List α→Option (List α)} {N:Int}
  (hself:∀ (a b limit:Int) (l:List α),0≤a→a≤b→b≤l.length→Fb P d l→Pre d lt a b l→b-a<N→∃ l',self a b limit l=some l'∧On d a b l l'∧Asc d lt a b l')
  {a0 b0 limit:Int} {l0:List α} (h0:0≤a0) (hab:a0≤b0) (hb:b0≤l0.length) (hf0:Fb P d l0) (hpre:Pre d lt a0 b0 l0) (hN:b0-a0≤12∨b0-a0<2*N) :
  ∃ l',aK (Ap br self) (a0,b0,limit,true,true,l0)=some l'∧On d a0 b0 l0 l'∧Asc d lt a0 b0 l':=by
 have hL:=hf0.len
 refine mG (fun s:Int×Int×Int×Bool×Bool×List α=>(s.2.1-s.1).toNat) (fun s:Int×Int×Int×Bool×Bool×List α=>a0≤s.1∧s.1≤s.2.1∧s.2.1≤b0∧On d a0 b0 l0 s.2.2.2.2.2∧Out d lt a0 b0 s.1 s.2.1 s.2.2.2.2.2)
  (fun l'=>On d a0 b0 l0 l'∧Asc d lt a0 b0 l') (Ap br self) ?_ (a0,b0,limit,true,true,l0) ⟨Int.le_refl _,hab,Int.le_refl _,.refl _,fun p q p1 p2 p3 p4=>absurd p4 (by simp only;omega)⟩
 rintro ⟨a,b,lim,wb,wp,l⟩ ⟨i1,i2,i3,hon,hout⟩
 simp only at i1 i2 i3 hon hout ⊢
 have hf:=hf0.on hon
 have hl:=hon.len
 have s1:aJ b a=b-a:=bK (by omega) (by omega)
 -- what ends it
 have fin:∀ l',On d a b l l'→Asc d lt a b l'→On d a0 b0 l0 l'∧Asc d lt a0 b0 l':=fun l' o as =>
  ⟨hon.trans d (o.mono d h0 i1 i3 (by omega)),OQ (Ua hout o h0 i1 i3) as⟩
 unfold Ap
 simp only [s1]
 by_cases h12:b-a≤12
 ·right
  obtain ⟨l',t1,t2,t3⟩:=Ph hbr w (a:=a) (b:=b) (l0:=l) (by omega) i2 (by omega) hf
  exact ⟨l',by simp only [h12,decide_true,if_true,t1,Option.bind_some],fin l' t2 t3⟩
 simp only [h12,decide_false,Bool.false_eq_true,if_false]
 by_cases hz:lim=0
 ·right
  obtain ⟨l',t1,t2,t3⟩:=AK hbr w (a:=a) (b:=b) (l0:=l) (by omega) i2 (by omega) hf
  exact ⟨l',by simp only [hz,beq_self_eq_true,if_true,t1,Option.bind_some],fin l' t2 t3⟩
 have hz':(lim==0)=false:=by simp [hz]
 simp only [hz',Bool.false_eq_true,if_false]
 have hN':b-a<2*N:=by omega
 -- the partition
 have k1 : ∀ (j127:Int×List α) (pivot hint:Int) (lx:List α) (wb' wp':Bool) (l1:List α),On d a b l l1→a≤pivot→pivot<b →
   (∃ s',wH br self (a,b,lim,wb,wp,l) j127 (pivot,hint,lx) (wb',wp',l1)=some (.inl s')∧(a0≤s'.1∧s'.1≤s'.2.1∧s'.2.1≤b0∧On d a0 b0 l0 s'.2.2.2.2.2∧Out d lt a0 b0 s'.1 s'.2.1 s'.2.2.2.2.2)∧(s'.2.1-s'.1).toNat<(b-a).toNat) ∨
   (∃ r,wH br self (a,b,lim,wb,wp,l) j127 (pivot,hint,lx) (wb',wp',l1)=some (.inr r)∧On d a0 b0 l0 r∧Asc d lt a0 b0 r):=by
  intro j127 pivot hint lx wb' wp' l1 o1 v1 v2
  left
  have hl1:=o1.len
  have hf1:=hf.on o1
  have hon1:On d a0 b0 l0 l1:=hon.trans d (o1.mono d h0 i1 i3 (by omega))
  have hout1:=Ua hout o1 h0 i1 i3
  have hpre1:Pre d lt a b l1:=DK hpre h0 i1 i3 hon1 hout1
  have part:∃ s',((Bz br a b pivot l1).bind fun r162=>if (decide ((aJ r162.1 a)<(aJ b r162.1))) then ((self a r162.1 j127.1 r162.2.2).bind fun r164=>some (.inl ((aL r162.1 1),b,j127.1,(decide ((aJ r162.1 a) ≥ (rO (aJ b a) 8))),r162.2.1,r164))) else ((self (aL r162.1 1) b j127.1 r162.2.2).bind fun r166=>some (Sum.inl (β:=List α) (a,r162.1,j127.1,(decide ((aJ b r162.1) ≥ (rO (aJ b a) 8))),r162.2.1,r166))))=some (.inl s') ∧
    (a0≤s'.1∧s'.1≤s'.2.1∧s'.2.1≤b0∧On d a0 b0 l0 s'.2.2.2.2.2∧Out d lt a0 b0 s'.1 s'.2.1 s'.2.2.2.2.2)∧(s'.2.1-s'.1).toNat<(b-a).toNat:=by
   obtain ⟨mid,al,l2,t1,t2,t3,t4,t5,t6⟩:=Yp hbr (a:=a) (b:=b) (pivot:=pivot) (l0:=l1) (by omega) (by omega) (by omega) hf1 v1 v2
   have hl2:=t2.len
   have hf2:=hf1.on t2
   have hon2:On d a0 b0 l0 l2:=hon1.trans d (t2.mono d h0 i1 i3 (by omega))
   have hout2:=Ua hout1 t2 h0 i1 i3
   have hpre2:Pre d lt a b l2:=pre_on hpre1 (by omega) t2
   -- all pairs that are not both on one side
   have ord:∀ p q:Int,a0≤p→p<q→q<b0→(p<a∨b≤q∨(p≤mid∧mid≤q))→lt (gz d l2 q) (gz d l2 p)=false:=fun p q p1 p2 p3 p4=>by
    by_cases e:p<a∨b≤q
    ·exact hout2 p q p1 p2 p3 e
    ·by_cases ep:p=mid
     ·subst ep;exact t6 q (by omega) (by omega)
     ·have hp:=w.asymm _ _ (t5 p (by omega) (by omega))
      by_cases eq:q=mid
      ·subst eq;exact hp
      ·exact w.le_trans hp (t6 q (by omega) (by omega))
   have e1:aJ mid a=mid-a:=bK (by omega) (by omega)
   have e2:aJ b mid=b-mid:=bK (by omega) (by omega)
   have e3:aL mid 1=mid+1:=aY (by omega) (by omega)
   simp only [t1,Option.bind_some,e1,e2,e3]
   by_cases hlr:mid-a<b-mid
   ·obtain ⟨l3,u1,u2,u3⟩:=hself a mid j127.1 l2 (by omega) t3 (by omega) hf2 (fun hpos k k1 k2=>hpre2 hpos k k1 (by omega)) (by omega)
    simp only [hlr,decide_true,if_true,u1,Option.bind_some]
    refine ⟨_,rfl,⟨by simp only;omega,by simp only;omega,i3,hon2.trans d (u2.mono d h0 i1 (by omega) (by omega)), ?_⟩,by simp only;omega⟩
    intro p q p1 p2 p3 p4
    simp only at p4 ⊢
    by_cases hp:a≤p∧p<mid
    ·by_cases hq:q<mid
     ·exact u3 p q hp.1 p2 hq
     ·rw [u2.out d (k:=q) (by omega) (.inr (by omega))]
      exact u2.all d (fun x=>lt (gz d l2 q) x=false) (fun k k1 k2=>ord k q (by omega) (by omega) p3 (by omega)) p hp.1 hp.2
    ·rw [u2.out d (k:=p) (by omega) (by omega)]
     by_cases hq:a≤q∧q<mid
     ·exact u2.all d (fun x=>lt x (gz d l2 p)=false) (fun k k1 k2=>ord p k p1 (by omega) (by omega) (by omega)) q hq.1 hq.2
     ·rw [u2.out d (k:=q) (by omega) (by omega)]
      exact ord p q p1 p2 p3 (by omega)
   ·obtain ⟨l3,u1,u2,u3⟩:=hself (mid+1) b j127.1 l2 (by omega) (by omega) (by omega) hf2 (fun hpos k k1 k2=>by
     rw [show mid+1-1=mid from by omega]
     exact t6 k (by omega) k2) (by omega)
    simp only [hlr,decide_false,Bool.false_eq_true,if_false,u1,Option.bind_some]
    refine ⟨_,rfl,⟨i1,t3,by simp only;omega,hon2.trans d (u2.mono d h0 (by omega) i3 (by omega)), ?_⟩,by simp only;omega⟩
    intro p q p1 p2 p3 p4
    simp only at p4 ⊢
    by_cases hp:mid+1≤p∧p<b
    ·by_cases hq:q<b
     ·exact u3 p q hp.1 p2 hq
     ·rw [u2.out d (k:=q) (by omega) (.inr (by omega))]
      exact u2.all d (fun x=>lt (gz d l2 q) x=false) (fun k k1 k2=>ord k q (by omega) (by omega) p3 (by omega)) p hp.1 hp.2
    ·rw [u2.out d (k:=p) (by omega) (by omega)]
     by_cases hq:mid+1≤q∧q<b
     ·exact u2.all d (fun x=>lt x (gz d l2 p)=false) (fun k k1 k2=>ord p k p1 (by omega) (by omega) (by omega)) q hq.1 hq.2
     ·rw [u2.out d (k:=q) (by omega) (by omega)]
      exact ord p q p1 p2 p3 (by omega)
  unfold wH
  by_cases hpos:a>0
  ·cases hc:lt (gz d l1 (a-1)) (gz d l1 pivot) with
   | true =>
     simp (disch:=first | omega | (refine hf1.all _ ?_ ?_ <;> omega)) only [hpos,decide_true,if_true,bK,iW d,Option.bind_some,hbr,hc,Bool.not_true,Bool.false_eq_true,if_false]
     simpa only [s1] using part
   | false =>
     obtain ⟨mid,l2,t1,t2,t3,t4,t5⟩:=Oe hbr (a:=a) (b:=b) (pivot:=pivot) (l0:=l1) (by omega) (by omega) (by omega) hf1 v1 v2 w.irrefl
     refine ⟨(mid,b,j127.1,wb',wp',l2), ?_,⟨by simp only;omega,t4,i3,hon1.trans d (t2.mono d h0 i1 i3 (by omega)), ?_⟩,by simp only;omega⟩
     ·simp (disch:=first | omega | (refine hf1.all _ ?_ ?_ <;> omega)) only [hpos,decide_true,if_true,bK,iW d,Option.bind_some,hbr,hc,Bool.not_false,t1]
     ·have hout2:=Ua hout1 t2 h0 i1 i3
      have hpre2:Pre d lt a b l2:=pre_on hpre1 (by omega) t2
      have hl2:=t2.len
      intro p q p1 p2 p3 p4
      simp only at p4 ⊢
      by_cases e:p<a∨b≤q
      ·exact hout2 p q p1 p2 p3 e
      ·have hp:=t5 p (by omega) (by omega)
       have hq:=hpre2 hpos q (by omega) (by omega)
       rw [t2.out d (k:=a-1) (by omega) (.inl (by omega))] at hq
       cases hlt:lt (gz d l2 q) (gz d l2 p) with
       | false=>rfl
       | true =>
         rcases w.neg _ (gz d l1 pivot) _ hlt with r | r
         ·rcases w.neg _ (gz d l1 (a-1)) _ r with r | r
          ·rw [hq] at r;cases r
          ·rw [hc] at r;cases r
         ·rw [hp] at r;cases r
  ·simp only [hpos,decide_false,Bool.false_eq_true,if_false,Option.bind_some]
   simpa only [s1] using part
 have k2:∀ (j127:Int×List α) (pivot hint:Int) (l1:List α),On d a b l l1→a≤pivot→pivot<b →
   (∃ s',wJ br self (a,b,lim,wb,wp,l) j127 (pivot,hint,l1)=some (.inl s')∧(a0≤s'.1∧s'.1≤s'.2.1∧s'.2.1≤b0∧On d a0 b0 l0 s'.2.2.2.2.2∧Out d lt a0 b0 s'.1 s'.2.1 s'.2.2.2.2.2)∧(s'.2.1-s'.1).toNat<(b-a).toNat) ∨
   (∃ r,wJ br self (a,b,lim,wb,wp,l) j127 (pivot,hint,l1)=some (.inr r)∧On d a0 b0 l0 r∧Asc d lt a0 b0 r):=by
  intro j127 pivot hint l1 o1 v1 v2
  unfold wJ
  obtain ⟨c,hc⟩:∃ c:Bool×Bool×Bool,(if wb then (if wp then (some (true,true,(hint==1))) else (some (true,false,false))) else (some (false,wp,false)))=some c:=by
   cases wb <;> cases wp <;> exact ⟨_,rfl⟩
  simp only [hc,Option.bind_some]
  cases hc2:c.2.2 with
  | false =>
    simp only [Bool.false_eq_true,if_false]
    exact k1 _ _ _ _ _ _ _ o1 v1 v2
  | true =>
    have hl1:=o1.len
    have hon1:On d a0 b0 l0 l1:=hon.trans d (o1.mono d h0 i1 i3 (by omega))
    have hpre1:Pre d lt a b l1:=DK hpre h0 i1 i3 hon1 (Ua hout o1 h0 i1 i3)
    obtain ⟨r,l2,t1,t2,t3⟩:=DI hbr w (a:=a) (b:=b) (l0:=l1) (by omega) (by omega) (by omega) (hf.on o1) hpre1
    simp only [if_true,t1,Option.bind_some]
    cases hr:r with
    | true =>
      right
      simp only [if_true]
      exact ⟨l2,rfl,fin l2 (o1.trans d t2) (t3 hr)⟩
    | false =>
      simp only [Bool.false_eq_true,if_false]
      exact k1 _ _ _ _ _ _ _ (o1.trans d t2) v1 v2
 have k3:∀ (lim':Int) (l1:List α),On d a b l l1 →
   (∃ s',wK br self (a,b,lim,wb,wp,l) (lim',l1)=some (.inl s')∧(a0≤s'.1∧s'.1≤s'.2.1∧s'.2.1≤b0∧On d a0 b0 l0 s'.2.2.2.2.2∧Out d lt a0 b0 s'.1 s'.2.1 s'.2.2.2.2.2)∧(s'.2.1-s'.1).toNat<(b-a).toNat) ∨
   (∃ r,wK br self (a,b,lim,wb,wp,l) (lim',l1)=some (.inr r)∧On d a0 b0 l0 r∧Asc d lt a0 b0 r):=by
  intro lim' l1 o1
  have hl1:=o1.len
  unfold wK
  obtain ⟨pv,h,t1,t2,t3⟩:=GU hbr (l:=l1) (hf.on o1) (a:=a) (b:=b) (by omega) (by omega) (by omega)
  simp only [t1,Option.bind_some]
  by_cases h2:h=2
  ·obtain ⟨l2,u1,u2⟩:=DQ (br:=br) (d:=d) (a:=a) (b:=b) (l0:=l1) (by omega) (by omega) (by omega) i2
   have e1:aJ b 1=b-1:=bK (by omega) (by omega)
   have e2:aJ pv a=pv-a:=bK (by omega) (by omega)
   have e3:aJ (b-1) (pv-a)=b-1-(pv-a):=bK (by omega) (by omega)
   simp only [h2,beq_self_eq_true,if_true,u1,Option.bind_some,e1,e2,e3]
   exact k2 _ _ _ _ (o1.trans d u2) (by omega) (by omega)
  ·have:(h==2)=false:=by simp [h2]
   simp only [this,Bool.false_eq_true,if_false]
   exact k2 _ _ _ _ o1 t2 t3
 cases hwb:wb with
 | false =>
   obtain ⟨l1,t1,t2⟩:=KB (br:=br) (d:=d) (a:=a) (b:=b) (l0:=l) (by omega) (by omega) (by omega) i2
   simp only [Bool.not_false,if_true,t1,Option.bind_some]
   have:=k3 (aJ lim 1) l1 t2
   rw [hwb] at this
   exact this
 | true =>
   simp only [Bool.not_true,Bool.false_eq_true,if_false]
   have:=k3 lim l (.refl _)
   rw [hwb] at this
   exact this
theorem MU:∀ (n:Nat) (a b limit:Int) (l:List α),0≤a→a≤b→b≤l.length→Fb P d l→Pre d lt a b l→b-a<2^n→∃ l',qJ br (n+1) a b limit l=some l'∧On d a b l l'∧Asc d lt a b l'
 | 0,a,b,limit,l,h0,hab,hb,hf,hp,hn=>by
   obtain ⟨l',t1,t2,t3⟩:=AZ hbr w (self:=qJ br 0) (N:=0) (fun a b limit l h1 h2 _ _ _ h3=>by omega) (limit:=limit) h0 hab hb hf hp (.inl (by omega))
   refine ⟨l', ?_,t2,t3⟩
   show tT br (qJ br 0) a b limit l=some l'
   unfold tT
   rw [t1];rfl
 | n+1,a,b,limit,l,h0,hab,hb,hf,hp,hn=>by
   obtain ⟨l',t1,t2,t3⟩:=AZ hbr w (self:=qJ br (n+1)) (N:=2^n) (fun a b limit l h1 h2 h3 h4 h5 h6=>MU n a b limit l h1 h2 h3 h4 h5 h6) (limit:=limit) h0 hab hb hf hp (.inr (by rw [Int.pow_succ] at hn;omega))
   refine ⟨l', ?_,t2,t3⟩
   show tT br (qJ br (n+1)) a b limit l=some l'
   unfold tT
   rw [t1];rfl
theorem QG (m:Nat) (hm:31≤m) {l:List α} (hf:Fb P d l) (v:Int):∃ l',qJ br (m+1) 0 (l.length:Int) v l=some l'∧On d 0 (l.length:Int) l l'∧Asc d lt 0 (l.length:Int) l':=by
 have hL:=hf.len
 refine MU hbr w m 0 (l.length:Int) v l (Int.le_refl _) (by omega) (Int.le_refl _) hf (fun h=>absurd h (by omega)) ?_
 have h1:(2147483648:Nat)≤2^m:=Nat.le_trans (by decide:2147483648≤2^31) (Nat.pow_le_pow_right (by omega) hm)
 have h3:((2:Int)^m)=((2^m:Nat):Int):=by simp
 rw [h3]
 omega
theorem BS {l:List α} (hf:Fb P d l):∃ l',Jv br l=some l'∧l'.Perm l∧l'.Pairwise fun x y=>lt y x=false:=by
 have hL:=hf.len
 obtain ⟨v,v1,_⟩:=MH (x:=(l.length:Int)) (by omega) hL
 obtain ⟨l',t1,t2,t3⟩:=QG hbr w 999 (by omega) hf v
 refine ⟨l', ?_,t2.perm, ?_⟩
 ·unfold Jv Tg
  rw [v1,Option.bind_some,t1];rfl
 ·have hl:=t2.len
  rw [List.pairwise_iff_getElem]
  intro i j hi hj hij
  have:=t3 (i:Int) (j:Int) (by omega) (by omega) (by omega)
  unfold gz at this
  rw [List.getD_eq_getElem?_getD,List.getD_eq_getElem?_getD,Int.toNat_natCast,Int.toNat_natCast,List.getElem?_eq_getElem hi,List.getElem?_eq_getElem hj] at this
  exact this
end
def Am {α:Type} (a1:Int×Int×(List α)):Int×(List α)→Option (Int×Int×(List α) ⊕ Int×(List α)):=fun a0 =>
 some (.inl (a0.1,(aL a1.2.1 1),a0.2))
def Ao {α:Type} (eqb:α→α→Bool) (h0:(List α)) (a1:Int):Int×Int×(List α)→Option (Int×Int×(List α) ⊕ Int×(List α)):=fun a0 =>
 if (decide (a0.2.1<((Int.toNat (h0.length:Int)-Int.toNat a1:Nat):Int))) then ((idx (List.take (Int.toNat (h0.length:Int)-Int.toNat a1) (List.drop (Int.toNat a1) a0.2.2)) a0.2.1).bind fun a2=>(idx (List.take (Int.toNat (h0.length:Int)-Int.toNat a1) (List.drop (Int.toNat a1) a0.2.2)) (aJ a0.2.1 1)).bind fun a3=>if (!(eqb a2 a3)) then ((idx (List.take (Int.toNat (h0.length:Int)-Int.toNat a1) (List.drop (Int.toNat a1) a0.2.2)) a0.2.1).bind fun a4=>(idx a0.2.2 a0.1).bind fun a5=>Am a0 ((aL a0.1 1),(List.set a0.2.2 (Int.toNat a0.1) a4))) else (Am a0 (a0.1,a0.2.2))) else (some (.inr (a0.1,a0.2.2)))
def Fk {α:Type} (eqb:α→α→Bool) (z:α) (h0:(List α)):Int→Option (Int ⊕ ((List α) ⊕ Unit)):=fun a1 =>
 if (decide (a1<(h0.length:Int))) then ((idx h0 a1).bind fun a3=>(idx h0 (aJ a1 1)).bind fun a4=>if (eqb a3 a4) then (if (decide ((0:Int)≤a1)&&(decide (a1≤(h0.length:Int))&&decide ((h0.length:Int)≤(h0.length:Int)))) then ((aK (Ao eqb h0 a1) (a1,1,h0)).bind fun a0=>if (decide ((0:Int)≤a0.1)&&(decide (a0.1≤(a0.2.length:Int))&&decide ((a0.2.length:Int)≤(a0.2.length:Int)))) then ((slc (cpy a0.2 (Int.toNat a0.1) (List.replicate (Int.toNat (a0.2.length:Int)-Int.toNat a0.1) z)) 0 a0.1).bind fun a2=>some (.inr (.inl a2))) else none) else none) else (some (.inl (aL a1 1)))) else (some (.inr (.inr (()))))
def Me {α:Type} (eqb:α→α→Bool) (z:α) (h0:(List α)):Option ((List α)):=
 if (decide ((h0.length:Int)<2)) then (some h0) else ((aK (Fk eqb z h0) 1).bind fun a1=>match a1 with | .inl a0=>some a0 | .inr a2=>some h0)
section
variable {α:Type} {lt:α→α→Bool} (w:Qv lt) (tri:∀ x y,lt x y=false→lt y x=false→x=y) {eqb:α→α→Bool} (heq:∀ x y,eqb x y=true↔x=y) (z:α)
include w tri
theorem Qp {r:List α} {y x:α} (hr:(r++[y]).Pairwise fun a b=>lt a b=true) (hy:lt x y=false) (hne:x≠y):(r++[y]++[x]).Pairwise fun a b=>lt a b=true:=by
 have hyx:lt y x=true:=by
  cases h:lt y x with
  | true=>rfl
  | false=>exact absurd (tri x y hy h) hne
 rw [List.pairwise_append]
 refine ⟨hr,by simp,fun a ha b hb=>?_⟩
 simp at hb
 subst hb
 rw [List.pairwise_append] at hr
 rcases List.mem_append.1 ha with m | m
 ·have h1:=hr.2.2 a m y (by simp)
  rcases w.neg y a b hyx with q | q
  ·rw [w.asymm _ _ h1] at q;cases q
  ·exact q
 ·simp at m;subst m;exact hyx
include heq
theorem CG {l:List α} (hl:(l.length:Int)≤1073741824) (hs:l.Pairwise fun x y=>lt y x=false) :
  ∃ r,Me eqb z l=some r∧(r.Pairwise fun x y=>lt x y=true)∧∀ x,x ∈ r↔x ∈ l:=by
 unfold Me
 by_cases h2:(l.length:Int)<2
 ·refine ⟨l,by simp only [h2,decide_true,if_true], ?_,fun x=>Iff.rfl⟩
  have hlen:l.length<2:=by omega
  clear hl hs h2
  rcases l with _ | ⟨x,_ | ⟨y,t⟩⟩
  ·exact .nil
  ·simp
  ·simp at hlen;omega
 simp only [h2,decide_false,Bool.false_eq_true,if_false]
 have adj:∀ (i j:Nat) (x y:α),i<j→l[i]?=some x→l[j]?=some y→lt y x=false:=fun i j x y hij hx hy=>by
  have h1:=(List.getElem?_eq_some_iff.1 hx)
  have h3:=(List.getElem?_eq_some_iff.1 hy)
  obtain ⟨a1,rfl⟩:=h1
  obtain ⟨b1,rfl⟩:=h3
  exact List.pairwise_iff_getElem.1 hs i j a1 b1 hij
 have get:∀ i:Nat,i<l.length→∃ x,l[i]?=some x:=fun i hi=>⟨l[i],List.getElem?_eq_getElem hi⟩
 have takes:∀ (i:Nat) (x:α),l[i]?=some x→l.take (i+1)=l.take i++[x]:=fun i x hx=>by rw [List.take_add_one,hx];rfl
 -- the second walk
 have inner:∀ (k:Nat) (y:α),1≤k→k<l.length→l[k]?=some y→l[k-1]?=some y→((l.take k).Pairwise fun x y=>lt x y=true) →
   ∃ (i:Nat) (l':List α),aK (Ao eqb l (k:Int)) ((k:Int),1,l)=some ((i:Int),l')∧i≤l'.length∧l'.length=l.length∧((l'.take i).Pairwise fun x y=>lt x y=true)∧∀ x,x ∈ l'.take i↔x ∈ l:=by
  intro k y k1 kl hy hy1 hp
  obtain ⟨r,r1,i,r2,r3,r4,r5,r6⟩:=mG (fun s:Int×Int×List α=>((l.length:Int)-k-s.2.1).toNat)
   (fun s:Int×Int×List α=>∃ (i p:Nat) (y:α),s.1=i∧s.2.1=((p-k:Nat):Int)∧k+1≤p∧p≤l.length∧1≤i∧i≤p-1∧s.2.2.length=l.length∧s.2.2.drop i=l.drop i∧l[p-1]?=some y∧(∃ t,s.2.2.take i=t++[y])∧((s.2.2.take i).Pairwise fun x y=>lt x y=true)∧∀ x,x ∈ s.2.2.take i↔x ∈ l.take p)
   (fun r:Int×List α=>∃ i:Nat,r.1=i∧i≤r.2.length∧r.2.length=l.length∧((r.2.take i).Pairwise fun x y=>lt x y=true)∧∀ x,x ∈ r.2.take i↔x ∈ l) (Ao eqb l (k:Int)) (by
    rintro ⟨i',k2,m⟩ ⟨i,p,y,hi',hk2,p1,p2,i0,i1,hml,hdrop,hy,⟨t,ht⟩,hpw,hmem⟩
    simp only at hi' hk2 hml hdrop ht hpw hmem ⊢
    subst hi' hk2
    unfold Ao
    simp only [Int.toNat_natCast]
    by_cases hp:p<l.length
    ·left
     obtain ⟨x,hx⟩:=get p hp
     have mg:∀ j,i≤j→m[j]?=l[j]?:=fun j hj=>by
      have:=congrArg (fun q=>q[j-i]?) hdrop
      simp only [List.getElem?_drop] at this
      rwa [show i+(j-i)=j from by omega] at this
     have hc:((p-k:Nat):Int)<((l.length-k:Nat):Int):=by omega
     have g1:idx (List.take (l.length-k) (List.drop k m)) ((p-k:Nat):Int)=some x:=by
      rw [Yc,List.getElem?_take,if_pos (by omega),List.getElem?_drop,show k+(p-k)=p from by omega,mg p (by omega),hx]
     have e1:aJ ((p-k:Nat):Int) 1=((p-1-k:Nat):Int):=by rw [bK (by omega) (by omega)];omega
     have g2:idx (List.take (l.length-k) (List.drop k m)) ((p-1-k:Nat):Int)=some y:=by
      rw [Yc,List.getElem?_take,if_pos (by omega),List.getElem?_drop,show k+(p-1-k)=p-1 from by omega,mg (p-1) (by omega),hy]
     have e2:aL ((p-k:Nat):Int) 1=((p+1-k:Nat):Int):=by rw [aY (by omega) (by omega)];omega
     have e3:aL (i:Int) 1=((i+1:Nat):Int):=by rw [aY (by omega) (by omega)];omega
     have tk:=takes p x hx
     simp only [hc,decide_true,if_true,g1,Option.bind_some,e1,g2]
     cases hb:eqb x y with
     | true =>
       obtain rfl:=(heq x y).1 hb
       simp only [Bool.not_true,Bool.false_eq_true,if_false,Am,e2]
       refine ⟨_,rfl,⟨i,p+1,x,rfl,rfl,by omega,by omega,i0,by omega,hml,hdrop,by rw [show p+1-1=p from by omega];exact hx,⟨t,ht⟩,hpw,fun v=>?_⟩,by simp only;omega⟩
       rw [hmem v,tk,List.mem_append,List.mem_singleton]
       constructor
       ·exact .inl
       ·rintro (q | rfl)
        ·exact q
        ·rw [← hmem v,ht];simp
     | false =>
       have hne:x≠y:=fun e=>by rw [(heq x y).2 e] at hb;cases hb
       have gi:idx m (i:Int)=some (m[i]'(by omega)):=by rw [Yc];exact List.getElem?_eq_getElem _
       simp only [Bool.not_false,if_true,gi,Option.bind_some,Am,e2,e3]
       have tset:(m.set i x).take (i+1)=m.take i++[x]:=by
        rw [List.take_add_one,List.take_set_of_le (Nat.le_refl i),List.getElem?_set,if_pos rfl,if_pos (by omega)];rfl
       refine ⟨_,rfl,⟨i+1,p+1,x,rfl,rfl,by omega,by omega,by omega,by omega,by simp only [List.length_set];exact hml, ?_,by rw [show p+1-1=p from by omega];exact hx,⟨m.take i,tset⟩, ?_,fun v=>?_⟩,by simp only;omega⟩
       ·simp only
        rw [List.drop_set_of_lt (by omega),← List.drop_drop,hdrop,List.drop_drop]
       ·simp only
        rw [tset,ht]
        rw [ht] at hpw
        exact Qp w tri hpw (adj (p-1) p y x (by omega) hy hx) hne
       ·simp only
        rw [tset,tk,List.mem_append,List.mem_append,hmem v]
    ·right
     have hc:¬ ((p-k:Nat):Int)<((l.length-k:Nat):Int):=by omega
     refine ⟨((i:Int),m),by simp only [hc,decide_false,Bool.false_eq_true,if_false],i,rfl,by simp only;omega,hml,hpw,fun v=>?_⟩
     rw [hmem v,List.take_of_length_le (by omega)]) ((k:Int),1,l) ⟨k,k+1,y,rfl,by simp only;omega,by omega,by omega,k1,by omega,rfl,rfl,by rw [show k+1-1=k from by omega];exact hy,⟨l.take (k-1),by
      have:=takes (k-1) y hy1
      rwa [show k-1+1=k from by omega] at this⟩,hp,fun v=>by
      rw [takes k y hy,List.mem_append,List.mem_singleton]
      constructor
      ·exact .inl
      ·rintro (q | rfl)
       ·exact q
       ·have:=takes (k-1) v hy1
        rw [show k-1+1=k from by omega] at this
        rw [this];simp⟩
  exact ⟨i,r.2,by rw [r1];congr 1;exact Prod.ext r2 rfl,r3,r4,r5,r6⟩
 obtain ⟨r,r1,r2⟩:=mG (fun s:Int=>((l.length:Int)-s).toNat) (fun s:Int=>∃ k:Nat,s=k∧1≤k∧k≤l.length∧((l.take k).Pairwise fun x y=>lt x y=true))
  (fun r:List α ⊕ Unit=>match r with | .inl r=>(r.Pairwise fun x y=>lt x y=true)∧∀ x,x ∈ r↔x ∈ l | .inr _=>l.Pairwise fun x y=>lt x y=true) (Fk eqb z l) (by
   rintro s ⟨k,rfl,k1,k2,hp⟩
   unfold Fk
   by_cases hk:k<l.length
   ·have hc:(k:Int)<(l.length:Int):=by omega
    obtain ⟨x,hx⟩:=get k hk
    obtain ⟨y,hy⟩:=get (k-1) (by omega)
    have e1:aJ (k:Int) 1=((k-1:Nat):Int):=by rw [bK (by omega) (by omega)];omega
    simp only [hc,decide_true,if_true,aQ hx,Option.bind_some,e1,aQ hy]
    cases hb:eqb x y with
    | false =>
      left
      have hne:x≠y:=fun e=>by rw [(heq x y).2 e] at hb;cases hb
      simp only [Bool.false_eq_true,if_false]
      refine ⟨((k+1:Nat):Int),by rw [bH k (by omega)],⟨k+1,rfl,by omega,by omega, ?_⟩,by omega⟩
      rw [takes k x hx]
      have:=takes (k-1) y hy
      rw [show k-1+1=k from by omega] at this
      rw [this] at hp ⊢
      exact Qp w tri hp (adj (k-1) k y x (by omega) hy hx) hne
    | true =>
      right
      obtain rfl:=(heq x y).1 hb
      obtain ⟨i,l',t1,t2,t3,t4,t5⟩:=inner k x k1 hk hx hy hp
      have c0:decide ((0:Int)≤(k:Int))=true:=by simp
      have c1:decide ((k:Int)≤(l.length:Int))=true:=by simp;omega
      have c2:decide ((l.length:Int)≤(l.length:Int))=true:=by simp
      have c3:decide ((0:Int)≤(i:Int))=true:=by simp
      have c4:decide ((i:Int)≤(l'.length:Int))=true:=by simp;omega
      have c5:decide ((l'.length:Int)≤(l'.length:Int))=true:=by simp
      have hsl:slc (cpy l' i (List.replicate (l'.length-i) z)) 0 (i:Int)=some (l'.take i):=by
       unfold slc cpy
       rw [if_pos ⟨Int.le_refl _,by omega,by simp;omega⟩]
       simp only [Int.toNat_natCast,Int.toNat_zero,List.drop_zero]
       rw [List.append_assoc,List.take_append_of_le_length (by rw [List.length_take];omega),List.take_take,Nat.min_self]
      simp only [if_true,c0,c1,c2,Bool.and_self,t1,Option.bind_some,c3,c4,c5,Int.toNat_natCast,hsl]
      exact ⟨_,rfl,t4,t5⟩
   ·right
    have hc:¬ (k:Int)<(l.length:Int):=by omega
    refine ⟨.inr (),by simp only [hc,decide_false,Bool.false_eq_true,if_false], ?_⟩
    simp only
    rwa [List.take_of_length_le (by omega)] at hp) 1 ⟨1,rfl,by omega,by omega,by
     have hlen:2≤l.length:=by omega
     clear inner takes get adj h2 hs hl
     rcases l with _ | ⟨x,t⟩
     ·simp at hlen
     ·simp⟩
 rw [r1,Option.bind_some]
 cases r with
 | inl r=>exact ⟨r,rfl,r2.1,r2.2⟩
 | inr _=>exact ⟨l,rfl,r2,fun x=>Iff.rfl⟩
end
end Go.SM
end
