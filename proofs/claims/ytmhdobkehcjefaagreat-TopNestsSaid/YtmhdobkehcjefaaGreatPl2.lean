/- What the functions compute, part 2. -/
import Derived.Test.YtmhdobkehcjefaaGreatPl1
import Derived.Test.YtmhdobkehcjefaaGreatVHC3
set_option linter.unusedVariables false
set_option linter.unusedSimpArgs false
set_option linter.unusedSectionVars false
noncomputable section
namespace Go.SM
open Go Go.VI
def mG (n:Int) (lo:Int) (hi:Int):Option (Bool):=
 (if (decide (lo≤n)) then (some (decide (n≤hi))) else (some false)).bind fun j1=>some j1
def cN (set0:bK):Option (Bool):=
 ((mG set0.Gap 0 14400).bind fun r4=>if r4 then ((mG set0.bF 0 14400).bind fun r5=>some r5) else (some false)).bind fun j3=>some j3
def pX:Option (Bool):=
 ((cN (bK.mk 14400 0 false)).bind fun r4=>if r4 then ((cN (bK.mk 0 (-1) false)).bind fun r5=>some (!r5)) else (some false)).bind fun j3=>some j3
def strings_Contains (s sub:ByteArray):Option Bool:=if s.size<4294967281 then some (Go.Lib.contains s.data.toList sub.data.toList) else none
def tP (s0:ByteArray):Int→Option (Int ⊕ (Unit ⊕ Unit)):=fun a1 =>
 if (decide (a1<(s0.size:Int))) then ((Mu s0 a1).bind fun a0=>(if (decide (a0<97)) then (if (decide (a0<48)) then (some true) else (some (decide (a0>57)))) else (if (decide (a0>122)) then (if (decide (a0<48)) then (some true) else (some (decide (a0>57)))) else (some false))).bind fun a2=>if a2 then (some (.inr (.inl ()))) else (some (.inl (aF a1 1)))) else (some (.inr (.inr (()))))
def iN (s0:ByteArray):Option (Bool):=
 (if (decide ((s0.size:Int)<1)) then (some true) else (if (decide ((s0.size:Int)>8)) then (some true) else ((Mu s0 0).bind fun x9=>if (decide (x9<97)) then (some true) else ((Mu s0 0).bind fun a3=>some (decide (a3>122)))))).bind fun j8=>if j8 then (some false) else ((aL (tP s0) 0).bind fun a4=>match a4 with | .inl a5=>some false | .inr a6=>(Ts (ByteArray.mk #[32]) s0).bind fun a1=>(Ts a1 (ByteArray.mk #[32])).bind fun a2=>(strings_Contains (ByteArray.mk #[32,112,97,114,116,32,109,97,116,101,114,105,97,108,32,98,97,115,101,32,102,108,97,110,103,101,32,104,111,108,101,32,99,117,116,32,102,111,114,109,32,101,97,115,116,32,115,111,117,116,104,32,119,101,115,116,32,110,111,114,116,104,32,117,112,32,100,111,119,110,32,99,108,111,115,101,117,112,32,99,108,111,115,101,100,111,119,110,32,103,114,97,105,110,32,120,32,121,32,116,97,98,108,101,32,97,110,103,108,101,32,109,97,99,104,105,110,101,32,112,117,110,99,104,32,100,105,101,32,102,114,97,109,101,32,103,97,117,103,101,32,112,111,108,121,32,115,116,97,116,105,111,110,115,32]) a2).bind fun a0=>some (!a0))
def Ho (gauge:Int) (grain:Int):Option (Bool):=
 ((mG gauge 1 60).bind fun r4=>if r4 then ((mG grain 0 2).bind fun r5=>some r5) else (some false)).bind fun j3=>some j3
def Ip (n:Int) (most:Int):Option (Bool):=
 (if (decide ((rD most)≤n)) then (some (decide (n≤most))) else (some false)).bind fun j1=>some j1
def vE (x0:Int) (w:Int):Option (Bool):=
 ((Ip x0 1048576).bind fun r3=>if r3 then (if (decide (w>0)) then (if (decide (w≤2097152)) then (some (decide ((aF x0 w)≤1048576))) else (some false)) else (some false)) else (some false)).bind fun j2=>some j2
def fA (r0:aE):Option (Bool):=
 ((vE r0.X r0.W).bind fun r4=>if r4 then ((vE r0.Y r0.H).bind fun r5=>some r5) else (some false)).bind fun j3=>some j3
def At (l:(List aE)):Int→Option (Int ⊕ (Unit ⊕ Unit)):=fun a0 =>
 if (decide (a0<(l.length:Int))) then ((idx l a0).bind fun a2=>(fA a2).bind fun a1=>if (!a1) then (some (.inr (.inl ()))) else (some (.inl (aF a0 1)))) else (some (.inr (.inr (()))))
def nH (l:(List aE)):Option (Bool):=
 (aL (At l) 0).bind fun a0=>match a0 with | .inl a1=>some false | .inr a2=>some true
def gO (s0:aZ) (margin:Int):Option (aE×Bool):=
 (fA (aE.mk margin margin (aH s0.bI (cK 2 margin)) (aH s0.aY (cK 2 margin)))).bind fun r3=>some ((aE.mk margin margin (aH s0.bI (cK 2 margin)) (aH s0.aY (cK 2 margin))),r3)
def By (a:aE) (b:aE):Option (Bool):=
 ((fA a).bind fun r4=>if r4 then ((fA b).bind fun r5=>if r5 then (if (decide (b.X≤a.X)) then (if (decide ((aF a.X a.W)≤(aF b.X b.W))) then (if (decide (b.Y≤a.Y)) then (some (decide ((aF a.Y a.H)≤(aF b.Y b.H)))) else (some false)) else (some false)) else (some false)) else (some false)) else (some false)).bind fun j3=>some j3
def nA (a4:aE×Bool) (a1:(List aE)):Int→Option (Int ⊕ (Unit ⊕ Unit)):=fun a0 =>
 if (decide (a0<(a1.length:Int))) then ((idx a1 a0).bind fun a3=>(By a3 a4.1).bind fun a2=>if (!a2) then (some (.inr (.inl ()))) else (some (.inl (aF a0 1)))) else (some (.inr (.inr (()))))
def nB (s0:aZ) (a5:aE×Bool):Int→Option (Int ⊕ (Unit ⊕ Unit)):=fun a0 =>
 if (decide (a0<([s0.aT,s0.Used].length:Int))) then ((idx [s0.aT,s0.Used] a0).bind fun a1=>(aL (nA a5 a1) 0).bind fun a2=>match a2 with | .inl a3=>some (.inr (.inl ())) | .inr a4=>some (.inl (aF a0 1))) else (some (.inr (.inr (()))))
def bC (s0:aZ):Option (Int):=
 ((iN s0.Name).bind fun a7=>if a7 then ((iN s0.aW).bind fun a8=>some (!a8)) else (some true)).bind fun a1=>if a1 then (some 2) else (((Ho s0.bQ s0.bM).bind fun a9=>if a9 then ((mG s0.bI 1 1048576).bind fun b0=>if b0 then ((mG s0.aY 1 1048576).bind fun b1=>some (!b1)) else (some true)) else (some true)).bind fun a2=>if a2 then (some 1) else ((if (decide ((s0.aT.length:Int)>4)) then (some true) else (some (decide ((s0.Used.length:Int)>48)))).bind fun a3=>if a3 then (some 4) else (((nH s0.aT).bind fun b2=>if b2 then ((nH s0.Used).bind fun b3=>some (!b3)) else (some true)).bind fun a4=>if a4 then (some 1) else ((gO s0 0).bind fun b4=>(aL (nB s0 b4) 0).bind fun a0=>match a0 with | .inl a5=>some 13 | .inr a6=>some 0))))
def wK (a:aE) (b:aE):Option (Bool):=
 ((fA a).bind fun r4=>if r4 then ((fA b).bind fun r5=>if r5 then (if (decide (a.X<(aF b.X b.W))) then (if (decide (b.X<(aF a.X a.W))) then (if (decide (a.Y<(aF b.Y b.H))) then (some (decide (b.Y<(aF a.Y a.H)))) else (some false)) else (some false)) else (some false)) else (some false)) else (some false)).bind fun j3=>some j3
def rZ (a:aE) (b:aE):Option (Bool):=
 (if ((aH (fD (aF a.X a.W) (aF b.X b.W)) (imax a.X b.X))==0) then (if (decide ((aH (fD (aF a.Y a.H) (aF b.Y b.H)) (imax a.Y b.Y))>0)) then (some true) else (if ((aH (fD (aF a.Y a.H) (aF b.Y b.H)) (imax a.Y b.Y))==0) then (some (decide ((aH (fD (aF a.X a.W) (aF b.X b.W)) (imax a.X b.X))>0))) else (some false))) else (if ((aH (fD (aF a.Y a.H) (aF b.Y b.H)) (imax a.Y b.Y))==0) then (some (decide ((aH (fD (aF a.X a.W) (aF b.X b.W)) (imax a.X b.X))>0))) else (some false))).bind fun j1=>some j1
def pG (a1:Int×(List Bool)×(List Int)):((List Bool)×(List Int))→Option ((Int×(List Bool)×(List Int)) ⊕ ((List Bool)×(List Int))):=fun a0 =>
 some (.inl ((aF a1.1 1),a0.1,a0.2))
def gE (l:(List aE)) (a4:Int):(Int×(List Bool)×(List Int))→Option ((Int×(List Bool)×(List Int)) ⊕ ((List Bool)×(List Int))):=fun a0 =>
 if (decide (a0.1<(l.length:Int))) then (((idx a0.2.1 a0.1).bind fun a5=>if a5 then (some false) else ((idx l a4).bind fun a6=>(idx l a0.1).bind fun a7=>(rZ a6 a7).bind fun a3=>some a3)).bind fun a1=>if a1 then ((idx a0.2.1 a0.1).bind fun a8=>(app a0.2.2 [a0.1]).bind fun a2=>pG a0 ((List.set a0.2.1 (Int.toNat a0.1) true),a2)) else (pG a0 (a0.2.1,a0.2.2))) else (some (.inr (a0.2.1,a0.2.2)))
def iG (l:(List aE)):((List Bool)×(List Int))→Option (((List Bool)×(List Int)) ⊕ (List Bool)):=fun a0 =>
 if (decide ((a0.2.length:Int)>0)) then ((idx a0.2 0).bind fun a2=>if (decide (1≤a0.2.length)) then ((aL (gE l a2) (0,a0.1,(List.drop 1 a0.2))).bind fun a1=>some (.inl (a1.1,a1.2))) else none) else (some (.inr a0.1))
def tM (a1:(List Bool)):Int→Option (Int ⊕ (Unit ⊕ Unit)):=fun a0 =>
 if (decide (a0<(a1.length:Int))) then ((idx a1 a0).bind fun a2=>if (!a2) then (some (.inr (.inl ()))) else (some (.inl (aF a0 1)))) else (some (.inr (.inr (()))))
def oQ (l:(List aE)):Option (Bool):=
 (mk (l.length:Int) false).bind fun l2=>(idx l2 0).bind fun x4=>(aL (iG l) ((List.set l2 (Int.toNat 0) true),[0])).bind fun a0=>(aL (tM a0) 0).bind fun a1=>match a1 with | .inl a2=>some false | .inr a3=>some true
def vO (h0:aE) (l:(List aE)):Int→Option (Int ⊕ (Unit ⊕ Unit)):=fun a1 =>
 if (decide (a1<(l.length:Int))) then ((idx l a1).bind fun a0=>(if (decide (h0.X>a0.X)) then (if (decide (h0.Y>a0.Y)) then (if (decide ((aF h0.X h0.W)<(aF a0.X a0.W))) then (some (decide ((aF h0.Y h0.H)<(aF a0.Y a0.H)))) else (some false)) else (some false)) else (some false)).bind fun a2=>if a2 then (some (.inr (.inl ()))) else (some (.inl (aF a1 1)))) else (some (.inr (.inr (()))))
def As (h0:aE) (l:(List aE)):Option (Bool):=
 (aL (vO h0 l) 0).bind fun a0=>match a0 with | .inl a1=>some true | .inr a2=>some false
def Ad (a:aE) (b:aE):Option (Int):=
 ((fA a).bind fun r9=>if r9 then ((fA b).bind fun a0=>some (!a0)) else (some true)).bind fun j8=>if j8 then (some 0) else (some (imax (imax (imax (imax 0 (aH (aH b.X a.X) a.W)) (aH (aH a.X b.X) b.W)) (aH (aH b.Y a.Y) a.H)) (aH (aH a.Y b.Y) b.H)))
def yB (x0:aQ) (l6:(List aE)):Int→Option (Int ⊕ (Unit ⊕ Unit)):=fun a0 =>
 if (decide (a0<(l6.length:Int))) then ((idx l6 a0).bind fun a1=>(if (decide (a0<(x0.bU.length:Int))) then (if (a1.W==1) then (some true) else (if (a1.H==1) then (some true) else ((As a1 x0.aD).bind fun a3=>some (!a3)))) else ((As a1 x0.aD).bind fun a4=>some (!a4))).bind fun a2=>if a2 then (some (.inr (.inl ()))) else (some (.inl (aF a0 1)))) else (some (.inr (.inr (()))))
def yC (a3:aE) (a1:(List aE)):Int→Option (Int ⊕ (Unit ⊕ Unit)):=fun a0 =>
 if (decide (a0<(a1.length:Int))) then ((idx a1 a0).bind fun a4=>(Ad a3 a4).bind fun a2=>if (a2==0) then (some (.inr (.inl ()))) else (some (.inl (aF a0 1)))) else (some (.inr (.inr (()))))
def yD (l6:(List aE)):Int→Option (Int ⊕ (Unit ⊕ Unit)):=fun a0 =>
 if (decide (a0<(l6.length:Int))) then ((idx l6 a0).bind fun a2=>(slc l6 0 a0).bind fun a1=>(aL (yC a2 a1) 0).bind fun a3=>match a3 with | .inl a4=>some (.inr (.inl ())) | .inr a5=>some (.inl (aF a0 1))) else (some (.inr (.inr (()))))
def Cb (x0:aQ):Option (Int):=
 (app [] x0.bU).bind fun l5=>(app l5 x0.Forms).bind fun l6=>(aL (yB x0 l6) 0).bind fun a4=>match a4 with | .inl a5=>some 13 | .inr a1=>(aL (yD l6) 0).bind fun a0=>match a0 with | .inl a2=>some 7 | .inr a3=>some 0
def dV (x0:aQ):(Int×Int×Int)→Option ((Int×Int×Int) ⊕ (Int×Int)):=fun a0 =>
 if (decide (a0.2.2<(x0.aD.length:Int))) then ((idx x0.aD a0.2.2).bind fun a1=>some (.inl ((fD a0.1 a1.X),(fD a0.2.1 a1.Y),(aF a0.2.2 1)))) else (some (.inr (a0.1,a0.2.1)))
def mY (a3:aE) (a1:(List aE)):Int→Option (Int ⊕ (Unit ⊕ Unit)):=fun a0 =>
 if (decide (a0<(a1.length:Int))) then ((idx a1 a0).bind fun a4=>(wK a3 a4).bind fun a2=>if a2 then (some (.inr (.inl ()))) else (some (.inl (aF a0 1)))) else (some (.inr (.inr (()))))
def mZ (x0:aQ):Int→Option (Int ⊕ (Unit ⊕ Unit)):=fun a0 =>
 if (decide (a0<(x0.aD.length:Int))) then ((idx x0.aD a0).bind fun a2=>(slc x0.aD 0 a0).bind fun a1=>(aL (mY a2 a1) 0).bind fun a3=>match a3 with | .inl a4=>some (.inr (.inl ())) | .inr a5=>some (.inl (aF a0 1))) else (some (.inr (.inr (()))))
def aX (x0:aQ):Option (Int):=
 ((iN x0.Name).bind fun b0=>if b0 then ((iN x0.aW).bind fun b1=>some (!b1)) else (some true)).bind fun a4=>if a4 then (some 2) else ((Ho x0.bQ x0.bM).bind fun b2=>if (!b2) then (some 1) else ((if (decide ((x0.aD.length:Int)>12)) then (some true) else (if (decide ((x0.bU.length:Int)>12)) then (some true) else (some (decide ((x0.Forms.length:Int)>12))))).bind fun a5=>if a5 then (some 4) else ((if ((x0.aD.length:Int)==0) then (some true) else ((nH x0.aD).bind fun b3=>if b3 then ((nH x0.bU).bind fun b4=>if b4 then ((nH x0.Forms).bind fun b5=>some (!b5)) else (some true)) else (some true))).bind fun a6=>if a6 then (some 1) else ((idx x0.aD 0).bind fun b6=>(idx x0.aD 0).bind fun b7=>(aL (dV x0) (b6.X,b7.Y,0)).bind fun a3=>(if (a3.1 != 0) then (some true) else (some (a3.2 != 0))).bind fun a9=>if a9 then (some 1) else ((aL (mZ x0) 0).bind fun a2=>match a2 with | .inl a7=>some 7 | .inr a8=>(oQ x0.aD).bind fun a0=>if (!a0) then (some 6) else ((Cb x0).bind fun a1=>some a1))))))
def lC (sheets:(List aZ)):Int→Option (Int ⊕ (Int ⊕ Unit)):=fun a0 =>
 if (decide (a0<(sheets.length:Int))) then ((idx sheets a0).bind fun a2=>(bC a2).bind fun a1=>if (a1 != 0) then (some (.inr (.inl a1))) else (some (.inl (aF a0 1)))) else (some (.inr (.inr (()))))
def lD (pieces:(List aQ)):Int→Option (Int ⊕ (Int ⊕ Unit)):=fun a1 =>
 if (decide (a1<(pieces.length:Int))) then ((idx pieces a1).bind fun a2=>(aX a2).bind fun a0=>if (a0 != 0) then (some (.inr (.inl a0))) else (some (.inl (aF a1 1)))) else (some (.inr (.inr (()))))
def Hn (sheets:(List aZ)) (pieces:(List aQ)):Option (Int):=
 (if (decide ((sheets.length:Int)>4)) then (some true) else (some (decide ((pieces.length:Int)>8)))).bind fun j2=>if j2 then (some 4) else ((aL (lC sheets) 0).bind fun a4=>match a4 with | .inl a3=>some a3 | .inr a5=>(aL (lD pieces) 0).bind fun a1=>match a1 with | .inl a0=>some a0 | .inr a2=>some 0)
def Tf (s0:Ef):Int→Option (Int ⊕ (Unit ⊕ Unit)):=fun a0 =>
 if (decide (a0<([s0.X1,s0.Y1,s0.X2,s0.Y2].length:Int))) then ((idx [s0.X1,s0.Y1,s0.X2,s0.Y2] a0).bind fun a1=>(if (decide (a1<(-1048576))) then (some true) else (some (decide (a1>1048576)))).bind fun a2=>if a2 then (some (.inr (.inl ()))) else (some (.inl (aF a0 1)))) else (some (.inr (.inr (()))))
def Qi (s0:Ef):Option (Bool):=
 (aL (Tf s0) 0).bind fun a0=>match a0 with | .inl a1=>some false | .inr a2=>some true
def Ab (a1:(List aE)):Int→Option (Int ⊕ (Unit ⊕ Unit)):=fun a0 =>
 if (decide (a0<(a1.length:Int))) then ((idx a1 a0).bind fun a3=>(fA a3).bind fun a2=>if (!a2) then (some (.inr (.inl ()))) else (some (.inl (aF a0 1)))) else (some (.inr (.inr (()))))
def Ac (f:Flat):Int→Option (Int ⊕ (Unit ⊕ Unit)):=fun a0 =>
 if (decide (a0<([f.aD,f.bU,f.Forms].length:Int))) then ((idx [f.aD,f.bU,f.Forms] a0).bind fun a1=>if (decide ((a1.length:Int)>48)) then (some (.inr (.inl ()))) else ((aL (Ab a1) 0).bind fun a2=>match a2 with | .inl a3=>some (.inr (.inl ())) | .inr a4=>some (.inl (aF a0 1)))) else (some (.inr (.inr (()))))
def Je (f:Flat):Int→Option (Int ⊕ (Unit ⊕ Unit)):=fun a0 =>
 if (decide (a0<(f.sU.length:Int))) then ((idx f.sU a0).bind fun a2=>(Qi a2.Line).bind fun a1=>if (!a1) then (some (.inr (.inl ()))) else (some (.inl (aF a0 1)))) else (some (.inr (.inr (()))))
def Gx (f:Flat):Option (Int):=
 if ((f.aD.length:Int)==0) then (some 1) else ((aL (Ac f) 0).bind fun a0=>match a0 with | .inl a2=>some 1 | .inr a3=>(aL (Je f) 0).bind fun a1=>match a1 with | .inl a4=>some 1 | .inr a5=>some 0)
def Cm (r0:aE):Option (aE):=
 some (aE.mk (aH (rD r0.Y) r0.H) r0.X r0.H r0.W)
def yS (l:(List aE)):Int×(List aE)→Option (Int×(List aE) ⊕ (List aE)):=fun a0 =>
 if (decide (a0.1<(l.length:Int))) then ((idx l a0.1).bind fun a3=>(Cm a3).bind fun a2=>(app a0.2 [a2]).bind fun a1=>some (.inl ((aF a0.1 1),a1))) else (some (.inr a0.2))
def wZ (l:(List aE)):Option ((List aE)):=
 (aL (yS l) (0,[])).bind fun a0=>some a0
def Ma (s0:Ef):Option (Ef):=
 some (Ef.mk (rD s0.Y1) s0.X1 (rD s0.Y2) s0.X2)
def fM (f:Flat):Int×(List rN)→Option (Int×(List rN) ⊕ (List rN)):=fun a0 =>
 if (decide (a0.1<(f.sU.length:Int))) then ((idx f.sU a0.1).bind fun a1=>(Ma a1.Line).bind fun a3=>(app a0.2 [(rN.mk a1.CY a1.CZ a3 a1.KJ a1.CX)]).bind fun a2=>some (.inl ((aF a0.1 1),a2))) else (some (.inr a0.2))
def gI (f:Flat):Option (Flat):=
 (wZ f.aD).bind fun r7=>(wZ f.bU).bind fun r8=>(wZ f.Forms).bind fun r9=>(aL (fM f) (0,[])).bind fun a0=>some (Flat.mk r7 r8 r9 a0)
def Gc (f:Flat):Option (Flat):=
 (gI f).bind fun r2=>some r2
def xW (a2:(List aE)):(Int×Int×Int×Int×Int)→Option ((Int×Int×Int×Int×Int) ⊕ (Int×Int×Int×Int)):=fun a0 =>
 if (decide (a0.1<(a2.length:Int))) then ((idx a2 a0.1).bind fun a1=>some (.inl ((aF a0.1 1),(fD a0.2.1 a1.X),(fD a0.2.2.1 a1.Y),(aH (imax (aF a0.2.1 a0.2.2.2.1) (aF a1.X a1.W)) (fD a0.2.1 a1.X)),(aH (imax (aF a0.2.2.1 a0.2.2.2.2) (aF a1.Y a1.H)) (fD a0.2.2.1 a1.Y))))) else (some (.inr (a0.2.1,a0.2.2.1,a0.2.2.2.1,a0.2.2.2.2)))
def Im (l:(List aE)):Option (aE×Int×Int×Int×Int):=
 (idx l 0).bind fun x2=>(slc l 1 (l.length:Int)).bind fun a1=>(aL (xW a1) (0,x2.X,x2.Y,x2.W,x2.H)).bind fun a0=>some ((aE.mk a0.1 a0.2.1 a0.2.2.1 a0.2.2.2),a0.1,a0.2.1,a0.2.2.1,a0.2.2.2)
def Gy (r0:aE) (a_0:Int) (a_1:Int) (a_2:Int) (a_3:Int):Option (aE):=
 some (aE.mk (aH r0.X a_0) (aH r0.Y a_1) r0.W r0.H)
def xK (l:(List aE)) (a_0_0_0:Int) (a_0_0_1:Int) (a_0_0_2:Int) (a_0_0_3:Int):Int×(List aE)→Option (Int×(List aE) ⊕ (List aE)):=fun a0 =>
 if (decide (a0.1<(l.length:Int))) then ((idx l a0.1).bind fun a3=>(Gy a3 a_0_0_0 a_0_0_1 a_0_0_2 a_0_0_3).bind fun a2=>(app a0.2 [a2]).bind fun a1=>some (.inl ((aF a0.1 1),a1))) else (some (.inr a0.2))
def vD (l:(List aE)) (a_0_0_0:Int) (a_0_0_1:Int) (a_0_0_2:Int) (a_0_0_3:Int):Option ((List aE)):=
 (aL (xK l a_0_0_0 a_0_0_1 a_0_0_2 a_0_0_3) (0,[])).bind fun a0=>some a0
def Mb (s0:Ef) (a_0:Int) (a_1:Int) (a_2:Int) (a_3:Int):Option (Ef):=
 some (Ef.mk (aH s0.X1 a_0) (aH s0.Y1 a_1) (aH s0.X2 a_0) (aH s0.Y2 a_1))
def fN (f:Flat) (line_0_0:Int) (line_0_1:Int) (line_0_2:Int) (line_0_3:Int):Int×(List rN)→Option (Int×(List rN) ⊕ (List rN)):=fun a0 =>
 if (decide (a0.1<(f.sU.length:Int))) then ((idx f.sU a0.1).bind fun a1=>(Mb a1.Line line_0_0 line_0_1 line_0_2 line_0_3).bind fun a3=>(app a0.2 [(rN.mk a1.CY a1.CZ a3 a1.KJ a1.CX)]).bind fun a2=>some (.inl ((aF a0.1 1),a2))) else (some (.inr a0.2))
def gJ (f:Flat) (rect_0_0:Int) (rect_0_1:Int) (rect_0_2:Int) (rect_0_3:Int) (line_0_0:Int) (line_0_1:Int) (line_0_2:Int) (line_0_3:Int):Option (Flat):=
 (vD f.aD rect_0_0 rect_0_1 rect_0_2 rect_0_3).bind fun r7=>(vD f.bU rect_0_0 rect_0_1 rect_0_2 rect_0_3).bind fun r8=>(vD f.Forms rect_0_0 rect_0_1 rect_0_2 rect_0_3).bind fun r9=>(aL (fN f line_0_0 line_0_1 line_0_2 line_0_3) (0,[])).bind fun a0=>some (Flat.mk r7 r8 r9 a0)
def Gd (f:Flat):Option (Flat×Int):=
 (Im f.aD).bind fun r2=>(gJ f r2.1.X r2.1.Y r2.1.W r2.1.H r2.1.X r2.1.Y r2.1.W r2.1.H).bind fun r4=>(Gx r4).bind fun r8=>if (r8 != 0) then (some ((Flat.mk [] [] [] []),4)) else (some (r4,0))
def wQ (turns:Int):(Int×(List aE)×(List aE)×(List aE)×(List rN))→Option ((Int×(List aE)×(List aE)×(List aE)×(List rN)) ⊕ ((List aE)×(List aE)×(List aE)×(List rN))):=fun a0 =>
 if (decide (a0.1<turns)) then ((Gc (Flat.mk a0.2.1 a0.2.2.1 a0.2.2.2.1 a0.2.2.2.2)).bind fun a1=>some (.inl ((aF a0.1 1),a1.aD,a1.bU,a1.Forms,a1.sU))) else (some (.inr (a0.2.1,a0.2.2.1,a0.2.2.2.1,a0.2.2.2.2)))
def Fq (f:Flat):Unit→Option (Unit ⊕ Unit):=fun a0 =>
 if (decide (0<(f.sU.length:Int))) then (none) else (some (.inr ()))
def Ck (f:Flat) (turns:Int):Option (Flat×Int):=
 (Gx f).bind fun r5=>(if (r5 != 0) then (some true) else (if (decide (turns<0)) then (some true) else (some (decide (turns>3))))).bind fun j6=>if j6 then (some ((Flat.mk [] [] [] []),1)) else ((aL (wQ turns) (0,f.aD,f.bU,f.Forms,f.sU)).bind fun a0=>(aL (Fq f) ()).bind fun a2=>(Gd (Flat.mk a0.1 a0.2.1 a0.2.2.1 a0.2.2.2)).bind fun a1=>some (a1.1,a1.2))
def nZ (l:(List aE)) (x1:Int) (y:Int) (l2:(List aE)):Int×(List aE)→Option (Int×(List aE) ⊕ (List aE)):=fun a0 =>
 if (decide (a0.1<((cpy l2 (0) (List.take (min l.length (l2.length)) l)).length:Int))) then ((idx a0.2 a0.1).bind fun a4=>(idx a0.2 a0.1).bind fun a1=>(idx (List.set a0.2 (Int.toNat a0.1) (aE.mk (aF a4.X x1) a1.Y a1.W a1.H)) a0.1).bind fun a3=>(idx (List.set a0.2 (Int.toNat a0.1) (aE.mk (aF a4.X x1) a1.Y a1.W a1.H)) a0.1).bind fun a2=>some (.inl ((aF a0.1 1),(List.set (List.set a0.2 (Int.toNat a0.1) (aE.mk (aF a4.X x1) a1.Y a1.W a1.H)) (Int.toNat a0.1) (aE.mk a2.X (aF a3.Y y) a2.W a2.H))))) else (some (.inr a0.2))
def uF (l:(List aE)) (x1:Int) (y:Int):Option ((List aE)):=
 (mk (l.length:Int) (aE.mk 0 0 0 0)).bind fun l2=>(aL (nZ l x1 y l2) (0,(cpy l2 (0) (List.take (min l.length (l2.length)) l)))).bind fun a0=>some a0
def vN (x0:aQ) (at1:aS):Option (aQ×Int×ByteArray×ByteArray×Int×Int):=
 (Ck (Flat.mk x0.aD x0.bU x0.Forms []) at1.zK).bind fun r2=>if (r2.2 != 0) then (some ((aQ.mk ByteArray.empty ByteArray.empty 0 0 [] [] []),4,ByteArray.empty,ByteArray.empty,0,0)) else ((uF r2.1.aD at1.X at1.Y).bind fun r9=>(uF r2.1.bU at1.X at1.Y).bind fun a0=>(uF r2.1.Forms at1.X at1.Y).bind fun a1=>((nH r9).bind fun a3=>if a3 then ((nH a0).bind fun a4=>if a4 then ((nH a1).bind fun a5=>some (!a5)) else (some true)) else (some true)).bind fun a2=>if a2 then (some ((aQ.mk ByteArray.empty ByteArray.empty 0 0 [] [] []),4,ByteArray.empty,ByteArray.empty,0,0)) else (some ((aQ.mk x0.Name x0.aW x0.bQ x0.bM r9 a0 a1),0,x0.Name,x0.aW,x0.bQ,x0.bM)))
def lM (x0:aQ) (at1:aS):Option (aQ×Int×ByteArray×ByteArray×Int×Int):=
 (aX x0).bind fun r4=>if (r4 != 0) then (some ((aQ.mk ByteArray.empty ByteArray.empty 0 0 [] [] []),r4,ByteArray.empty,ByteArray.empty,0,0)) else ((mG at1.zK 0 3).bind fun r8=>if (!r8) then (some ((aQ.mk ByteArray.empty ByteArray.empty 0 0 [] [] []),1,ByteArray.empty,ByteArray.empty,0,0)) else (((mG at1.X (-1048576) 1048576).bind fun a2=>if a2 then ((mG at1.Y (-1048576) 1048576).bind fun a3=>some (!a3)) else (some true)).bind fun a1=>if a1 then (some ((aQ.mk ByteArray.empty ByteArray.empty 0 0 [] [] []),4,ByteArray.empty,ByteArray.empty,0,0)) else ((vN x0 at1).bind fun a0=>some ((aQ.mk a0.1.Name a0.1.aW a0.1.bQ a0.1.bM a0.1.aD a0.1.bU a0.1.Forms),a0.2.1,a0.1.Name,a0.1.aW,a0.1.bQ,a0.1.bM))))
def kA (x0:aQ) (s1:aZ) (turn:Int):Option (Bool):=
 (if (x0.aW.toList==s1.aW.toList) then (if (x0.bQ != s1.bQ) then (some true) else ((mG turn 0 3).bind fun r6=>some (!r6))) else (some true)).bind fun j5=>if j5 then (some false) else ((if (x0.bM==0) then (some true) else (if (s1.bM==0) then (some true) else (some ((x0.bM==s1.bM)==((Int.tmod turn 2)==0))))).bind fun j7=>some j7)
def vJ (b:(List aE)) (a2:aE):Int→Option (Int ⊕ (Unit ⊕ Unit)):=fun a0 =>
 if (decide (a0<(b.length:Int))) then ((idx b a0).bind fun a3=>(wK a2 a3).bind fun a1=>if a1 then (some (.inr (.inl ()))) else (some (.inl (aF a0 1)))) else (some (.inr (.inr (()))))
def vL (a:(List aE)) (b:(List aE)):Int→Option (Int ⊕ (Unit ⊕ Unit)):=fun a0 =>
 if (decide (a0<(a.length:Int))) then ((idx a a0).bind fun a1=>(aL (vJ b a1) 0).bind fun a2=>match a2 with | .inl a3=>some (.inr (.inl ())) | .inr a4=>some (.inl (aF a0 1))) else (some (.inr (.inr (()))))
def lE (a:(List aE)) (b:(List aE)):Option (Bool):=
 (aL (vL a b) 0).bind fun a0=>match a0 with | .inl a1=>some true | .inr a2=>some false
def vH (x0:aQ) (r2:aE×Bool):Int→Option (Int ⊕ (Unit ⊕ Unit)):=fun a0 =>
 if (decide (a0<(x0.aD.length:Int))) then ((idx x0.aD a0).bind fun a2=>(By a2 r2.1).bind fun a1=>if (!a1) then (some (.inr (.inl ()))) else (some (.inl (aF a0 1)))) else (some (.inr (.inr (()))))
def Ap (x0:aQ) (s1:aZ) (set2:bK) (turn:Int):Option (Bool):=
 (gO s1 set2.bF).bind fun r2=>(if r2.2 then ((kA x0 s1 turn).bind fun r8=>some (!r8)) else (some true)).bind fun j7=>if j7 then (some false) else ((aL (vH x0 r2) 0).bind fun a3=>match a3 with | .inl a4=>some false | .inr a5=>((lE x0.aD s1.aT).bind fun a1=>if a1 then (some false) else ((lE x0.aD s1.Used).bind fun a2=>some (!a2))).bind fun a0=>some a0)
def Am (b:(List aE)) (set2:bK) (a3:aE):(Int×Bool)→Option ((Int×Bool) ⊕ (Unit ⊕ Bool)):=fun a0 =>
 if (decide (a0.1<(b.length:Int))) then ((idx b a0.1).bind fun a4=>(Ad a3 a4).bind fun a2=>((wK a3 a4).bind fun a5=>if a5 then (some (true,a0.2)) else (if (decide (a2<set2.Gap)) then (if a0.2 then (some ((!(a2==0)),true)) else (some (true,false))) else (some (false,a0.2)))).bind fun a1=>if a1.1 then (some (.inr (.inl ()))) else (some (.inl ((aF a0.1 1),a1.2)))) else (some (.inr (.inr a0.2)))
def Ao (a:(List aE)) (b:(List aE)) (set2:bK):(Int×Bool)→Option ((Int×Bool) ⊕ (Unit ⊕ Unit)):=fun a0 =>
 if (decide (a0.1<(a.length:Int))) then ((idx a a0.1).bind fun a2=>(aL (Am b set2 a2) (0,a0.2)).bind fun a3=>match a3 with | .inl a4=>some (.inr (.inl ())) | .inr a1=>some (.inl ((aF a0.1 1),a1))) else (some (.inr (.inr (()))))
def Kw (a:(List aE)) (b:(List aE)) (set2:bK):Option (Bool):=
 (aL (Ao a b set2) (0,set2.jS)).bind fun a0=>match a0 with | .inl a1=>some false | .inr a2=>some true
def Ak (a2:aS) (a1:(List aS)):Int→Option (Int ⊕ (Unit ⊕ Unit)):=fun a0 =>
 if (decide (a0<(a1.length:Int))) then ((idx a1 a0).bind fun a3=>if (a3.aQ==a2.aQ) then (some (.inr (.inl ()))) else (some (.inl (aF a0 1)))) else (some (.inr (.inr (()))))
def Al (set2:bK) (a5:Int×(List aQ)) (a6:aS) (a3:aQ×Int×ByteArray×ByteArray×Int×Int) (a1:(List aS)):Int→Option (Int ⊕ (Unit ⊕ Unit)):=fun a0 =>
 if (decide (a0<(a1.length:Int))) then ((idx a1 a0).bind fun a7=>(if (a7.aZ==a6.aZ) then ((idx a5.2 a0).bind fun a8=>(Kw a3.1.aD a8.aD set2).bind fun a4=>some (!a4)) else (some false)).bind fun a2=>if a2 then (some (.inr (.inl ()))) else (some (.inl (aF a0 1)))) else (some (.inr (.inr (()))))
def uD (sheets:(List aZ)) (pieces:(List aQ)) (set2:bK) (l:(List aS)):Int×(List aQ)→Option (Int×(List aQ) ⊕ ((Int×Int) ⊕ Unit)):=fun a1 =>
 if (decide (a1.1<(l.length:Int))) then ((idx l a1.1).bind fun a2=>((mG a2.aQ 0 (aH (pieces.length:Int) 1)).bind fun a7=>if a7 then ((mG a2.aZ 0 (aH (sheets.length:Int) 1)).bind fun a8=>some (!a8)) else (some true)).bind fun a3=>if a3 then (some (.inr (.inl (a1.1,1)))) else ((idx pieces a2.aQ).bind fun b0=>(lM b0 a2).bind fun a0=>if (a0.2.1 != 0) then (some (.inr (.inl (a1.1,1)))) else ((slc l 0 a1.1).bind fun a4=>(aL (Ak a2 a4) 0).bind fun b1=>match b1 with | .inl b4=>some (.inr (.inl (a1.1,12))) | .inr b5=>(idx sheets a2.aZ).bind fun b2=>(Ap (aQ.mk a0.1.Name a0.1.aW a0.1.bQ a0.1.bM a0.1.aD a0.1.bU a0.1.Forms) b2 set2 a2.zK).bind fun a9=>if (!a9) then (some (.inr (.inl (a1.1,13)))) else ((slc l 0 a1.1).bind fun a5=>(aL (Al set2 a1 a2 a0 a5) 0).bind fun b3=>match b3 with | .inl b6=>some (.inr (.inl (a1.1,7))) | .inr b7=>(app a1.2 [(aQ.mk a0.1.Name a0.1.aW a0.1.bQ a0.1.bM a0.1.aD a0.1.bU a0.1.Forms)]).bind fun a6=>some (.inl ((aF a1.1 1),a6)))))) else (some (.inr (.inr (()))))
def Kv (sheets:(List aZ)) (pieces:(List aQ)) (set2:bK) (l:(List aS)):Option (Int×Int):=
 (Hn sheets pieces).bind fun r4=>if (r4 != 0) then (some (0,r4)) else ((cN set2).bind fun r8=>if (!r8) then (some (0,1)) else ((aL (uD sheets pieces set2 l) (0,[])).bind fun a1=>match a1 with | .inl a0=>some (a0.1,a0.2) | .inr a2=>some (0,0)))
def rS (taken:(List (List aE))):Int→Option (Int ⊕ (Unit ⊕ Unit)):=fun a0 =>
 if (decide (a0<(taken.length:Int))) then ((idx taken a0).bind fun a1=>if (decide ((a1.length:Int)>12)) then (some (.inr (.inl ()))) else (some (.inl (aF a0 1)))) else (some (.inr (.inr (()))))
def rU (taken:(List (List aE))):Int→Option (Int ⊕ (Unit ⊕ Unit)):=fun a0 =>
 if (decide (a0<(taken.length:Int))) then ((idx taken a0).bind fun a2=>(nH a2).bind fun a1=>if (!a1) then (some (.inr (.inl ()))) else (some (.inl (aF a0 1)))) else (some (.inr (.inr (()))))
def Bk (taken:(List (List aE))):Option (Int):=
 if (decide ((taken.length:Int)>8)) then (some 4) else ((aL (rS taken) 0).bind fun a0=>match a0 with | .inl a2=>some 4 | .inr a3=>(aL (rU taken) 0).bind fun a1=>match a1 with | .inl a4=>some 1 | .inr a5=>some 0)
def pT (a1:(List aE)):Int×(List aR)→Option (Int×(List aR) ⊕ (List aR)):=fun a0 =>
 if (decide (a0.1<(a1.length:Int))) then ((idx a1 a0.1).bind fun a3=>(app a0.2 [(aR.mk a3 0 false)]).bind fun a2=>some (.inl ((aF a0.1 1),a2))) else (some (.inr a0.2))
def iB (s0:aZ):Int×(List aR)→Option (Int×(List aR) ⊕ (List aR)):=fun a0 =>
 if (decide (a0.1<([s0.aT,s0.Used].length:Int))) then ((idx [s0.aT,s0.Used] a0.1).bind fun a1=>(aL (pT a1) (0,a0.2)).bind fun a2=>some (.inl ((aF a0.1 1),a2))) else (some (.inr a0.2))
def uY (a1:Int×(List aR)):(List aR)→Option (Int×(List aR) ⊕ (List aR)):=fun a0 =>
 some (.inl ((aF a1.1 1),a0))
def pU (set2:bK) (a1:(List aE)):Int×(List aR)→Option (Int×(List aR) ⊕ (List aR)):=fun a0 =>
 if (decide (a0.1<(a1.length:Int))) then ((idx a1 a0.1).bind fun a2=>(fA a2).bind fun a4=>if a4 then ((app a0.2 [(aR.mk a2 set2.Gap set2.jS)]).bind fun a3=>uY a0 a3) else (uY a0 a0.2)) else (some (.inr a0.2))
def uZ (taken:(List (List aE))) (set2:bK):Int×(List aR)→Option (Int×(List aR) ⊕ (List aR)):=fun a0 =>
 if (decide (a0.1<(taken.length:Int))) then ((idx taken a0.1).bind fun a1=>(aL (pU set2 a1) (0,a0.2)).bind fun a2=>some (.inl ((aF a0.1 1),a2))) else (some (.inr a0.2))
def yY (s0:aZ) (taken:(List (List aE))) (set2:bK):Option ((List aR)):=
 (aL (iB s0) (0,[])).bind fun a0=>(aL (uZ taken set2) (0,a0)).bind fun a1=>some a1
def Jb:(Int×Int)→Option (Int):=fun j3 =>
 (Mu (ByteArray.mk #[0,1,2,2,3,3,3,3,4,4,4,4,4,4,4,4,5,5,5,5,5,5,5,5,5,5,5,5,5,5,5,5,6,6,6,6,6,6,6,6,6,6,6,6,6,6,6,6,6,6,6,6,6,6,6,6,6,6,6,6,6,6,6,6,7,7,7,7,7,7,7,7,7,7,7,7,7,7,7,7,7,7,7,7,7,7,7,7,7,7,7,7,7,7,7,7,7,7,7,7,7,7,7,7,7,7,7,7,7,7,7,7,7,7,7,7,7,7,7,7,7,7,7,7,7,7,7,7,8,8,8,8,8,8,8,8,8,8,8,8,8,8,8,8,8,8,8,8,8,8,8,8,8,8,8,8,8,8,8,8,8,8,8,8,8,8,8,8,8,8,8,8,8,8,8,8,8,8,8,8,8,8,8,8,8,8,8,8,8,8,8,8,8,8,8,8,8,8,8,8,8,8,8,8,8,8,8,8,8,8,8,8,8,8,8,8,8,8,8,8,8,8,8,8,8,8,8,8,8,8,8,8,8,8,8,8,8,8,8,8,8,8,8,8,8,8,8,8,8,8,8,8,8,8,8,8]) (IntKind.wrap .u8 j3.1)).bind fun x5=>some (aF j3.2 (IntKind.wrap .i64 x5))
def Jc:(Int×Int)→Option (Int):=fun j2 =>
 if (decide (j2.1 ≥ 256)) then (Jb ((Int.fdiv j2.1 (2^(min (Int.toNat 8) 64))),(aF j2.2 8))) else (Jb (j2.1,j2.2))
def Jd:(Int×Int)→Option (Int):=fun j1 =>
 if (decide (j1.1 ≥ 65536)) then (Jc ((Int.fdiv j1.1 (2^(min (Int.toNat 16) 64))),(aF j1.2 16))) else (Jc (j1.1,j1.2))
def Uv (x0:Int):Option (Int):=
 if (decide (x0 ≥ 4294967296)) then (Jd ((Int.fdiv x0 (2^(min (Int.toNat 32) 64))),32)) else (Jd (x0,0))
def Lv (x0:Int):Option (Int):=
 (Uv x0).bind fun r2=>some r2
def uA (x0:Int):Option (Bool):=
 some (x0 != x0)
def eC (x0:Int) (y:Int):Option (Bool):=
 ((uA x0).bind fun r4=>if r4 then ((uA y).bind fun r5=>if r5 then (some (decide (x0<y))) else (some true)) else (some (decide (x0<y)))).bind fun j3=>some j3
def Bq (a:Int):Int×(List Int)→Option (Int×(List Int) ⊕ (List Int)):=fun a0 =>
 (if (decide (a0.1>a)) then ((idx a0.2 a0.1).bind fun a4=>(idx a0.2 (aH a0.1 1)).bind fun a5=>(eC a4 a5).bind fun a3=>some a3) else (some false)).bind fun a2=>if a2 then ((idx a0.2 (aH a0.1 1)).bind fun a1=>(idx a0.2 a0.1).bind fun a6=>(idx a0.2 a0.1).bind fun a7=>(idx (List.set a0.2 (Int.toNat a0.1) a1) (aH a0.1 1)).bind fun a8=>some (.inl ((aH a0.1 1),(List.set (List.set a0.2 (Int.toNat a0.1) a1) (Int.toNat (aH a0.1 1)) a6)))) else (some (.inr a0.2))
def Bs (a:Int) (b:Int):Int×(List Int)→Option (Int×(List Int) ⊕ (List Int)):=fun a0 =>
 if (decide (a0.1<b)) then ((aL (Bq a) (a0.1,a0.2)).bind fun a1=>some (.inl ((aF a0.1 1),a1))) else (some (.inr a0.2))
def uR (a:Int) (b:Int) (h0:(List Int)):Option ((List Int)):=
 (aL (Bs a b) ((aF a 1),h0)).bind fun a0=>some a0
def oX (first:Int) (a0:Int×(List Int)):Int→Option (Int×(List Int) ⊕ ((List Int) ⊕ (List Int))):=fun a1 =>
 (idx a0.2 (aF first a0.1)).bind fun a4=>(idx a0.2 (aF first a1)).bind fun a5=>(eC a4 a5).bind fun a3=>if (!a3) then (some (.inr (.inr a0.2))) else ((idx a0.2 (aF first a1)).bind fun a2=>(idx a0.2 (aF first a0.1)).bind fun a6=>(idx a0.2 (aF first a0.1)).bind fun a7=>(idx (List.set a0.2 (Int.toNat (aF first a0.1)) a2) (aF first a1)).bind fun a8=>some (.inl (a1,(List.set (List.set a0.2 (Int.toNat (aF first a0.1)) a2) (Int.toNat (aF first a1)) a6))))
def Fo (hi:Int) (first:Int):Int×(List Int)→Option (Int×(List Int) ⊕ ((List Int) ⊕ (List Int))):=fun a0 =>
 if (decide ((aF (cK 2 a0.1) 1) ≥ hi)) then (some (.inr (.inl a0.2))) else ((if (decide ((aF (aF (cK 2 a0.1) 1) 1)<hi)) then ((idx a0.2 (aF first (aF (cK 2 a0.1) 1))).bind fun a3=>(idx a0.2 (aF (aF first (aF (cK 2 a0.1) 1)) 1)).bind fun a4=>(eC a3 a4).bind fun a2=>some a2) else (some false)).bind fun a1=>if a1 then (oX first a0 (aF (aF (cK 2 a0.1) 1) 1)) else (oX first a0 (aF (cK 2 a0.1) 1)))
def sJ (lo:Int) (hi:Int) (first:Int) (h0:(List Int)):Option ((List Int)):=
 (aL (Fo hi first) (lo,h0)).bind fun a2=>match a2 with | .inl a0=>some a0 | .inr a1=>some a1
def Fk (a:Int) (b:Int):Int×(List Int)→Option (Int×(List Int) ⊕ (List Int)):=fun a0 =>
 if (decide (a0.1 ≥ 0)) then ((sJ a0.1 (aH b a) a a0.2).bind fun a1=>some (.inl ((aH a0.1 1),a1))) else (some (.inr a0.2))
def Fl (a:Int):Int×(List Int)→Option (Int×(List Int) ⊕ (List Int)):=fun a0 =>
 if (decide (a0.1 ≥ 0)) then ((idx a0.2 (aF a a0.1)).bind fun a1=>(idx a0.2 a).bind fun a3=>(idx a0.2 a).bind fun a4=>(idx (List.set a0.2 (Int.toNat a) a1) (aF a a0.1)).bind fun a5=>(sJ 0 a0.1 a (List.set (List.set a0.2 (Int.toNat a) a1) (Int.toNat (aF a a0.1)) a3)).bind fun a2=>some (.inl ((aH a0.1 1),a2))) else (some (.inr a0.2))
def yP (a:Int) (b:Int) (h0:(List Int)):Option ((List Int)):=
 (aL (Fk a b) ((jT (aH (aH b a) 1) 2),h0)).bind fun a1=>(aL (Fl a) ((aH (aH b a) 1),a1)).bind fun a0=>some a0
def sQ (length:Int):Option (Int):=
 (Lv (IntKind.wrap .u64 length)).bind fun r2=>if (decide (0≤r2)) then (some (IntKind.wrap .u64 (1*2^(min (Int.toNat r2) 64)))) else none
def tY (h0_0:Int):Option (Int):=
 some (eT .u64 (eT .u64 (eT .u64 h0_0 (IntKind.wrap .u64 (h0_0*2^(min (Int.toNat 13) 64)))) (Int.fdiv (eT .u64 h0_0 (IntKind.wrap .u64 (h0_0*2^(min (Int.toNat 13) 64)))) (2^(min (Int.toNat 7) 64)))) (IntKind.wrap .u64 ((eT .u64 (eT .u64 h0_0 (IntKind.wrap .u64 (h0_0*2^(min (Int.toNat 13) 64)))) (Int.fdiv (eT .u64 h0_0 (IntKind.wrap .u64 (h0_0*2^(min (Int.toNat 13) 64)))) (2^(min (Int.toNat 7) 64))))*2^(min (Int.toNat 17) 64))))
def kG (a:Int) (a0:Int×Int×(List Int)):Int→Option (Int×Int×(List Int) ⊕ (List Int)):=fun a1 =>
 (idx a0.2.2 (aF a a1)).bind fun a2=>(idx a0.2.2 a0.1).bind fun a3=>(idx a0.2.2 a0.1).bind fun a4=>(idx (List.set a0.2.2 (Int.toNat a0.1) a2) (aF a a1)).bind fun a5=>some (.inl ((aF a0.1 1),(eT .u64 (eT .u64 (eT .u64 a0.2.1 (IntKind.wrap .u64 (a0.2.1*2^(min (Int.toNat 13) 64)))) (Int.fdiv (eT .u64 a0.2.1 (IntKind.wrap .u64 (a0.2.1*2^(min (Int.toNat 13) 64)))) (2^(min (Int.toNat 7) 64)))) (IntKind.wrap .u64 ((eT .u64 (eT .u64 a0.2.1 (IntKind.wrap .u64 (a0.2.1*2^(min (Int.toNat 13) 64)))) (Int.fdiv (eT .u64 a0.2.1 (IntKind.wrap .u64 (a0.2.1*2^(min (Int.toNat 13) 64)))) (2^(min (Int.toNat 7) 64))))*2^(min (Int.toNat 17) 64)))),(List.set (List.set a0.2.2 (Int.toNat a0.1) a2) (Int.toNat (aF a a1)) a3)))
def Bo (a:Int) (b:Int) (r2:Int):Int×Int×(List Int)→Option (Int×Int×(List Int) ⊕ (List Int)):=fun a0 =>
 if (decide (a0.1≤(aF (aF a (cK (jT (aH b a) 4) 2)) 1))) then ((tY a0.2.1).bind fun a1=>if (decide ((IntKind.wrap .i64 (Gj .u64 a1 (IntKind.wrap .u64 (r2-1)))) ≥ (aH b a))) then (kG a a0 (aH (IntKind.wrap .i64 (Gj .u64 a1 (IntKind.wrap .u64 (r2-1)))) (aH b a))) else (kG a a0 (IntKind.wrap .i64 (Gj .u64 a1 (IntKind.wrap .u64 (r2-1)))))) else (some (.inr a0.2.2))
def uQ (a:Int) (b:Int) (h0:(List Int)):Option ((List Int)):=
 if (decide ((aH b a) ≥ 8)) then ((sQ (aH b a)).bind fun r2=>(aL (Bo a b r2) ((aH (aF a (cK (jT (aH b a) 4) 2)) 1),(IntKind.wrap .u64 (aH b a)),h0)).bind fun a0=>some a0) else (some h0)
def oH (data:(List Int)) (a:Int) (b:Int) (h0_0:Int):Option (Int×Int×Int):=
 (idx data b).bind fun a1=>(idx data a).bind fun a2=>(eC a1 a2).bind fun a0=>if a0 then (some (b,a,(aF h0_0 1))) else (some (a,b,h0_0))
def uN (data:(List Int)) (a:Int) (b:Int) (c:Int) (h0_0:Int):Option (Int×Int):=
 (oH data a b h0_0).bind fun r2=>(oH data r2.2.1 c r2.2.2).bind fun r4=>(oH data r2.1 r4.1 r4.2.2).bind fun r6=>some (r6.2.1,r6.2.2)
def iI (data:(List Int)) (a:Int) (h0_0:Int):Option (Int×Int):=
 (uN data (aH a 1) a (aF a 1) h0_0).bind fun r2=>some (r2.1,r2.2)
def lY:(Int×Int)→Option (Int×Int):=fun a0 =>
 if (a0.2==0) then (some (a0.1,1)) else (if (a0.2==12) then (some (a0.1,2)) else (some (a0.1,0)))
def lZ (data:(List Int)):(Int×Int×Int×Int)→Option (Int×Int):=fun a0 =>
 (uN data a0.1 a0.2.1 a0.2.2.1 a0.2.2.2).bind fun a1=>lY (a1.1,a1.2)
def wD (data:(List Int)) (a:Int) (b:Int):Option (Int×Int):=
 if (decide ((aH b a) ≥ 8)) then (if (decide ((aH b a) ≥ 50)) then ((iI data (aF a (cK (jT (aH b a) 4) 1)) 0).bind fun a0=>(iI data (aF a (cK (jT (aH b a) 4) 2)) a0.2).bind fun a1=>(iI data (aF a (cK (jT (aH b a) 4) 3)) a1.2).bind fun a2=>lZ data (a0.1,a1.1,a2.1,a2.2)) else (lZ data ((aF a (cK (jT (aH b a) 4) 1)),(aF a (cK (jT (aH b a) 4) 2)),(aF a (cK (jT (aH b a) 4) 3)),0))) else (lY ((aF a (cK (jT (aH b a) 4) 2)),0))
def Cf:Int×Int×(List Int)→Option (Int×Int×(List Int) ⊕ (List Int)):=fun a0 =>
 if (decide (a0.1<a0.2.1)) then ((idx a0.2.2 a0.2.1).bind fun a1=>(idx a0.2.2 a0.1).bind fun a2=>(idx a0.2.2 a0.1).bind fun a3=>(idx (List.set a0.2.2 (Int.toNat a0.1) a1) a0.2.1).bind fun a4=>some (.inl ((aF a0.1 1),(aH a0.2.1 1),(List.set (List.set a0.2.2 (Int.toNat a0.1) a1) (Int.toNat a0.2.1) a2)))) else (some (.inr a0.2.2))
def vW (a:Int) (b:Int) (h0:(List Int)):Option ((List Int)):=
 (aL (Cf) (a,(aH b 1),h0)).bind fun a0=>some a0
def gX (a1:Int×Int×(List Int)):Int×(List Int)→Option (Int×Int×(List Int) ⊕ (Bool×(List Int) ⊕ (List Int))):=fun a0 =>
 some (.inl (a0.1,(aF a1.2.1 1),a0.2))
def wT (b:Int) (a1:Int×Int×(List Int)):Int→Option (Int ⊕ Int):=fun a0 =>
 (if (decide (a0<b)) then ((idx a1.2.2 a0).bind fun a4=>(idx a1.2.2 (aH a0 1)).bind fun a5=>(eC a4 a5).bind fun a3=>some (!a3)) else (some false)).bind fun a2=>if a2 then (some (.inl (aF a0 1))) else (some (.inr a0))
def wU (b:Int):Int×(List Int)→Option (Int×(List Int) ⊕ (List Int)):=fun a0 =>
 if (decide (a0.1<b)) then ((idx a0.2 a0.1).bind fun a3=>(idx a0.2 (aH a0.1 1)).bind fun a4=>(eC a3 a4).bind fun a2=>if (!a2) then (some (.inr a0.2)) else ((idx a0.2 (aH a0.1 1)).bind fun a1=>(idx a0.2 a0.1).bind fun a5=>(idx a0.2 a0.1).bind fun a6=>(idx (List.set a0.2 (Int.toNat a0.1) a1) (aH a0.1 1)).bind fun a7=>some (.inl ((aF a0.1 1),(List.set (List.set a0.2 (Int.toNat a0.1) a1) (Int.toNat (aH a0.1 1)) a5))))) else (some (.inr a0.2))
def gY (b:Int) (a2:Int×Int×(List Int)) (a0:Int):(List Int)→Option (Int×Int×(List Int) ⊕ (Bool×(List Int) ⊕ (List Int))):=fun a1 =>
 if (decide ((aH b a0) ≥ 2)) then ((aL (wU b) ((aF a0 1),a1)).bind fun a3=>gX a2 (a0,a3)) else (gX a2 (a0,a1))
def wV:Int×(List Int)→Option (Int×(List Int) ⊕ (List Int)):=fun a0 =>
 if (decide (a0.1 ≥ 1)) then ((idx a0.2 a0.1).bind fun a3=>(idx a0.2 (aH a0.1 1)).bind fun a4=>(eC a3 a4).bind fun a2=>if (!a2) then (some (.inr a0.2)) else ((idx a0.2 (aH a0.1 1)).bind fun a1=>(idx a0.2 a0.1).bind fun a5=>(idx a0.2 a0.1).bind fun a6=>(idx (List.set a0.2 (Int.toNat a0.1) a1) (aH a0.1 1)).bind fun a7=>some (.inl ((aH a0.1 1),(List.set (List.set a0.2 (Int.toNat a0.1) a1) (Int.toNat (aH a0.1 1)) a5))))) else (some (.inr a0.2))
def wX (a:Int) (b:Int):Int×Int×(List Int)→Option (Int×Int×(List Int) ⊕ (Bool×(List Int) ⊕ (List Int))):=fun a0 =>
 if (decide (a0.2.1<5)) then ((aL (wT b a0) a0.1).bind fun a1=>if (a1==b) then (some (.inr (.inl (true,a0.2.2)))) else (if (decide ((aH b a)<50)) then (some (.inr (.inl (false,a0.2.2)))) else ((idx a0.2.2 (aH a1 1)).bind fun a2=>(idx a0.2.2 a1).bind fun a3=>(idx a0.2.2 a1).bind fun a5=>(idx (List.set a0.2.2 (Int.toNat a1) a2) (aH a1 1)).bind fun a6=>if (decide ((aH a1 a) ≥ 2)) then ((aL (wV) ((aH a1 1),(List.set (List.set a0.2.2 (Int.toNat a1) a2) (Int.toNat (aH a1 1)) a3))).bind fun a4=>gY b a0 a1 a4) else (gY b a0 a1 (List.set (List.set a0.2.2 (Int.toNat a1) a2) (Int.toNat (aH a1 1)) a3))))) else (some (.inr (.inr a0.2.2)))
def oT (a:Int) (b:Int) (h0:(List Int)):Option (Bool×(List Int)):=
 (aL (wX a b) ((aF a 1),0,h0)).bind fun a2=>match a2 with | .inl a0=>some (a0.1,a0.2) | .inr a1=>some (false,a1)
def Ax (a:Int) (a1:Int×Int×(List Int)):Int→Option (Int ⊕ Int):=fun a0 =>
 (if (decide (a0≤a1.2.1)) then ((idx a1.2.2 a).bind fun a4=>(idx a1.2.2 a0).bind fun a5=>(eC a4 a5).bind fun a3=>some (!a3)) else (some false)).bind fun a2=>if a2 then (some (.inl (aF a0 1))) else (some (.inr a0))
def Ay (a:Int) (a1:Int×Int×(List Int)) (a4:Int):Int→Option (Int ⊕ Int):=fun a0 =>
 (if (decide (a4≤a0)) then ((idx a1.2.2 a).bind fun a5=>(idx a1.2.2 a0).bind fun a6=>(eC a5 a6).bind fun a3=>some a3) else (some false)).bind fun a2=>if a2 then (some (.inl (aH a0 1))) else (some (.inr a0))
def Az (a:Int):Int×Int×(List Int)→Option (Int×Int×(List Int) ⊕ Int×(List Int)):=fun a0 =>
 (aL (Ax a a0) a0.1).bind fun a1=>(aL (Ay a a0 a1) a0.2.1).bind fun a2=>if (decide (a1>a2)) then (some (.inr (a1,a0.2.2))) else ((idx a0.2.2 a2).bind fun a3=>(idx a0.2.2 a1).bind fun a4=>(idx a0.2.2 a1).bind fun a5=>(idx (List.set a0.2.2 (Int.toNat a1) a3) a2).bind fun a6=>some (.inl ((aF a1 1),(aH a2 1),(List.set (List.set a0.2.2 (Int.toNat a1) a3) (Int.toNat a2) a4))))
def tX (a:Int) (b:Int) (pivot:Int) (h0:(List Int)):Option (Int×(List Int)):=
 (idx h0 pivot).bind fun x9=>(idx h0 a).bind fun a1=>(idx h0 a).bind fun a2=>(idx (List.set h0 (Int.toNat a) x9) pivot).bind fun a3=>(aL (Az a) ((aF a 1),(aH b 1),(List.set (List.set h0 (Int.toNat a) x9) (Int.toNat pivot) a1))).bind fun a0=>some (a0.1,a0.2)
def Dy (a:Int) (b:Int) (pivot:Int) (h0:(List Int)) (x9:Int) (a5:Int):Int→Option (Int ⊕ Int):=fun a0 =>
 (if (decide (a0≤(aH b 1))) then ((idx (List.set (List.set h0 (Int.toNat a) x9) (Int.toNat pivot) a5) a0).bind fun a3=>(idx (List.set (List.set h0 (Int.toNat a) x9) (Int.toNat pivot) a5) a).bind fun a4=>(eC a3 a4).bind fun a2=>some a2) else (some false)).bind fun a1=>if a1 then (some (.inl (aF a0 1))) else (some (.inr a0))
def Dz (a:Int) (pivot:Int) (h0:(List Int)) (x9:Int) (a6:Int) (a3:Int):Int→Option (Int ⊕ Int):=fun a0 =>
 (if (decide (a3≤a0)) then ((idx (List.set (List.set h0 (Int.toNat a) x9) (Int.toNat pivot) a6) a0).bind fun a4=>(idx (List.set (List.set h0 (Int.toNat a) x9) (Int.toNat pivot) a6) a).bind fun a5=>(eC a4 a5).bind fun a2=>some (!a2)) else (some false)).bind fun a1=>if a1 then (some (.inl (aH a0 1))) else (some (.inr a0))
def Ea (a:Int) (a1:Int×Int×(List Int)):Int→Option (Int ⊕ Int):=fun a0 =>
 (if (decide (a0≤a1.2.1)) then ((idx a1.2.2 a0).bind fun a4=>(idx a1.2.2 a).bind fun a5=>(eC a4 a5).bind fun a3=>some a3) else (some false)).bind fun a2=>if a2 then (some (.inl (aF a0 1))) else (some (.inr a0))
def Eb (a:Int) (a1:Int×Int×(List Int)) (a4:Int):Int→Option (Int ⊕ Int):=fun a0 =>
 (if (decide (a4≤a0)) then ((idx a1.2.2 a0).bind fun a5=>(idx a1.2.2 a).bind fun a6=>(eC a5 a6).bind fun a3=>some (!a3)) else (some false)).bind fun a2=>if a2 then (some (.inl (aH a0 1))) else (some (.inr a0))
def Ec (a:Int):Int×Int×(List Int)→Option (Int×Int×(List Int) ⊕ Int×(List Int)):=fun a0 =>
 (aL (Ea a a0) a0.1).bind fun a1=>(aL (Eb a a0 a1) a0.2.1).bind fun a2=>if (decide (a1>a2)) then (some (.inr (a2,a0.2.2))) else ((idx a0.2.2 a2).bind fun a3=>(idx a0.2.2 a1).bind fun a4=>(idx a0.2.2 a1).bind fun a5=>(idx (List.set a0.2.2 (Int.toNat a1) a3) a2).bind fun a6=>some (.inl ((aF a1 1),(aH a2 1),(List.set (List.set a0.2.2 (Int.toNat a1) a3) (Int.toNat a2) a4))))
def xU (a:Int) (b:Int) (pivot:Int) (h0:(List Int)):Option (Int×Bool×(List Int)):=
 (idx h0 pivot).bind fun x9=>(idx h0 a).bind fun a3=>(idx h0 a).bind fun b6=>(idx (List.set h0 (Int.toNat a) x9) pivot).bind fun b7=>(aL (Dy a b pivot h0 x9 a3) (aF a 1)).bind fun a2=>(aL (Dz a pivot h0 x9 a3 a2) (aH b 1)).bind fun a1=>if (decide (a2>a1)) then ((idx (List.set (List.set h0 (Int.toNat a) x9) (Int.toNat pivot) a3) a).bind fun a6=>(idx (List.set (List.set h0 (Int.toNat a) x9) (Int.toNat pivot) a3) a1).bind fun a8=>(idx (List.set (List.set h0 (Int.toNat a) x9) (Int.toNat pivot) a3) a1).bind fun b2=>(idx (List.set (List.set (List.set h0 (Int.toNat a) x9) (Int.toNat pivot) a3) (Int.toNat a1) a6) a).bind fun b3=>some (a1,true,(List.set (List.set (List.set (List.set h0 (Int.toNat a) x9) (Int.toNat pivot) a3) (Int.toNat a1) a6) (Int.toNat a) a8))) else ((idx (List.set (List.set h0 (Int.toNat a) x9) (Int.toNat pivot) a3) a1).bind fun a7=>(idx (List.set (List.set h0 (Int.toNat a) x9) (Int.toNat pivot) a3) a2).bind fun a9=>(idx (List.set (List.set h0 (Int.toNat a) x9) (Int.toNat pivot) a3) a2).bind fun b4=>(idx (List.set (List.set (List.set h0 (Int.toNat a) x9) (Int.toNat pivot) a3) (Int.toNat a2) a7) a1).bind fun b5=>(aL (Ec a) ((aF a2 1),(aH a1 1),(List.set (List.set (List.set (List.set h0 (Int.toNat a) x9) (Int.toNat pivot) a3) (Int.toNat a2) a7) (Int.toNat a1) a9))).bind fun a0=>(idx a0.2 a).bind fun a4=>(idx a0.2 a0.1).bind fun a5=>(idx a0.2 a0.1).bind fun b0=>(idx (List.set a0.2 (Int.toNat a0.1) a4) a).bind fun b1=>some (a0.1,false,(List.set (List.set a0.2 (Int.toNat a0.1) a4) (Int.toNat a) a5)))
def pP (self:Int→Int→Int→(List Int)→Option ((List Int))) (a1:Int×Int×Int×Bool×Bool×(List Int)) (a3:Int×(List Int)) (a4:Int×Int×(List Int)):Bool×Bool×(List Int)→Option (Int×Int×Int×Bool×Bool×(List Int) ⊕ (List Int)):=fun a2 =>
 (if (decide (a1.1>0)) then ((idx a2.2.2 (aH a1.1 1)).bind fun b0=>(idx a2.2.2 a4.1).bind fun b1=>(eC b0 b1).bind fun a7=>some (!a7)) else (some false)).bind fun a6=>if a6 then ((tX a1.1 a1.2.1 a4.1 a2.2.2).bind fun a5=>some (.inl (a5.1,a1.2.1,a3.1,a2.1,a2.2.1,a5.2))) else ((xU a1.1 a1.2.1 a4.1 a2.2.2).bind fun a0=>if (decide ((aH a0.1 a1.1)<(aH a1.2.1 a0.1))) then ((self a1.1 a0.1 a3.1 a0.2.2).bind fun a8=>some (.inl ((aF a0.1 1),a1.2.1,a3.1,(decide ((aH a0.1 a1.1) ≥ (jT (aH a1.2.1 a1.1) 8))),a0.2.1,a8))) else ((self (aF a0.1 1) a1.2.1 a3.1 a0.2.2).bind fun a9=>some (.inl (a1.1,a0.1,a3.1,(decide ((aH a1.2.1 a0.1) ≥ (jT (aH a1.2.1 a1.1) 8))),a0.2.1,a9))))
def pQ (self:Int→Int→Int→(List Int)→Option ((List Int))) (a3:Int×Int×Int×Bool×Bool×(List Int)) (a4:Int×(List Int)):Int×Int×(List Int)→Option (Int×Int×Int×Bool×Bool×(List Int) ⊕ (List Int)):=fun a0 =>
 (if a3.2.2.2.1 then (if a3.2.2.2.2.1 then (some (true,true,(a0.2.1==1))) else (some (true,false,false))) else (some (false,a3.2.2.2.2.1,false))).bind fun a1=>if a1.2.2 then ((oT a3.1 a3.2.1 a0.2.2).bind fun a2=>if a2.1 then (some (.inr a2.2)) else (pP self a3 a4 a0 (a1.1,a1.2.1,a2.2))) else (pP self a3 a4 a0 (a1.1,a1.2.1,a0.2.2))
def pR (self:Int→Int→Int→(List Int)→Option ((List Int))) (a2:Int×Int×Int×Bool×Bool×(List Int)):Int×(List Int)→Option (Int×Int×Int×Bool×Bool×(List Int) ⊕ (List Int)):=fun a0 =>
 (wD a0.2 a2.1 a2.2.1).bind fun a1=>if (a1.2==2) then ((vW a2.1 a2.2.1 a0.2).bind fun a3=>pQ self a2 a0 ((aH (aH a2.2.1 1) (aH a1.1 a2.1)),1,a3)) else (pQ self a2 a0 (a1.1,a1.2,a0.2))
def Fw (self:Int→Int→Int→(List Int)→Option ((List Int))):Int×Int×Int×Bool×Bool×(List Int)→Option (Int×Int×Int×Bool×Bool×(List Int) ⊕ (List Int)):=fun a0 =>
 if (decide ((aH a0.2.1 a0.1)≤12)) then ((uR a0.1 a0.2.1 a0.2.2.2.2.2).bind fun a1=>some (.inr a1)) else (if (a0.2.2.1==0) then ((yP a0.1 a0.2.1 a0.2.2.2.2.2).bind fun a2=>some (.inr a2)) else (if (!a0.2.2.2.1) then ((uQ a0.1 a0.2.1 a0.2.2.2.2.2).bind fun a3=>pR self a0 ((aH a0.2.2.1 1),a3)) else (pR self a0 (a0.2.2.1,a0.2.2.2.2.2))))
def vT (self:Int→Int→Int→(List Int)→Option ((List Int))) (a:Int) (b:Int) (limit:Int) (h0:(List Int)):Option ((List Int)):=
 (aL (Fw self) (a,b,limit,true,true,h0)).bind fun a0=>some a0
def iJ:Nat→Int→Int→Int→(List Int)→Option ((List Int))
 | 0=>fun _ _ _ _=>none
 | n+1=>vT (iJ n)
def zI (a:Int) (b:Int) (limit:Int) (h0:(List Int)):Option ((List Int)):=iJ 1000 a b limit h0
def tQ (h0:(List Int)):Option ((List Int)):=
 (Lv (IntKind.wrap .u64 (h0.length:Int))).bind fun r3=>(zI 0 (h0.length:Int) r3 h0).bind fun r4=>some r4
def sE (a1:Int×Int×(List Int)):Int×(List Int)→Option (Int×Int×(List Int) ⊕ Int×(List Int)):=fun a0 =>
 some (.inl (a0.1,(aF a1.2.1 1),a0.2))
def Hv (h380:(List Int)) (a1:Int):Int×Int×(List Int)→Option (Int×Int×(List Int) ⊕ Int×(List Int)):=fun a0 =>
 if (decide (a0.2.1<((Int.toNat (h380.length:Int)-Int.toNat a1:Nat):Int))) then ((idx (List.take (Int.toNat (h380.length:Int)-Int.toNat a1) (List.drop (Int.toNat a1) a0.2.2)) a0.2.1).bind fun a2=>(idx (List.take (Int.toNat (h380.length:Int)-Int.toNat a1) (List.drop (Int.toNat a1) a0.2.2)) (aH a0.2.1 1)).bind fun a3=>if (a2 != a3) then ((idx (List.take (Int.toNat (h380.length:Int)-Int.toNat a1) (List.drop (Int.toNat a1) a0.2.2)) a0.2.1).bind fun a4=>(idx a0.2.2 a0.1).bind fun a5=>sE a0 ((aF a0.1 1),(List.set a0.2.2 (Int.toNat a0.1) a4))) else (sE a0 (a0.1,a0.2.2))) else (some (.inr (a0.1,a0.2.2)))
def Hw (h380:(List Int)):Int→Option (Int ⊕ ((List Int) ⊕ Unit)):=fun a1 =>
 if (decide (a1<(h380.length:Int))) then ((idx h380 a1).bind fun a3=>(idx h380 (aH a1 1)).bind fun a4=>if (a3==a4) then (if (decide ((0:Int)≤a1)&&(decide (a1≤(h380.length:Int))&&decide ((h380.length:Int)≤(h380.length:Int)))) then ((aL (Hv h380 a1) (a1,1,h380)).bind fun a0=>if (decide ((0:Int)≤a0.1)&&(decide (a0.1≤(a0.2.length:Int))&&decide ((a0.2.length:Int)≤(a0.2.length:Int)))) then ((slc (cpy a0.2 (Int.toNat a0.1) (List.replicate (Int.toNat (a0.2.length:Int)-Int.toNat a0.1) 0)) 0 a0.1).bind fun a2=>some (.inr (.inl a2))) else none) else none) else (some (.inl (aF a1 1)))) else (some (.inr (.inr (()))))
def pJ (h380:(List Int)):Option ((List Int)):=
 if (decide ((h380.length:Int)<2)) then (some h380) else ((aL (Hw h380) 1).bind fun a1=>match a1 with | .inl a0=>some a0 | .inr a2=>some h380)
def nC (y:Int) (a_0:(List aE)) (a_1:(List aR)) (a_2:Int) (a_3:Int) (a_4:Int) (a_5:Int) (a_6:Int) (a_7:Int):Option (Bool):=
 (if (decide (y<a_3)) then (some true) else (some (decide (y>(aH (aF a_3 a_5) a_7))))).bind fun j1=>some j1
def rF (s0:(List Int)) (f_0_0:(List aE)) (f_0_1:(List aR)) (f_0_2:Int) (f_0_3:Int) (f_0_4:Int) (f_0_5:Int) (f_0_6:Int) (f_0_7:Int):Int→Option (Int ⊕ (Int ⊕ Unit)):=fun a0 =>
 if (decide (a0<(s0.length:Int))) then ((idx s0 a0).bind fun a2=>(nC a2 f_0_0 f_0_1 f_0_2 f_0_3 f_0_4 f_0_5 f_0_6 f_0_7).bind fun a1=>if a1 then (some (.inr (.inl a0))) else (some (.inl (aF a0 1)))) else (some (.inr (.inr (()))))
def jD (s0:(List Int)) (f_0_0:(List aE)) (f_0_1:(List aR)) (f_0_2:Int) (f_0_3:Int) (f_0_4:Int) (f_0_5:Int) (f_0_6:Int) (f_0_7:Int):Option (Int):=
 (aL (rF s0 f_0_0 f_0_1 f_0_2 f_0_3 f_0_4 f_0_5 f_0_6 f_0_7) 0).bind fun a1=>match a1 with | .inl a0=>some a0 | .inr a2=>some (-1)
def eD (a1:Int×Int×(List Int)):Int×(List Int)→Option (Int×Int×(List Int) ⊕ Int×(List Int)):=fun a0 =>
 some (.inl (a0.1,(aF a1.2.1 1),a0.2))
def qJ (del_0_0:(List aE)) (del_0_1:(List aR)) (del_0_2:Int) (del_0_3:Int) (del_0_4:Int) (del_0_5:Int) (del_0_6:Int) (del_0_7:Int):Int×Int×(List Int)→Option (Int×Int×(List Int) ⊕ Int×(List Int)):=fun a0 =>
 if (decide (a0.2.1<(a0.2.2.length:Int))) then ((idx a0.2.2 a0.2.1).bind fun a1=>(nC a1 del_0_0 del_0_1 del_0_2 del_0_3 del_0_4 del_0_5 del_0_6 del_0_7).bind fun a2=>if (!a2) then ((idx a0.2.2 a0.1).bind fun a3=>eD a0 ((aF a0.1 1),(List.set a0.2.2 (Int.toNat a0.1) a1))) else (eD a0 (a0.1,a0.2.2))) else (some (.inr (a0.1,a0.2.2)))
def cX (del_0_0:(List aE)) (del_0_1:(List aR)) (del_0_2:Int) (del_0_3:Int) (del_0_4:Int) (del_0_5:Int) (del_0_6:Int) (del_0_7:Int) (h380:(List Int)):Option ((List Int)):=
 (jD h380 del_0_0 del_0_1 del_0_2 del_0_3 del_0_4 del_0_5 del_0_6 del_0_7).bind fun r2=>if (r2==(-1)) then (some h380) else ((aL (qJ del_0_0 del_0_1 del_0_2 del_0_3 del_0_4 del_0_5 del_0_6 del_0_7) (r2,(aF r2 1),h380)).bind fun a0=>if (decide ((0:Int)≤a0.1)&&(decide (a0.1≤(a0.2.length:Int))&&decide ((a0.2.length:Int)≤(a0.2.length:Int)))) then ((slc (cpy a0.2 (Int.toNat a0.1) (List.replicate (Int.toNat (a0.2.length:Int)-Int.toNat a0.1) 0)) 0 a0.1).bind fun a1=>some a1) else none)
def fF (a1:aR) (a2:aE):Int×(List Int)→Option (Int×(List Int) ⊕ (List Int)):=fun a0 =>
 if (decide (a0.1<([0,a1.gap].length:Int))) then ((idx [0,a1.gap] a0.1).bind fun a3=>(app a0.2 [(aH (aF (aF a1.aE.Y a1.aE.H) a3) a2.Y),(aH (aH (aH a1.aE.Y a3) a2.Y) a2.H)]).bind fun a4=>some (.inl ((aF a0.1 1),a4))) else (some (.inr a0.2))
def lP (s0:fE) (a1:aR):Int×(List Int)→Option (Int×(List Int) ⊕ (List Int)):=fun a0 =>
 if (decide (a0.1<(s0.mN.length:Int))) then ((idx s0.mN a0.1).bind fun a2=>(aL (fF a1 a2) (0,a0.2)).bind fun a3=>some (.inl ((aF a0.1 1),a3))) else (some (.inr a0.2))
def lQ (s0:fE):Int×(List Int)→Option (Int×(List Int) ⊕ (List Int)):=fun a0 =>
 if (decide (a0.1<(s0.bV.length:Int))) then ((idx s0.bV a0.1).bind fun a1=>(aL (lP s0 a1) (0,a0.2)).bind fun a2=>some (.inl ((aF a0.1 1),a2))) else (some (.inr a0.2))
def vA (s0:fE):Option ((List Int)):=
 (aL (lQ s0) (0,[s0.eB.Y])).bind fun a3=>(tQ a3).bind fun a0=>(pJ a0).bind fun a1=>(cX s0.mN s0.bV s0.eB.X s0.eB.Y s0.eB.W s0.eB.H s0.w s0.h a1).bind fun a2=>some a2
def Cy (a:aI):Option (Bool):=
 some (decide ((aH a.hi a.lo)<2))
def pN (s0:(List aI)):Int→Option (Int ⊕ (Int ⊕ Unit)):=fun a0 =>
 if (decide (a0<(s0.length:Int))) then ((idx s0 a0).bind fun a2=>(Cy a2).bind fun a1=>if a1 then (some (.inr (.inl a0))) else (some (.inl (aF a0 1)))) else (some (.inr (.inr (()))))
def iK (s0:(List aI)):Option (Int):=
 (aL (pN s0) 0).bind fun a1=>match a1 with | .inl a0=>some a0 | .inr a2=>some (-1)
def dP (a1:Int×Int×(List aI)):Int×(List aI)→Option (Int×Int×(List aI) ⊕ Int×(List aI)):=fun a0 =>
 some (.inl (a0.1,(aF a1.2.1 1),a0.2))
def oY:Int×Int×(List aI)→Option (Int×Int×(List aI) ⊕ Int×(List aI)):=fun a0 =>
 if (decide (a0.2.1<(a0.2.2.length:Int))) then ((idx a0.2.2 a0.2.1).bind fun a1=>(Cy a1).bind fun a2=>if (!a2) then ((idx a0.2.2 a0.1).bind fun a3=>dP a0 ((aF a0.1 1),(List.set a0.2.2 (Int.toNat a0.1) a1))) else (dP a0 (a0.1,a0.2.2))) else (some (.inr (a0.1,a0.2.2)))
def iH (h380:(List aI)):Option ((List aI)):=
 (iK h380).bind fun r2=>if (r2==(-1)) then (some h380) else ((aL (oY) (r2,(aF r2 1),h380)).bind fun a0=>if (decide ((0:Int)≤a0.1)&&(decide (a0.1≤(a0.2.length:Int))&&decide ((a0.2.length:Int)≤(a0.2.length:Int)))) then ((slc (cpy a0.2 (Int.toNat a0.1) (List.replicate (Int.toNat (a0.2.length:Int)-Int.toNat a0.1) (aI.mk 0 0))) 0 a0.1).bind fun a1=>some a1) else none)
def Bn (h380:(List aI)):Option ((List aI)):=
 (iH h380).bind fun r2=>some r2
def uX (o:aR) (r1:aE) (y:Int):Option ((List aI)):=
 (if (decide ((aF r1.Y y)<(aF o.aE.Y o.aE.H))) then (some (decide (o.aE.Y<(aF (aF r1.Y y) r1.H)))) else (some false)).bind fun j1=>(if (decide ((imax (imax 0 (aH (aH (aH o.aE.Y r1.Y) y) r1.H)) (aH (aH (aF r1.Y y) o.aE.Y) o.aE.H)) ≥ o.gap)) then (some (decide ((imax (imax 0 (aH (aH (aH o.aE.Y r1.Y) y) r1.H)) (aH (aH (aF r1.Y y) o.aE.Y) o.aE.H))>0))) else (some false)).bind fun a1=>if a1 then (some []) else ((if o.common then (some (j1,true)) else (some (false,false))).bind fun a0=>if a0.1 then ((Bn [(aI.mk (aH (aH (aH o.aE.X r1.X) r1.W) o.gap) (aH (aH o.aE.X r1.X) r1.W)),(aI.mk (aH (aH o.aE.X r1.X) r1.W) (aH (aF o.aE.X o.aE.W) r1.X)),(aI.mk (aH (aF o.aE.X o.aE.W) r1.X) (aF (aH (aF o.aE.X o.aE.W) r1.X) o.gap))]).bind fun a4=>some a4) else ((if a0.2 then (some (((imax (imax 0 (aH (aH (aH o.aE.Y r1.Y) y) r1.H)) (aH (aH (aF r1.Y y) o.aE.Y) o.aE.H))==0),true)) else (some (false,false))).bind fun a2=>if a2.1 then ((Bn [(aI.mk (aH (aH (aH o.aE.X r1.X) r1.W) o.gap) (aH (aH o.aE.X r1.X) r1.W)),(aI.mk (aH (aF o.aE.X o.aE.W) r1.X) (aF (aH (aF o.aE.X o.aE.W) r1.X) o.gap))]).bind fun a5=>some a5) else ((if ((imax (imax 0 (aH (aH (aH o.aE.Y r1.Y) y) r1.H)) (aH (aH (aF r1.Y y) o.aE.Y) o.aE.H))==0) then (if (o.gap==0) then (some (!j1)) else (some false)) else (some false)).bind fun a3=>if a3 then (some []) else ((Bn [(aI.mk (aH (aH (aH o.aE.X r1.X) r1.W) o.gap) (aF (aH (aF o.aE.X o.aE.W) r1.X) o.gap))]).bind fun a6=>some a6))))
def bZ (x0:Int) (y:Int):Option (Int):=
 (uA x0).bind fun r2=>(uA y).bind fun r4=>if r2 then (if r4 then (some 0) else (some (-1))) else (if r4 then (some 1) else (if (decide (x0<y)) then (some (-1)) else (if (decide (x0>y)) then (some 1) else (some 0))))
def iP (vals:(List Int)):Int→Option (Int ⊕ (Int ⊕ Unit)):=fun a0 =>
 if (decide (a0<(vals.length:Int))) then ((idx vals a0).bind fun a1=>if (a1 != 0) then (some (.inr (.inl a1))) else (some (.inl (aF a0 1)))) else (some (.inr (.inr (()))))
def Pd (vals:(List Int)):Option (Int):=
 (aL (iP vals) 0).bind fun a1=>match a1 with | .inl a0=>some a0 | .inr a2=>some 0
def bP (a:eL) (a1:aI) (b:aI):Option (Int):=
 (bZ a1.lo b.lo).bind fun r7=>(bZ a1.hi b.hi).bind fun r8=>(Pd [r7,r8]).bind fun r9=>some r9
def mA (a:Int):Int×(List aI)→Option (Int×(List aI) ⊕ (List aI)):=fun a0 =>
 (if (decide (a0.1>a)) then ((idx a0.2 a0.1).bind fun a4=>(idx a0.2 (aH a0.1 1)).bind fun a5=>(bP (eL.mk ) a4 a5).bind fun a3=>some (decide (a3<0))) else (some false)).bind fun a2=>if a2 then ((idx a0.2 (aH a0.1 1)).bind fun a1=>(idx a0.2 a0.1).bind fun a6=>(idx a0.2 a0.1).bind fun a7=>(idx (List.set a0.2 (Int.toNat a0.1) a1) (aH a0.1 1)).bind fun a8=>some (.inl ((aH a0.1 1),(List.set (List.set a0.2 (Int.toNat a0.1) a1) (Int.toNat (aH a0.1 1)) a6)))) else (some (.inr a0.2))
def mB (a:Int) (b:Int):Int×(List aI)→Option (Int×(List aI) ⊕ (List aI)):=fun a0 =>
 if (decide (a0.1<b)) then ((aL (mA a) (a0.1,a0.2)).bind fun a1=>some (.inl ((aF a0.1 1),a1))) else (some (.inr a0.2))
def fX (a:Int) (b:Int) (h0:(List aI)):Option ((List aI)):=
 (aL (mB a b) ((aF a 1),h0)).bind fun a0=>some a0
def dG (first:Int) (a0:Int×(List aI)):Int→Option (Int×(List aI) ⊕ ((List aI) ⊕ (List aI))):=fun a1 =>
 (idx a0.2 (aF first a0.1)).bind fun a4=>(idx a0.2 (aF first a1)).bind fun a5=>(bP (eL.mk ) a4 a5).bind fun a3=>if (!(decide (a3<0))) then (some (.inr (.inr a0.2))) else ((idx a0.2 (aF first a1)).bind fun a2=>(idx a0.2 (aF first a0.1)).bind fun a6=>(idx a0.2 (aF first a0.1)).bind fun a7=>(idx (List.set a0.2 (Int.toNat (aF first a0.1)) a2) (aF first a1)).bind fun a8=>some (.inl (a1,(List.set (List.set a0.2 (Int.toNat (aF first a0.1)) a2) (Int.toNat (aF first a1)) a6))))
def oJ (hi:Int) (first:Int):Int×(List aI)→Option (Int×(List aI) ⊕ ((List aI) ⊕ (List aI))):=fun a0 =>
 if (decide ((aF (cK 2 a0.1) 1) ≥ hi)) then (some (.inr (.inl a0.2))) else ((if (decide ((aF (aF (cK 2 a0.1) 1) 1)<hi)) then ((idx a0.2 (aF first (aF (cK 2 a0.1) 1))).bind fun a3=>(idx a0.2 (aF (aF first (aF (cK 2 a0.1) 1)) 1)).bind fun a4=>(bP (eL.mk ) a3 a4).bind fun a2=>some (decide (a2<0))) else (some false)).bind fun a1=>if a1 then (dG first a0 (aF (aF (cK 2 a0.1) 1) 1)) else (dG first a0 (aF (cK 2 a0.1) 1)))
def dY (lo:Int) (hi:Int) (first:Int) (h0:(List aI)):Option ((List aI)):=
 (aL (oJ hi first) (lo,h0)).bind fun a2=>match a2 with | .inl a0=>some a0 | .inr a1=>some a1
def oD (a:Int) (b:Int):Int×(List aI)→Option (Int×(List aI) ⊕ (List aI)):=fun a0 =>
 if (decide (a0.1 ≥ 0)) then ((dY a0.1 (aH b a) a a0.2).bind fun a1=>some (.inl ((aH a0.1 1),a1))) else (some (.inr a0.2))
def oF (a:Int):Int×(List aI)→Option (Int×(List aI) ⊕ (List aI)):=fun a0 =>
 if (decide (a0.1 ≥ 0)) then ((idx a0.2 (aF a a0.1)).bind fun a1=>(idx a0.2 a).bind fun a3=>(idx a0.2 a).bind fun a4=>(idx (List.set a0.2 (Int.toNat a) a1) (aF a a0.1)).bind fun a5=>(dY 0 a0.1 a (List.set (List.set a0.2 (Int.toNat a) a1) (Int.toNat (aF a a0.1)) a3)).bind fun a2=>some (.inl ((aH a0.1 1),a2))) else (some (.inr a0.2))
def gV (a:Int) (b:Int) (h0:(List aI)):Option ((List aI)):=
 (aL (oD a b) ((jT (aH (aH b a) 1) 2),h0)).bind fun a1=>(aL (oF a) ((aH (aH b a) 1),a1)).bind fun a0=>some a0
def cW (a:Int) (a0:Int×Int×(List aI)):Int→Option (Int×Int×(List aI) ⊕ (List aI)):=fun a1 =>
 (idx a0.2.2 (aF a a1)).bind fun a2=>(idx a0.2.2 a0.1).bind fun a3=>(idx a0.2.2 a0.1).bind fun a4=>(idx (List.set a0.2.2 (Int.toNat a0.1) a2) (aF a a1)).bind fun a5=>some (.inl ((aF a0.1 1),(eT .u64 (eT .u64 (eT .u64 a0.2.1 (IntKind.wrap .u64 (a0.2.1*2^(min (Int.toNat 13) 64)))) (Int.fdiv (eT .u64 a0.2.1 (IntKind.wrap .u64 (a0.2.1*2^(min (Int.toNat 13) 64)))) (2^(min (Int.toNat 7) 64)))) (IntKind.wrap .u64 ((eT .u64 (eT .u64 a0.2.1 (IntKind.wrap .u64 (a0.2.1*2^(min (Int.toNat 13) 64)))) (Int.fdiv (eT .u64 a0.2.1 (IntKind.wrap .u64 (a0.2.1*2^(min (Int.toNat 13) 64)))) (2^(min (Int.toNat 7) 64))))*2^(min (Int.toNat 17) 64)))),(List.set (List.set a0.2.2 (Int.toNat a0.1) a2) (Int.toNat (aF a a1)) a3)))
def lW (a:Int) (b:Int) (r2:Int):Int×Int×(List aI)→Option (Int×Int×(List aI) ⊕ (List aI)):=fun a0 =>
 if (decide (a0.1≤(aF (aF a (cK (jT (aH b a) 4) 2)) 1))) then ((tY a0.2.1).bind fun a1=>if (decide ((IntKind.wrap .i64 (Gj .u64 a1 (IntKind.wrap .u64 (r2-1)))) ≥ (aH b a))) then (cW a a0 (aH (IntKind.wrap .i64 (Gj .u64 a1 (IntKind.wrap .u64 (r2-1)))) (aH b a))) else (cW a a0 (IntKind.wrap .i64 (Gj .u64 a1 (IntKind.wrap .u64 (r2-1)))))) else (some (.inr a0.2.2))
def fW (a:Int) (b:Int) (h0:(List aI)):Option ((List aI)):=
 if (decide ((aH b a) ≥ 8)) then ((sQ (aH b a)).bind fun r2=>(aL (lW a b r2) ((aH (aF a (cK (jT (aH b a) 4) 2)) 1),(IntKind.wrap .u64 (aH b a)),h0)).bind fun a0=>some a0) else (some h0)
def cQ (data:(List aI)) (a:Int) (b:Int) (h0_0:Int):Option (Int×Int×Int):=
 (idx data b).bind fun a1=>(idx data a).bind fun a2=>(bP (eL.mk ) a1 a2).bind fun a0=>if (decide (a0<0)) then (some (b,a,(aF h0_0 1))) else (some (a,b,h0_0))
def eF (data:(List aI)) (a:Int) (b:Int) (c:Int) (h0_0:Int):Option (Int×Int):=
 (cQ data a b h0_0).bind fun r2=>(cQ data r2.2.1 c r2.2.2).bind fun r4=>(cQ data r2.1 r4.1 r4.2.2).bind fun r6=>some (r6.2.1,r6.2.2)
def bW (data:(List aI)) (a:Int) (h0_0:Int):Option (Int×Int):=
 (eF data (aH a 1) a (aF a 1) h0_0).bind fun r2=>some (r2.1,r2.2)
def cZ:(Int×Int)→Option (Int×Int):=fun a0 =>
 if (a0.2==0) then (some (a0.1,1)) else (if (a0.2==12) then (some (a0.1,2)) else (some (a0.1,0)))
def dA (data:(List aI)):(Int×Int×Int×Int)→Option (Int×Int):=fun a0 =>
 (eF data a0.1 a0.2.1 a0.2.2.1 a0.2.2.2).bind fun a1=>cZ (a1.1,a1.2)
def gG (data:(List aI)) (a:Int) (b:Int):Option (Int×Int):=
 if (decide ((aH b a) ≥ 8)) then (if (decide ((aH b a) ≥ 50)) then ((bW data (aF a (cK (jT (aH b a) 4) 1)) 0).bind fun a0=>(bW data (aF a (cK (jT (aH b a) 4) 2)) a0.2).bind fun a1=>(bW data (aF a (cK (jT (aH b a) 4) 3)) a1.2).bind fun a2=>dA data (a0.1,a1.1,a2.1,a2.2)) else (dA data ((aF a (cK (jT (aH b a) 4) 1)),(aF a (cK (jT (aH b a) 4) 2)),(aF a (cK (jT (aH b a) 4) 3)),0))) else (cZ ((aF a (cK (jT (aH b a) 4) 2)),0))
def mL:Int×Int×(List aI)→Option (Int×Int×(List aI) ⊕ (List aI)):=fun a0 =>
 if (decide (a0.1<a0.2.1)) then ((idx a0.2.2 a0.2.1).bind fun a1=>(idx a0.2.2 a0.1).bind fun a2=>(idx a0.2.2 a0.1).bind fun a3=>(idx (List.set a0.2.2 (Int.toNat a0.1) a1) a0.2.1).bind fun a4=>some (.inl ((aF a0.1 1),(aH a0.2.1 1),(List.set (List.set a0.2.2 (Int.toNat a0.1) a1) (Int.toNat a0.2.1) a2)))) else (some (.inr a0.2.2))
def gC (a:Int) (b:Int) (h0:(List aI)):Option ((List aI)):=
 (aL (mL) (a,(aH b 1),h0)).bind fun a0=>some a0
def cG (a1:Int×Int×(List aI)):Int×(List aI)→Option (Int×Int×(List aI) ⊕ (Bool×(List aI) ⊕ (List aI))):=fun a0 =>
 some (.inl (a0.1,(aF a1.2.1 1),a0.2))
def jL (b:Int) (a1:Int×Int×(List aI)):Int→Option (Int ⊕ Int):=fun a0 =>
 (if (decide (a0<b)) then ((idx a1.2.2 a0).bind fun a4=>(idx a1.2.2 (aH a0 1)).bind fun a5=>(bP (eL.mk ) a4 a5).bind fun a3=>some (!(decide (a3<0)))) else (some false)).bind fun a2=>if a2 then (some (.inl (aF a0 1))) else (some (.inr a0))
def jM (b:Int):Int×(List aI)→Option (Int×(List aI) ⊕ (List aI)):=fun a0 =>
 if (decide (a0.1<b)) then ((idx a0.2 a0.1).bind fun a3=>(idx a0.2 (aH a0.1 1)).bind fun a4=>(bP (eL.mk ) a3 a4).bind fun a2=>if (!(decide (a2<0))) then (some (.inr a0.2)) else ((idx a0.2 (aH a0.1 1)).bind fun a1=>(idx a0.2 a0.1).bind fun a5=>(idx a0.2 a0.1).bind fun a6=>(idx (List.set a0.2 (Int.toNat a0.1) a1) (aH a0.1 1)).bind fun a7=>some (.inl ((aF a0.1 1),(List.set (List.set a0.2 (Int.toNat a0.1) a1) (Int.toNat (aH a0.1 1)) a5))))) else (some (.inr a0.2))
def cH (b:Int) (a2:Int×Int×(List aI)) (a0:Int):(List aI)→Option (Int×Int×(List aI) ⊕ (Bool×(List aI) ⊕ (List aI))):=fun a1 =>
 if (decide ((aH b a0) ≥ 2)) then ((aL (jM b) ((aF a0 1),a1)).bind fun a3=>cG a2 (a0,a3)) else (cG a2 (a0,a1))
def jN:Int×(List aI)→Option (Int×(List aI) ⊕ (List aI)):=fun a0 =>
 if (decide (a0.1 ≥ 1)) then ((idx a0.2 a0.1).bind fun a3=>(idx a0.2 (aH a0.1 1)).bind fun a4=>(bP (eL.mk ) a3 a4).bind fun a2=>if (!(decide (a2<0))) then (some (.inr a0.2)) else ((idx a0.2 (aH a0.1 1)).bind fun a1=>(idx a0.2 a0.1).bind fun a5=>(idx a0.2 a0.1).bind fun a6=>(idx (List.set a0.2 (Int.toNat a0.1) a1) (aH a0.1 1)).bind fun a7=>some (.inl ((aH a0.1 1),(List.set (List.set a0.2 (Int.toNat a0.1) a1) (Int.toNat (aH a0.1 1)) a5))))) else (some (.inr a0.2))
def jO (a:Int) (b:Int):Int×Int×(List aI)→Option (Int×Int×(List aI) ⊕ (Bool×(List aI) ⊕ (List aI))):=fun a0 =>
 if (decide (a0.2.1<5)) then ((aL (jL b a0) a0.1).bind fun a1=>if (a1==b) then (some (.inr (.inl (true,a0.2.2)))) else (if (decide ((aH b a)<50)) then (some (.inr (.inl (false,a0.2.2)))) else ((idx a0.2.2 (aH a1 1)).bind fun a2=>(idx a0.2.2 a1).bind fun a3=>(idx a0.2.2 a1).bind fun a5=>(idx (List.set a0.2.2 (Int.toNat a1) a2) (aH a1 1)).bind fun a6=>if (decide ((aH a1 a) ≥ 2)) then ((aL (jN) ((aH a1 1),(List.set (List.set a0.2.2 (Int.toNat a1) a2) (Int.toNat (aH a1 1)) a3))).bind fun a4=>cH b a0 a1 a4) else (cH b a0 a1 (List.set (List.set a0.2.2 (Int.toNat a1) a2) (Int.toNat (aH a1 1)) a3))))) else (some (.inr (.inr a0.2.2)))
def eK (a:Int) (b:Int) (h0:(List aI)):Option (Bool×(List aI)):=
 (aL (jO a b) ((aF a 1),0,h0)).bind fun a2=>match a2 with | .inl a0=>some (a0.1,a0.2) | .inr a1=>some (false,a1)
def kY (a:Int) (a1:Int×Int×(List aI)):Int→Option (Int ⊕ Int):=fun a0 =>
 (if (decide (a0≤a1.2.1)) then ((idx a1.2.2 a).bind fun a4=>(idx a1.2.2 a0).bind fun a5=>(bP (eL.mk ) a4 a5).bind fun a3=>some (!(decide (a3<0)))) else (some false)).bind fun a2=>if a2 then (some (.inl (aF a0 1))) else (some (.inr a0))
def kZ (a:Int) (a1:Int×Int×(List aI)) (a4:Int):Int→Option (Int ⊕ Int):=fun a0 =>
 (if (decide (a4≤a0)) then ((idx a1.2.2 a).bind fun a5=>(idx a1.2.2 a0).bind fun a6=>(bP (eL.mk ) a5 a6).bind fun a3=>some (decide (a3<0))) else (some false)).bind fun a2=>if a2 then (some (.inl (aH a0 1))) else (some (.inr a0))
def lA (a:Int):Int×Int×(List aI)→Option (Int×Int×(List aI) ⊕ Int×(List aI)):=fun a0 =>
 (aL (kY a a0) a0.1).bind fun a1=>(aL (kZ a a0 a1) a0.2.1).bind fun a2=>if (decide (a1>a2)) then (some (.inr (a1,a0.2.2))) else ((idx a0.2.2 a2).bind fun a3=>(idx a0.2.2 a1).bind fun a4=>(idx a0.2.2 a1).bind fun a5=>(idx (List.set a0.2.2 (Int.toNat a1) a3) a2).bind fun a6=>some (.inl ((aF a1 1),(aH a2 1),(List.set (List.set a0.2.2 (Int.toNat a1) a3) (Int.toNat a2) a4))))
def fR (a:Int) (b:Int) (pivot:Int) (h0:(List aI)):Option (Int×(List aI)):=
 (idx h0 pivot).bind fun x9=>(idx h0 a).bind fun a1=>(idx h0 a).bind fun a2=>(idx (List.set h0 (Int.toNat a) x9) pivot).bind fun a3=>(aL (lA a) ((aF a 1),(aH b 1),(List.set (List.set h0 (Int.toNat a) x9) (Int.toNat pivot) a1))).bind fun a0=>some (a0.1,a0.2)
def nO (a:Int) (b:Int) (pivot:Int) (h0:(List aI)) (x9:aI) (a5:aI):Int→Option (Int ⊕ Int):=fun a0 =>
 (if (decide (a0≤(aH b 1))) then ((idx (List.set (List.set h0 (Int.toNat a) x9) (Int.toNat pivot) a5) a0).bind fun a3=>(idx (List.set (List.set h0 (Int.toNat a) x9) (Int.toNat pivot) a5) a).bind fun a4=>(bP (eL.mk ) a3 a4).bind fun a2=>some (decide (a2<0))) else (some false)).bind fun a1=>if a1 then (some (.inl (aF a0 1))) else (some (.inr a0))
def nP (a:Int) (pivot:Int) (h0:(List aI)) (x9:aI) (a6:aI) (a3:Int):Int→Option (Int ⊕ Int):=fun a0 =>
 (if (decide (a3≤a0)) then ((idx (List.set (List.set h0 (Int.toNat a) x9) (Int.toNat pivot) a6) a0).bind fun a4=>(idx (List.set (List.set h0 (Int.toNat a) x9) (Int.toNat pivot) a6) a).bind fun a5=>(bP (eL.mk ) a4 a5).bind fun a2=>some (!(decide (a2<0)))) else (some false)).bind fun a1=>if a1 then (some (.inl (aH a0 1))) else (some (.inr a0))
def nQ (a:Int) (a1:Int×Int×(List aI)):Int→Option (Int ⊕ Int):=fun a0 =>
 (if (decide (a0≤a1.2.1)) then ((idx a1.2.2 a0).bind fun a4=>(idx a1.2.2 a).bind fun a5=>(bP (eL.mk ) a4 a5).bind fun a3=>some (decide (a3<0))) else (some false)).bind fun a2=>if a2 then (some (.inl (aF a0 1))) else (some (.inr a0))
def nR (a:Int) (a1:Int×Int×(List aI)) (a4:Int):Int→Option (Int ⊕ Int):=fun a0 =>
 (if (decide (a4≤a0)) then ((idx a1.2.2 a0).bind fun a5=>(idx a1.2.2 a).bind fun a6=>(bP (eL.mk ) a5 a6).bind fun a3=>some (!(decide (a3<0)))) else (some false)).bind fun a2=>if a2 then (some (.inl (aH a0 1))) else (some (.inr a0))
def nS (a:Int):Int×Int×(List aI)→Option (Int×Int×(List aI) ⊕ Int×(List aI)):=fun a0 =>
 (aL (nQ a a0) a0.1).bind fun a1=>(aL (nR a a0 a1) a0.2.1).bind fun a2=>if (decide (a1>a2)) then (some (.inr (a2,a0.2.2))) else ((idx a0.2.2 a2).bind fun a3=>(idx a0.2.2 a1).bind fun a4=>(idx a0.2.2 a1).bind fun a5=>(idx (List.set a0.2.2 (Int.toNat a1) a3) a2).bind fun a6=>some (.inl ((aF a1 1),(aH a2 1),(List.set (List.set a0.2.2 (Int.toNat a1) a3) (Int.toNat a2) a4))))
def gR (a:Int) (b:Int) (pivot:Int) (h0:(List aI)):Option (Int×Bool×(List aI)):=
 (idx h0 pivot).bind fun x9=>(idx h0 a).bind fun a3=>(idx h0 a).bind fun b6=>(idx (List.set h0 (Int.toNat a) x9) pivot).bind fun b7=>(aL (nO a b pivot h0 x9 a3) (aF a 1)).bind fun a2=>(aL (nP a pivot h0 x9 a3 a2) (aH b 1)).bind fun a1=>if (decide (a2>a1)) then ((idx (List.set (List.set h0 (Int.toNat a) x9) (Int.toNat pivot) a3) a).bind fun a6=>(idx (List.set (List.set h0 (Int.toNat a) x9) (Int.toNat pivot) a3) a1).bind fun a8=>(idx (List.set (List.set h0 (Int.toNat a) x9) (Int.toNat pivot) a3) a1).bind fun b2=>(idx (List.set (List.set (List.set h0 (Int.toNat a) x9) (Int.toNat pivot) a3) (Int.toNat a1) a6) a).bind fun b3=>some (a1,true,(List.set (List.set (List.set (List.set h0 (Int.toNat a) x9) (Int.toNat pivot) a3) (Int.toNat a1) a6) (Int.toNat a) a8))) else ((idx (List.set (List.set h0 (Int.toNat a) x9) (Int.toNat pivot) a3) a1).bind fun a7=>(idx (List.set (List.set h0 (Int.toNat a) x9) (Int.toNat pivot) a3) a2).bind fun a9=>(idx (List.set (List.set h0 (Int.toNat a) x9) (Int.toNat pivot) a3) a2).bind fun b4=>(idx (List.set (List.set (List.set h0 (Int.toNat a) x9) (Int.toNat pivot) a3) (Int.toNat a2) a7) a1).bind fun b5=>(aL (nS a) ((aF a2 1),(aH a1 1),(List.set (List.set (List.set (List.set h0 (Int.toNat a) x9) (Int.toNat pivot) a3) (Int.toNat a2) a7) (Int.toNat a1) a9))).bind fun a0=>(idx a0.2 a).bind fun a4=>(idx a0.2 a0.1).bind fun a5=>(idx a0.2 a0.1).bind fun b0=>(idx (List.set a0.2 (Int.toNat a0.1) a4) a).bind fun b1=>some (a0.1,false,(List.set (List.set a0.2 (Int.toNat a0.1) a4) (Int.toNat a) a5)))
def dJ (self:Int→Int→Int→(List aI)→Option ((List aI))) (a1:Int×Int×Int×Bool×Bool×(List aI)) (a3:Int×(List aI)) (a4:Int×Int×(List aI)):Bool×Bool×(List aI)→Option (Int×Int×Int×Bool×Bool×(List aI) ⊕ (List aI)):=fun a2 =>
 (if (decide (a1.1>0)) then ((idx a2.2.2 (aH a1.1 1)).bind fun b0=>(idx a2.2.2 a4.1).bind fun b1=>(bP (eL.mk ) b0 b1).bind fun a7=>some (!(decide (a7<0)))) else (some false)).bind fun a6=>if a6 then ((fR a1.1 a1.2.1 a4.1 a2.2.2).bind fun a5=>some (.inl (a5.1,a1.2.1,a3.1,a2.1,a2.2.1,a5.2))) else ((gR a1.1 a1.2.1 a4.1 a2.2.2).bind fun a0=>if (decide ((aH a0.1 a1.1)<(aH a1.2.1 a0.1))) then ((self a1.1 a0.1 a3.1 a0.2.2).bind fun a8=>some (.inl ((aF a0.1 1),a1.2.1,a3.1,(decide ((aH a0.1 a1.1) ≥ (jT (aH a1.2.1 a1.1) 8))),a0.2.1,a8))) else ((self (aF a0.1 1) a1.2.1 a3.1 a0.2.2).bind fun a9=>some (.inl (a1.1,a0.1,a3.1,(decide ((aH a1.2.1 a0.1) ≥ (jT (aH a1.2.1 a1.1) 8))),a0.2.1,a9))))
def dK (self:Int→Int→Int→(List aI)→Option ((List aI))) (a3:Int×Int×Int×Bool×Bool×(List aI)) (a4:Int×(List aI)):Int×Int×(List aI)→Option (Int×Int×Int×Bool×Bool×(List aI) ⊕ (List aI)):=fun a0 =>
 (if a3.2.2.2.1 then (if a3.2.2.2.2.1 then (some (true,true,(a0.2.1==1))) else (some (true,false,false))) else (some (false,a3.2.2.2.2.1,false))).bind fun a1=>if a1.2.2 then ((eK a3.1 a3.2.1 a0.2.2).bind fun a2=>if a2.1 then (some (.inr a2.2)) else (dJ self a3 a4 a0 (a1.1,a1.2.1,a2.2))) else (dJ self a3 a4 a0 (a1.1,a1.2.1,a0.2.2))
def dM (self:Int→Int→Int→(List aI)→Option ((List aI))) (a2:Int×Int×Int×Bool×Bool×(List aI)):Int×(List aI)→Option (Int×Int×Int×Bool×Bool×(List aI) ⊕ (List aI)):=fun a0 =>
 (gG a0.2 a2.1 a2.2.1).bind fun a1=>if (a1.2==2) then ((gC a2.1 a2.2.1 a0.2).bind fun a3=>dK self a2 a0 ((aH (aH a2.2.1 1) (aH a1.1 a2.1)),1,a3)) else (dK self a2 a0 (a1.1,a1.2,a0.2))
def oU (self:Int→Int→Int→(List aI)→Option ((List aI))):Int×Int×Int×Bool×Bool×(List aI)→Option (Int×Int×Int×Bool×Bool×(List aI) ⊕ (List aI)):=fun a0 =>
 if (decide ((aH a0.2.1 a0.1)≤12)) then ((fX a0.1 a0.2.1 a0.2.2.2.2.2).bind fun a1=>some (.inr a1)) else (if (a0.2.2.1==0) then ((gV a0.1 a0.2.1 a0.2.2.2.2.2).bind fun a2=>some (.inr a2)) else (if (!a0.2.2.2.1) then ((fW a0.1 a0.2.1 a0.2.2.2.2.2).bind fun a3=>dM self a0 ((aH a0.2.2.1 1),a3)) else (dM self a0 (a0.2.2.1,a0.2.2.2.2.2))))
def gA (self:Int→Int→Int→(List aI)→Option ((List aI))) (a:Int) (b:Int) (limit:Int) (h0:(List aI)):Option ((List aI)):=
 (aL (oU self) (a,b,limit,true,true,h0)).bind fun a0=>some a0
def bR:Nat→Int→Int→Int→(List aI)→Option ((List aI))
 | 0=>fun _ _ _ _=>none
 | n+1=>gA (bR n)
def iD (a:Int) (b:Int) (limit:Int) (h0:(List aI)):Option ((List aI)):=bR 1000 a b limit h0
def cC (h0:(List aI)):Option ((List aI)):=
 (Lv (IntKind.wrap .u64 (h0.length:Int))).bind fun r3=>(iD 0 (h0.length:Int) r3 h0).bind fun r4=>some r4
def lN (s0:fE) (y:Int) (a3:aR):Int×(List aI)→Option (Int×(List aI) ⊕ (List aI)):=fun a0 =>
 if (decide (a0.1<(s0.mN.length:Int))) then ((idx s0.mN a0.1).bind fun a4=>(uX a3 a4 y).bind fun a2=>(app a0.2 a2).bind fun a1=>some (.inl ((aF a0.1 1),a1))) else (some (.inr a0.2))
def qE (s0:fE) (y:Int):Int×(List aI)→Option (Int×(List aI) ⊕ (List aI)):=fun a0 =>
 if (decide (a0.1<(s0.bV.length:Int))) then ((idx s0.bV a0.1).bind fun a1=>(aL (lN s0 y a1) (0,a0.2)).bind fun a2=>some (.inl ((aF a0.1 1),a2))) else (some (.inr a0.2))
def pV (s0:fE) (y:Int):Option ((List aI)):=
 (aL (qE s0 y) (0,[])).bind fun a1=>(cC a1).bind fun a0=>some a0
def Er (a1:Int×Bool×Int):(Int×Bool)→Option ((Int×Bool×Int) ⊕ (Int×Bool)):=fun a0 =>
 some (.inl (a0.1,a0.2,(aF a1.2.2 1)))
def Es (l:(List aI)) (lo:Int) (hi:Int):(Int×Bool×Int)→Option ((Int×Bool×Int) ⊕ (Int×Bool)):=fun a0 =>
 if (decide (a0.2.2<(l.length:Int))) then ((idx l a0.2.2).bind fun a1=>(if (decide (a1.lo<a0.1)) then (some (decide (a0.1<a1.hi))) else (some false)).bind fun a2=>if a2 then (Er a0 (a1.hi,true)) else (Er a0 (a0.1,a0.2.1))) else (some (.inr (a0.1,a0.2.1)))
def Et (l:(List aI)) (lo:Int) (hi:Int):(Int×Bool)→Option ((Int×Bool) ⊕ Int):=fun a0 =>
 if a0.2 then ((aL (Es l lo hi) (a0.1,false,0)).bind fun a1=>some (.inl (a1.1,a1.2))) else (some (.inr a0.1))
def Hm (l:(List aI)) (lo:Int) (hi:Int):Option (Int×Bool):=
 (aL (Et l lo hi) (lo,true)).bind fun a0=>some (a0,(decide (a0≤hi)))
def tO (s0:fE) (a4:(List Int)):Int→Option (Int ⊕ ((Int×Int) ⊕ Unit)):=fun a3 =>
 if (decide (a3<(a4.length:Int))) then ((idx a4 a3).bind fun a1=>(pV s0 a1).bind fun a2=>(Hm a2 s0.eB.X (aH (aF s0.eB.X s0.eB.W) s0.w)).bind fun a0=>if a0.2 then (some (.inr (.inl (a0.1,a1)))) else (some (.inl (aF a3 1)))) else (some (.inr (.inr (()))))
def xQ (s0:fE):Option (Int×Int×Bool):=
 (if (decide (s0.w>s0.eB.W)) then (some true) else (some (decide (s0.h>s0.eB.H)))).bind fun j2=>if j2 then (some (0,0,false)) else ((vA s0).bind fun a3=>(aL (tO s0 a3) 0).bind fun a1=>match a1 with | .inl a0=>some (a0.1,a0.2,true) | .inr a2=>some (0,0,false))
def yA (a1:Bool×Int×Int×Int×Int):(Bool×Int×Int×Int)→Option ((Bool×Int×Int×Int×Int) ⊕ (Bool×Int×Int×Int)):=fun a0 =>
 some (.inl (a0.1,(aF a1.2.1 1),a0.2.1,a0.2.2.1,a0.2.2.2))
def Ff (a2:aQ×Int×ByteArray×ByteArray×Int×Int):(Int×Int×Int)→Option ((Int×Int×Int) ⊕ (Int×Int)):=fun a0 =>
 if (decide (a0.1<(a2.1.aD.length:Int))) then ((idx a2.1.aD a0.1).bind fun a1=>some (.inl ((aF a0.1 1),(imax a0.2.1 (aF a1.X a1.W)),(imax a0.2.2 (aF a1.Y a1.H))))) else (some (.inr (a0.2.1,a0.2.2)))
def wA (s0:aZ) (x2:aQ) (a6:aE×Bool) (a7:(List aR)):(Bool×Int×Int×Int×Int)→Option ((Bool×Int×Int×Int×Int) ⊕ (Bool×Int×Int×Int)):=fun a0 =>
 if (decide (a0.2.1<4)) then ((kA x2 s0 a0.2.1).bind fun a5=>if (!a5) then (yA a0 (a0.1,a0.2.2.1,a0.2.2.2.1,a0.2.2.2.2)) else ((vN x2 (aS.mk 0 0 0 0 a0.2.1)).bind fun a2=>if (a2.2.1 != 0) then (yA a0 (a0.1,a0.2.2.1,a0.2.2.2.1,a0.2.2.2.2)) else ((aL (Ff a2) (0,0,0)).bind fun a4=>(xQ (fE.mk a2.1.aD a7 a6.1 a4.1 a4.2)).bind fun a1=>(if a1.2.2 then (if a0.1 then (if (decide (a1.2.1<a0.2.2.2.1)) then (some (true,true)) else (if (a1.2.1==a0.2.2.2.1) then (some (true,(decide (a1.1<a0.2.2.1)))) else (some (true,false)))) else (some (false,true))) else (some (a0.1,false))).bind fun a3=>if a3.2 then (yA a0 (true,a1.1,a1.2.1,a0.2.1)) else (yA a0 (a3.1,a0.2.2.1,a0.2.2.2.1,a0.2.2.2.2))))) else (some (.inr (a0.1,a0.2.2.1,a0.2.2.2.1,a0.2.2.2.2)))
def Mk (s0:aZ) (taken:(List (List aE))) (x2:aQ) (set3:bK):Option (aS×Bool×Int×Int×Int×Int):=
 (bC s0).bind fun r4=>if (r4 != 0) then (some ((aS.mk 0 0 0 0 0),false,r4,0,0,0)) else ((Bk taken).bind fun r8=>if (r8 != 0) then (some ((aS.mk 0 0 0 0 0),false,r8,0,0,0)) else ((aX x2).bind fun a1=>if (a1 != 0) then (some ((aS.mk 0 0 0 0 0),false,a1,0,0,0)) else ((cN set3).bind fun a3=>if (!a3) then (some ((aS.mk 0 0 0 0 0),false,1,0,0,0)) else ((gO s0 set3.bF).bind fun a2=>if (!a2.2) then (some ((aS.mk 0 0 0 0 0),false,0,0,0,0)) else ((yY s0 taken set3).bind fun a4=>(aL (wA s0 x2 a2 a4) (false,0,0,0,0)).bind fun a0=>some ((aS.mk 0 0 a0.2.1 a0.2.2.1 a0.2.2.2),a0.1,0,a0.2.1,a0.2.2.1,a0.2.2.2))))))
def Cw (a1:Int×(List (List (List aE)))×(List aS)×(List Int)):((List (List (List aE)))×(List aS)×(List Int))→Option ((Int×(List (List (List aE)))×(List aS)×(List Int)) ⊕ ((List aS)×(List Int))):=fun a0 =>
 some (.inl ((aF a1.1 1),a0.1,a0.2.1,a0.2.2))
def pZ (sheets:(List aZ)) (set2:bK) (a2:Int×(List (List (List aE)))×(List aS)×(List Int)) (a3:aQ):Int→Option (Int ⊕ (((List (List (List aE)))×(List aS)) ⊕ Unit)):=fun a0 =>
 if (decide (a0<(sheets.length:Int))) then ((idx sheets a0).bind fun a8=>(idx a2.2.1 a0).bind fun a9=>(Mk a8 a9 a3 set2).bind fun a1=>(if (a1.2.2.1 != 0) then (some true) else (some (!a1.2.1))).bind fun a4=>if a4 then (some (.inl (aF a0 1))) else ((vN a3 (aS.mk a2.1 a0 a1.1.X a1.1.Y a1.1.zK)).bind fun a7=>(idx a2.2.1 a0).bind fun b0=>(app b0 [a7.1.aD]).bind fun a5=>(idx a2.2.1 a0).bind fun b1=>(app a2.2.2.1 [(aS.mk a2.1 a0 a1.1.X a1.1.Y a1.1.zK)]).bind fun a6=>some (.inr (.inl ((List.set a2.2.1 (Int.toNat a0) a5),a6))))) else (some (.inr (.inr (()))))
def yV (sheets:(List aZ)) (pieces:(List aQ)) (set2:bK):(Int×(List (List (List aE)))×(List aS)×(List Int))→Option ((Int×(List (List (List aE)))×(List aS)×(List Int)) ⊕ ((List aS)×(List Int))):=fun a0 =>
 if (decide (a0.1<(pieces.length:Int))) then ((idx pieces a0.1).bind fun a3=>(aL (pZ sheets set2 a0 a3) 0).bind fun a4=>match a4 with | .inl a1=>Cw a0 (a1.1,a1.2,a0.2.2.2) | .inr a5=>(app a0.2.2.2 [a0.1]).bind fun a2=>Cw a0 (a0.2.1,a0.2.2.1,a2)) else (some (.inr (a0.2.2.1,a0.2.2.2)))
def Ns (sheets:(List aZ)) (pieces:(List aQ)) (set2:bK):Option ((List aS)×(List Int)×Int):=
 (Hn sheets pieces).bind fun r4=>if (r4 != 0) then (some ([],[],r4)) else ((cN set2).bind fun r8=>if (!r8) then (some ([],[],1)) else ((mk (sheets.length:Int) []).bind fun a1=>(aL (yV sheets pieces set2) (0,a1,[],[])).bind fun a0=>some (a0.1,a0.2,0)))
def sO (a1:Int×(List aQ)):(List aQ)→Option (Int×(List aQ) ⊕ (List aQ)):=fun a0 =>
 some (.inl ((aF a1.1 1),a0))
def sP (j0:eA) (l:(List aS)) (sheet:Int):Int×(List aQ)→Option (Int×(List aQ) ⊕ (List aQ)):=fun a0 =>
 if (decide (a0.1<(l.length:Int))) then (((idx l a0.1).bind fun a4=>if (a4.aZ==sheet) then ((idx l a0.1).bind fun a5=>if (decide (a5.aQ ≥ 0)) then ((idx l a0.1).bind fun a6=>some (decide (a6.aQ<(j0.wF.length:Int)))) else (some false)) else (some false)).bind fun a2=>if a2 then ((idx l a0.1).bind fun a7=>(idx j0.wF a7.aQ).bind fun a8=>(idx l a0.1).bind fun a9=>(lM a8 a9).bind fun a1=>(app a0.2 [(aQ.mk a1.1.Name a1.1.aW a1.1.bQ a1.1.bM a1.1.aD a1.1.bU a1.1.Forms)]).bind fun a3=>sO a0 a3) else (sO a0 a0.2)) else (some (.inr a0.2))
def sC (j0:eA) (l:(List aS)) (sheet:Int):Option ((List aQ)):=
 (aL (sP j0 l sheet) (0,[])).bind fun a0=>some a0
def Ep (a1:Int×Int):Int→Option ((Int×Int) ⊕ Int):=fun a0 =>
 some (.inl (a0,(aF a1.2 1)))
def uE (self:aE→(List aE)→Option (Int)) (r0:aE) (l:(List aE)) (a6:Int) (a0:aE):(Int×Int)→Option ((Int×Int) ⊕ Int):=fun a1 =>
 if (decide (a1.2<([(aE.mk r0.X r0.Y (aH (imax r0.X a0.X) r0.X) r0.H),(aE.mk (fD (aF r0.X r0.W) (aF a0.X a0.W)) r0.Y (aH (aF r0.X r0.W) (fD (aF r0.X r0.W) (aF a0.X a0.W))) r0.H),(aE.mk (imax r0.X a0.X) r0.Y (aH (fD (aF r0.X r0.W) (aF a0.X a0.W)) (imax r0.X a0.X)) (aH (imax r0.Y a0.Y) r0.Y)),(aE.mk (imax r0.X a0.X) (fD (aF r0.Y r0.H) (aF a0.Y a0.H)) (aH (fD (aF r0.X r0.W) (aF a0.X a0.W)) (imax r0.X a0.X)) (aH (aF r0.Y r0.H) (fD (aF r0.Y r0.H) (aF a0.Y a0.H))))].length:Int))) then ((idx [(aE.mk r0.X r0.Y (aH (imax r0.X a0.X) r0.X) r0.H),(aE.mk (fD (aF r0.X r0.W) (aF a0.X a0.W)) r0.Y (aH (aF r0.X r0.W) (fD (aF r0.X r0.W) (aF a0.X a0.W))) r0.H),(aE.mk (imax r0.X a0.X) r0.Y (aH (fD (aF r0.X r0.W) (aF a0.X a0.W)) (imax r0.X a0.X)) (aH (imax r0.Y a0.Y) r0.Y)),(aE.mk (imax r0.X a0.X) (fD (aF r0.Y r0.H) (aF a0.Y a0.H)) (aH (fD (aF r0.X r0.W) (aF a0.X a0.W)) (imax r0.X a0.X)) (aH (aF r0.Y r0.H) (fD (aF r0.Y r0.H) (aF a0.Y a0.H))))] a1.2).bind fun a2=>(if (decide (a2.W>0)) then (some (decide (a2.H>0))) else (some false)).bind fun a3=>if a3 then ((slc l (aF a6 1) (l.length:Int)).bind fun a4=>(self a2 a4).bind fun a5=>Ep a1 (aF a1.1 a5)) else (Ep a1 a1.1)) else (some (.inr a1.1))
def xC (self:aE→(List aE)→Option (Int)) (r0:aE) (l:(List aE)):Int→Option (Int ⊕ (Int ⊕ Unit)):=fun a0 =>
 if (decide (a0<(l.length:Int))) then ((idx l a0).bind fun a1=>(wK r0 a1).bind fun a2=>if (!a2) then (some (.inl (aF a0 1))) else ((aL (uE self r0 l a0 a1) (0,0)).bind fun a3=>some (.inr (.inl a3)))) else (some (.inr (.inr (()))))
def Bj (self:aE→(List aE)→Option (Int)) (r0:aE) (l:(List aE)):Option (Int):=
 (aL (xC self r0 l) 0).bind fun a1=>match a1 with | .inl a0=>some a0 | .inr a2=>some (cK r0.W r0.H)
def qD:Nat→aE→(List aE)→Option (Int)
 | 0=>fun _ _=>none
 | n+1=>Bj (qD n)
def Pk (r0:aE) (l:(List aE)):Option (Int):=qD 1000 r0 l
def Cx (l:(List aE)):(Int×Int)→Option ((Int×Int) ⊕ Int):=fun a0 =>
 if (decide (a0.2<(l.length:Int))) then ((idx l a0.2).bind fun a3=>(slc l 0 a0.2).bind fun a1=>(Pk a3 a1).bind fun a2=>some (.inl ((aF a0.1 a2),(aF a0.2 1)))) else (some (.inr a0.1))
def Nt (l:(List aE)):Option (Int):=
 (aL (Cx l) (0,0)).bind fun a0=>some a0
def Gq (s0:aZ):Option (Int×Int):=
 (bC s0).bind fun r4=>if (r4 != 0) then (some (0,r4)) else ((app [] s0.aT).bind fun a0=>(app a0 s0.Used).bind fun a1=>(Nt a1).bind fun a2=>some ((aH (cK s0.bI s0.aY) a2),0))
def kB (l:(List aE)) (a1:aE×Bool):Int→Option (Int ⊕ (Unit ⊕ Unit)):=fun a0 =>
 if (decide (a0<(l.length:Int))) then ((idx l a0).bind fun a3=>(By a3 a1.1).bind fun a2=>if (!a2) then (some (.inr (.inl ()))) else (some (.inl (aF a0 1)))) else (some (.inr (.inr (()))))
def kC (s0:aZ) (l:(List aE)):Int→Option (Int ⊕ (Unit ⊕ Unit)):=fun a0 =>
 if (decide (a0<(l.length:Int))) then ((idx l a0).bind fun a1=>((lE [a1] s0.aT).bind fun a4=>if a4 then (some true) else ((lE [a1] s0.Used).bind fun a5=>if a5 then (some true) else ((slc l 0 a0).bind fun a3=>(lE [a1] a3).bind fun a6=>some a6))).bind fun a2=>if a2 then (some (.inr (.inl ()))) else (some (.inl (aF a0 1)))) else (some (.inr (.inr (()))))
def yX (s0:aZ) (l:(List aE)):Option (aZ×Int×ByteArray×ByteArray×Int×Int×Int×Int):=
 (bC s0).bind fun r4=>if (r4 != 0) then (some ((aZ.mk ByteArray.empty ByteArray.empty 0 0 0 0 [] []),r4,ByteArray.empty,ByteArray.empty,0,0,0,0)) else (if (decide ((l.length:Int)>(aH 48 (s0.Used.length:Int)))) then (some ((aZ.mk ByteArray.empty ByteArray.empty 0 0 0 0 [] []),4,ByteArray.empty,ByteArray.empty,0,0,0,0)) else ((nH l).bind fun r8=>if (!r8) then (some ((aZ.mk ByteArray.empty ByteArray.empty 0 0 0 0 [] []),1,ByteArray.empty,ByteArray.empty,0,0,0,0)) else ((gO s0 0).bind fun a6=>(aL (kB l a6) 0).bind fun a7=>match a7 with | .inl a8=>some ((aZ.mk ByteArray.empty ByteArray.empty 0 0 0 0 [] []),13,ByteArray.empty,ByteArray.empty,0,0,0,0) | .inr a9=>(aL (kC s0 l) 0).bind fun a3=>match a3 with | .inl a4=>some ((aZ.mk ByteArray.empty ByteArray.empty 0 0 0 0 [] []),7,ByteArray.empty,ByteArray.empty,0,0,0,0) | .inr a5=>(uF s0.aT 0 0).bind fun a1=>(uF s0.Used 0 0).bind fun a2=>(app a2 l).bind fun a0=>some ((aZ.mk s0.Name s0.aW s0.bQ s0.bM s0.bI s0.aY a1 a0),0,s0.Name,s0.aW,s0.bQ,s0.bM,s0.bI,s0.aY))))
def Ei (lists:(List (List aE))):Int→Option (Int ⊕ (Unit ⊕ Unit)):=fun a0 =>
 if (decide (a0<(lists.length:Int))) then ((idx lists a0).bind fun a1=>if (decide ((a1.length:Int)>48)) then (some (.inr (.inl ()))) else (some (.inl (aF a0 1)))) else (some (.inr (.inr (()))))
def Ej (a1:(List aE)):Int→Option (Int ⊕ (Unit ⊕ Unit)):=fun a0 =>
 if (decide (a0<(a1.length:Int))) then ((idx a1 a0).bind fun a3=>(fA a3).bind fun a2=>if (!a2) then (some (.inr (.inl ()))) else (some (.inl (aF a0 1)))) else (some (.inr (.inr (()))))
def Ek (lists:(List (List aE))):Int→Option (Int ⊕ (Unit ⊕ Unit)):=fun a0 =>
 if (decide (a0<(lists.length:Int))) then ((idx lists a0).bind fun a1=>(aL (Ej a1) 0).bind fun a2=>match a2 with | .inl a3=>some (.inr (.inl ())) | .inr a4=>some (.inl (aF a0 1))) else (some (.inr (.inr (()))))
def Kn (lists:(List (List aE))):Option (Int):=
 (aL (Ei lists) 0).bind fun a3=>match a3 with | .inl a4=>some 4 | .inr a5=>(aL (Ek lists) 0).bind fun a0=>match a0 with | .inl a1=>some 1 | .inr a2=>some 0
def xI (s:(List Int)):Option (List Int):=app [] s
def rJ (a:Int):Int×(List Int)→Option (Int×(List Int) ⊕ (List Int)):=fun a0 =>
 (if (decide (a0.1>a)) then ((idx a0.2 a0.1).bind fun a4=>(idx a0.2 (aH a0.1 1)).bind fun a5=>(bZ a4 a5).bind fun a3=>some (decide (a3<0))) else (some false)).bind fun a2=>if a2 then ((idx a0.2 (aH a0.1 1)).bind fun a1=>(idx a0.2 a0.1).bind fun a6=>(idx a0.2 a0.1).bind fun a7=>(idx (List.set a0.2 (Int.toNat a0.1) a1) (aH a0.1 1)).bind fun a8=>some (.inl ((aH a0.1 1),(List.set (List.set a0.2 (Int.toNat a0.1) a1) (Int.toNat (aH a0.1 1)) a6)))) else (some (.inr a0.2))
def rK (a:Int) (b:Int):Int×(List Int)→Option (Int×(List Int) ⊕ (List Int)):=fun a0 =>
 if (decide (a0.1<b)) then ((aL (rJ a) (a0.1,a0.2)).bind fun a1=>some (.inl ((aF a0.1 1),a1))) else (some (.inr a0.2))
def jF (a:Int) (b:Int) (h0:(List Int)):Option ((List Int)):=
 (aL (rK a b) ((aF a 1),h0)).bind fun a0=>some a0
def fO (first:Int) (a0:Int×(List Int)):Int→Option (Int×(List Int) ⊕ ((List Int) ⊕ (List Int))):=fun a1 =>
 (idx a0.2 (aF first a0.1)).bind fun a4=>(idx a0.2 (aF first a1)).bind fun a5=>(bZ a4 a5).bind fun a3=>if (!(decide (a3<0))) then (some (.inr (.inr a0.2))) else ((idx a0.2 (aF first a1)).bind fun a2=>(idx a0.2 (aF first a0.1)).bind fun a6=>(idx a0.2 (aF first a0.1)).bind fun a7=>(idx (List.set a0.2 (Int.toNat (aF first a0.1)) a2) (aF first a1)).bind fun a8=>some (.inl (a1,(List.set (List.set a0.2 (Int.toNat (aF first a0.1)) a2) (Int.toNat (aF first a1)) a6))))
def uP (hi:Int) (first:Int):Int×(List Int)→Option (Int×(List Int) ⊕ ((List Int) ⊕ (List Int))):=fun a0 =>
 if (decide ((aF (cK 2 a0.1) 1) ≥ hi)) then (some (.inr (.inl a0.2))) else ((if (decide ((aF (aF (cK 2 a0.1) 1) 1)<hi)) then ((idx a0.2 (aF first (aF (cK 2 a0.1) 1))).bind fun a3=>(idx a0.2 (aF (aF first (aF (cK 2 a0.1) 1)) 1)).bind fun a4=>(bZ a3 a4).bind fun a2=>some (decide (a2<0))) else (some false)).bind fun a1=>if a1 then (fO first a0 (aF (aF (cK 2 a0.1) 1) 1)) else (fO first a0 (aF (cK 2 a0.1) 1)))
def gK (lo:Int) (hi:Int) (first:Int) (h0:(List Int)):Option ((List Int)):=
 (aL (uP hi first) (lo,h0)).bind fun a2=>match a2 with | .inl a0=>some a0 | .inr a1=>some a1
def uK (a:Int) (b:Int):Int×(List Int)→Option (Int×(List Int) ⊕ (List Int)):=fun a0 =>
 if (decide (a0.1 ≥ 0)) then ((gK a0.1 (aH b a) a a0.2).bind fun a1=>some (.inl ((aH a0.1 1),a1))) else (some (.inr a0.2))
def uL (a:Int):Int×(List Int)→Option (Int×(List Int) ⊕ (List Int)):=fun a0 =>
 if (decide (a0.1 ≥ 0)) then ((idx a0.2 (aF a a0.1)).bind fun a1=>(idx a0.2 a).bind fun a3=>(idx a0.2 a).bind fun a4=>(idx (List.set a0.2 (Int.toNat a) a1) (aF a a0.1)).bind fun a5=>(gK 0 a0.1 a (List.set (List.set a0.2 (Int.toNat a) a1) (Int.toNat (aF a a0.1)) a3)).bind fun a2=>some (.inl ((aH a0.1 1),a2))) else (some (.inr a0.2))
def kX (a:Int) (b:Int) (h0:(List Int)):Option ((List Int)):=
 (aL (uK a b) ((jT (aH (aH b a) 1) 2),h0)).bind fun a1=>(aL (uL a) ((aH (aH b a) 1),a1)).bind fun a0=>some a0
def eG (a:Int) (a0:Int×Int×(List Int)):Int→Option (Int×Int×(List Int) ⊕ (List Int)):=fun a1 =>
 (idx a0.2.2 (aF a a1)).bind fun a2=>(idx a0.2.2 a0.1).bind fun a3=>(idx a0.2.2 a0.1).bind fun a4=>(idx (List.set a0.2.2 (Int.toNat a0.1) a2) (aF a a1)).bind fun a5=>some (.inl ((aF a0.1 1),(eT .u64 (eT .u64 (eT .u64 a0.2.1 (IntKind.wrap .u64 (a0.2.1*2^(min (Int.toNat 13) 64)))) (Int.fdiv (eT .u64 a0.2.1 (IntKind.wrap .u64 (a0.2.1*2^(min (Int.toNat 13) 64)))) (2^(min (Int.toNat 7) 64)))) (IntKind.wrap .u64 ((eT .u64 (eT .u64 a0.2.1 (IntKind.wrap .u64 (a0.2.1*2^(min (Int.toNat 13) 64)))) (Int.fdiv (eT .u64 a0.2.1 (IntKind.wrap .u64 (a0.2.1*2^(min (Int.toNat 13) 64)))) (2^(min (Int.toNat 7) 64))))*2^(min (Int.toNat 17) 64)))),(List.set (List.set a0.2.2 (Int.toNat a0.1) a2) (Int.toNat (aF a a1)) a3)))
def rH (a:Int) (b:Int) (r2:Int):Int×Int×(List Int)→Option (Int×Int×(List Int) ⊕ (List Int)):=fun a0 =>
 if (decide (a0.1≤(aF (aF a (cK (jT (aH b a) 4) 2)) 1))) then ((tY a0.2.1).bind fun a1=>if (decide ((IntKind.wrap .i64 (Gj .u64 a1 (IntKind.wrap .u64 (r2-1)))) ≥ (aH b a))) then (eG a a0 (aH (IntKind.wrap .i64 (Gj .u64 a1 (IntKind.wrap .u64 (r2-1)))) (aH b a))) else (eG a a0 (IntKind.wrap .i64 (Gj .u64 a1 (IntKind.wrap .u64 (r2-1)))))) else (some (.inr a0.2.2))
def jE (a:Int) (b:Int) (h0:(List Int)):Option ((List Int)):=
 if (decide ((aH b a) ≥ 8)) then ((sQ (aH b a)).bind fun r2=>(aL (rH a b r2) ((aH (aF a (cK (jT (aH b a) 4) 2)) 1),(IntKind.wrap .u64 (aH b a)),h0)).bind fun a0=>some a0) else (some h0)
def eJ (data:(List Int)) (a:Int) (b:Int) (h0_0:Int):Option (Int×Int×Int):=
 (idx data b).bind fun a1=>(idx data a).bind fun a2=>(bZ a1 a2).bind fun a0=>if (decide (a0<0)) then (some (b,a,(aF h0_0 1))) else (some (a,b,h0_0))
def gW (data:(List Int)) (a:Int) (b:Int) (c:Int) (h0_0:Int):Option (Int×Int):=
 (eJ data a b h0_0).bind fun r2=>(eJ data r2.2.1 c r2.2.2).bind fun r4=>(eJ data r2.1 r4.1 r4.2.2).bind fun r6=>some (r6.2.1,r6.2.2)
def cY (data:(List Int)) (a:Int) (h0_0:Int):Option (Int×Int):=
 (gW data (aH a 1) a (aF a 1) h0_0).bind fun r2=>some (r2.1,r2.2)
def eP:(Int×Int)→Option (Int×Int):=fun a0 =>
 if (a0.2==0) then (some (a0.1,1)) else (if (a0.2==12) then (some (a0.1,2)) else (some (a0.1,0)))
def eQ (data:(List Int)):(Int×Int×Int×Int)→Option (Int×Int):=fun a0 =>
 (gW data a0.1 a0.2.1 a0.2.2.1 a0.2.2.2).bind fun a1=>eP (a1.1,a1.2)
def jX (data:(List Int)) (a:Int) (b:Int):Option (Int×Int):=
 if (decide ((aH b a) ≥ 8)) then (if (decide ((aH b a) ≥ 50)) then ((cY data (aF a (cK (jT (aH b a) 4) 1)) 0).bind fun a0=>(cY data (aF a (cK (jT (aH b a) 4) 2)) a0.2).bind fun a1=>(cY data (aF a (cK (jT (aH b a) 4) 3)) a1.2).bind fun a2=>eQ data (a0.1,a1.1,a2.1,a2.2)) else (eQ data ((aF a (cK (jT (aH b a) 4) 1)),(aF a (cK (jT (aH b a) 4) 2)),(aF a (cK (jT (aH b a) 4) 3)),0))) else (eP ((aF a (cK (jT (aH b a) 4) 2)),0))
def sG:Int×Int×(List Int)→Option (Int×Int×(List Int) ⊕ (List Int)):=fun a0 =>
 if (decide (a0.1<a0.2.1)) then ((idx a0.2.2 a0.2.1).bind fun a1=>(idx a0.2.2 a0.1).bind fun a2=>(idx a0.2.2 a0.1).bind fun a3=>(idx (List.set a0.2.2 (Int.toNat a0.1) a1) a0.2.1).bind fun a4=>some (.inl ((aF a0.1 1),(aH a0.2.1 1),(List.set (List.set a0.2.2 (Int.toNat a0.1) a1) (Int.toNat a0.2.1) a2)))) else (some (.inr a0.2.2))
def jK (a:Int) (b:Int) (h0:(List Int)):Option ((List Int)):=
 (aL (sG) (a,(aH b 1),h0)).bind fun a0=>some a0
def dB (a1:Int×Int×(List Int)):Int×(List Int)→Option (Int×Int×(List Int) ⊕ (Bool×(List Int) ⊕ (List Int))):=fun a0 =>
 some (.inl (a0.1,(aF a1.2.1 1),a0.2))
def nJ (b:Int) (a1:Int×Int×(List Int)):Int→Option (Int ⊕ Int):=fun a0 =>
 (if (decide (a0<b)) then ((idx a1.2.2 a0).bind fun a4=>(idx a1.2.2 (aH a0 1)).bind fun a5=>(bZ a4 a5).bind fun a3=>some (!(decide (a3<0)))) else (some false)).bind fun a2=>if a2 then (some (.inl (aF a0 1))) else (some (.inr a0))
def nK (b:Int):Int×(List Int)→Option (Int×(List Int) ⊕ (List Int)):=fun a0 =>
 if (decide (a0.1<b)) then ((idx a0.2 a0.1).bind fun a3=>(idx a0.2 (aH a0.1 1)).bind fun a4=>(bZ a3 a4).bind fun a2=>if (!(decide (a2<0))) then (some (.inr a0.2)) else ((idx a0.2 (aH a0.1 1)).bind fun a1=>(idx a0.2 a0.1).bind fun a5=>(idx a0.2 a0.1).bind fun a6=>(idx (List.set a0.2 (Int.toNat a0.1) a1) (aH a0.1 1)).bind fun a7=>some (.inl ((aF a0.1 1),(List.set (List.set a0.2 (Int.toNat a0.1) a1) (Int.toNat (aH a0.1 1)) a5))))) else (some (.inr a0.2))
def dD (b:Int) (a2:Int×Int×(List Int)) (a0:Int):(List Int)→Option (Int×Int×(List Int) ⊕ (Bool×(List Int) ⊕ (List Int))):=fun a1 =>
 if (decide ((aH b a0) ≥ 2)) then ((aL (nK b) ((aF a0 1),a1)).bind fun a3=>dB a2 (a0,a3)) else (dB a2 (a0,a1))
def nL:Int×(List Int)→Option (Int×(List Int) ⊕ (List Int)):=fun a0 =>
 if (decide (a0.1 ≥ 1)) then ((idx a0.2 a0.1).bind fun a3=>(idx a0.2 (aH a0.1 1)).bind fun a4=>(bZ a3 a4).bind fun a2=>if (!(decide (a2<0))) then (some (.inr a0.2)) else ((idx a0.2 (aH a0.1 1)).bind fun a1=>(idx a0.2 a0.1).bind fun a5=>(idx a0.2 a0.1).bind fun a6=>(idx (List.set a0.2 (Int.toNat a0.1) a1) (aH a0.1 1)).bind fun a7=>some (.inl ((aH a0.1 1),(List.set (List.set a0.2 (Int.toNat a0.1) a1) (Int.toNat (aH a0.1 1)) a5))))) else (some (.inr a0.2))
def nM (a:Int) (b:Int):Int×Int×(List Int)→Option (Int×Int×(List Int) ⊕ (Bool×(List Int) ⊕ (List Int))):=fun a0 =>
 if (decide (a0.2.1<5)) then ((aL (nJ b a0) a0.1).bind fun a1=>if (a1==b) then (some (.inr (.inl (true,a0.2.2)))) else (if (decide ((aH b a)<50)) then (some (.inr (.inl (false,a0.2.2)))) else ((idx a0.2.2 (aH a1 1)).bind fun a2=>(idx a0.2.2 a1).bind fun a3=>(idx a0.2.2 a1).bind fun a5=>(idx (List.set a0.2.2 (Int.toNat a1) a2) (aH a1 1)).bind fun a6=>if (decide ((aH a1 a) ≥ 2)) then ((aL (nL) ((aH a1 1),(List.set (List.set a0.2.2 (Int.toNat a1) a2) (Int.toNat (aH a1 1)) a3))).bind fun a4=>dD b a0 a1 a4) else (dD b a0 a1 (List.set (List.set a0.2.2 (Int.toNat a1) a2) (Int.toNat (aH a1 1)) a3))))) else (some (.inr (.inr a0.2.2)))
def gQ (a:Int) (b:Int) (h0:(List Int)):Option (Bool×(List Int)):=
 (aL (nM a b) ((aF a 1),0,h0)).bind fun a2=>match a2 with | .inl a0=>some (a0.1,a0.2) | .inr a1=>some (false,a1)
def qQ (a:Int) (a1:Int×Int×(List Int)):Int→Option (Int ⊕ Int):=fun a0 =>
 (if (decide (a0≤a1.2.1)) then ((idx a1.2.2 a).bind fun a4=>(idx a1.2.2 a0).bind fun a5=>(bZ a4 a5).bind fun a3=>some (!(decide (a3<0)))) else (some false)).bind fun a2=>if a2 then (some (.inl (aF a0 1))) else (some (.inr a0))
def qT (a:Int) (a1:Int×Int×(List Int)) (a4:Int):Int→Option (Int ⊕ Int):=fun a0 =>
 (if (decide (a4≤a0)) then ((idx a1.2.2 a).bind fun a5=>(idx a1.2.2 a0).bind fun a6=>(bZ a5 a6).bind fun a3=>some (decide (a3<0))) else (some false)).bind fun a2=>if a2 then (some (.inl (aH a0 1))) else (some (.inr a0))
def qU (a:Int):Int×Int×(List Int)→Option (Int×Int×(List Int) ⊕ Int×(List Int)):=fun a0 =>
 (aL (qQ a a0) a0.1).bind fun a1=>(aL (qT a a0 a1) a0.2.1).bind fun a2=>if (decide (a1>a2)) then (some (.inr (a1,a0.2.2))) else ((idx a0.2.2 a2).bind fun a3=>(idx a0.2.2 a1).bind fun a4=>(idx a0.2.2 a1).bind fun a5=>(idx (List.set a0.2.2 (Int.toNat a1) a3) a2).bind fun a6=>some (.inl ((aF a1 1),(aH a2 1),(List.set (List.set a0.2.2 (Int.toNat a1) a3) (Int.toNat a2) a4))))
def iQ (a:Int) (b:Int) (pivot:Int) (h0:(List Int)):Option (Int×(List Int)):=
 (idx h0 pivot).bind fun x9=>(idx h0 a).bind fun a1=>(idx h0 a).bind fun a2=>(idx (List.set h0 (Int.toNat a) x9) pivot).bind fun a3=>(aL (qU a) ((aF a 1),(aH b 1),(List.set (List.set h0 (Int.toNat a) x9) (Int.toNat pivot) a1))).bind fun a0=>some (a0.1,a0.2)
def tR (a:Int) (b:Int) (pivot:Int) (h0:(List Int)) (x9:Int) (a5:Int):Int→Option (Int ⊕ Int):=fun a0 =>
 (if (decide (a0≤(aH b 1))) then ((idx (List.set (List.set h0 (Int.toNat a) x9) (Int.toNat pivot) a5) a0).bind fun a3=>(idx (List.set (List.set h0 (Int.toNat a) x9) (Int.toNat pivot) a5) a).bind fun a4=>(bZ a3 a4).bind fun a2=>some (decide (a2<0))) else (some false)).bind fun a1=>if a1 then (some (.inl (aF a0 1))) else (some (.inr a0))
def tS (a:Int) (pivot:Int) (h0:(List Int)) (x9:Int) (a6:Int) (a3:Int):Int→Option (Int ⊕ Int):=fun a0 =>
 (if (decide (a3≤a0)) then ((idx (List.set (List.set h0 (Int.toNat a) x9) (Int.toNat pivot) a6) a0).bind fun a4=>(idx (List.set (List.set h0 (Int.toNat a) x9) (Int.toNat pivot) a6) a).bind fun a5=>(bZ a4 a5).bind fun a2=>some (!(decide (a2<0)))) else (some false)).bind fun a1=>if a1 then (some (.inl (aH a0 1))) else (some (.inr a0))
def tT (a:Int) (a1:Int×Int×(List Int)):Int→Option (Int ⊕ Int):=fun a0 =>
 (if (decide (a0≤a1.2.1)) then ((idx a1.2.2 a0).bind fun a4=>(idx a1.2.2 a).bind fun a5=>(bZ a4 a5).bind fun a3=>some (decide (a3<0))) else (some false)).bind fun a2=>if a2 then (some (.inl (aF a0 1))) else (some (.inr a0))
def tU (a:Int) (a1:Int×Int×(List Int)) (a4:Int):Int→Option (Int ⊕ Int):=fun a0 =>
 (if (decide (a4≤a0)) then ((idx a1.2.2 a0).bind fun a5=>(idx a1.2.2 a).bind fun a6=>(bZ a5 a6).bind fun a3=>some (!(decide (a3<0)))) else (some false)).bind fun a2=>if a2 then (some (.inl (aH a0 1))) else (some (.inr a0))
def tV (a:Int):Int×Int×(List Int)→Option (Int×Int×(List Int) ⊕ Int×(List Int)):=fun a0 =>
 (aL (tT a a0) a0.1).bind fun a1=>(aL (tU a a0 a1) a0.2.1).bind fun a2=>if (decide (a1>a2)) then (some (.inr (a2,a0.2.2))) else ((idx a0.2.2 a2).bind fun a3=>(idx a0.2.2 a1).bind fun a4=>(idx a0.2.2 a1).bind fun a5=>(idx (List.set a0.2.2 (Int.toNat a1) a3) a2).bind fun a6=>some (.inl ((aF a1 1),(aH a2 1),(List.set (List.set a0.2.2 (Int.toNat a1) a3) (Int.toNat a2) a4))))
def kU (a:Int) (b:Int) (pivot:Int) (h0:(List Int)):Option (Int×Bool×(List Int)):=
 (idx h0 pivot).bind fun x9=>(idx h0 a).bind fun a3=>(idx h0 a).bind fun b6=>(idx (List.set h0 (Int.toNat a) x9) pivot).bind fun b7=>(aL (tR a b pivot h0 x9 a3) (aF a 1)).bind fun a2=>(aL (tS a pivot h0 x9 a3 a2) (aH b 1)).bind fun a1=>if (decide (a2>a1)) then ((idx (List.set (List.set h0 (Int.toNat a) x9) (Int.toNat pivot) a3) a).bind fun a6=>(idx (List.set (List.set h0 (Int.toNat a) x9) (Int.toNat pivot) a3) a1).bind fun a8=>(idx (List.set (List.set h0 (Int.toNat a) x9) (Int.toNat pivot) a3) a1).bind fun b2=>(idx (List.set (List.set (List.set h0 (Int.toNat a) x9) (Int.toNat pivot) a3) (Int.toNat a1) a6) a).bind fun b3=>some (a1,true,(List.set (List.set (List.set (List.set h0 (Int.toNat a) x9) (Int.toNat pivot) a3) (Int.toNat a1) a6) (Int.toNat a) a8))) else ((idx (List.set (List.set h0 (Int.toNat a) x9) (Int.toNat pivot) a3) a1).bind fun a7=>(idx (List.set (List.set h0 (Int.toNat a) x9) (Int.toNat pivot) a3) a2).bind fun a9=>(idx (List.set (List.set h0 (Int.toNat a) x9) (Int.toNat pivot) a3) a2).bind fun b4=>(idx (List.set (List.set (List.set h0 (Int.toNat a) x9) (Int.toNat pivot) a3) (Int.toNat a2) a7) a1).bind fun b5=>(aL (tV a) ((aF a2 1),(aH a1 1),(List.set (List.set (List.set (List.set h0 (Int.toNat a) x9) (Int.toNat pivot) a3) (Int.toNat a2) a7) (Int.toNat a1) a9))).bind fun a0=>(idx a0.2 a).bind fun a4=>(idx a0.2 a0.1).bind fun a5=>(idx a0.2 a0.1).bind fun b0=>(idx (List.set a0.2 (Int.toNat a0.1) a4) a).bind fun b1=>some (a0.1,false,(List.set (List.set a0.2 (Int.toNat a0.1) a4) (Int.toNat a) a5)))
def fS (self:Int→Int→Int→(List Int)→Option ((List Int))) (a1:Int×Int×Int×Bool×Bool×(List Int)) (a3:Int×(List Int)) (a4:Int×Int×(List Int)):Bool×Bool×(List Int)→Option (Int×Int×Int×Bool×Bool×(List Int) ⊕ (List Int)):=fun a2 =>
 (if (decide (a1.1>0)) then ((idx a2.2.2 (aH a1.1 1)).bind fun b0=>(idx a2.2.2 a4.1).bind fun b1=>(bZ b0 b1).bind fun a7=>some (!(decide (a7<0)))) else (some false)).bind fun a6=>if a6 then ((iQ a1.1 a1.2.1 a4.1 a2.2.2).bind fun a5=>some (.inl (a5.1,a1.2.1,a3.1,a2.1,a2.2.1,a5.2))) else ((kU a1.1 a1.2.1 a4.1 a2.2.2).bind fun a0=>if (decide ((aH a0.1 a1.1)<(aH a1.2.1 a0.1))) then ((self a1.1 a0.1 a3.1 a0.2.2).bind fun a8=>some (.inl ((aF a0.1 1),a1.2.1,a3.1,(decide ((aH a0.1 a1.1) ≥ (jT (aH a1.2.1 a1.1) 8))),a0.2.1,a8))) else ((self (aF a0.1 1) a1.2.1 a3.1 a0.2.2).bind fun a9=>some (.inl (a1.1,a0.1,a3.1,(decide ((aH a1.2.1 a0.1) ≥ (jT (aH a1.2.1 a1.1) 8))),a0.2.1,a9))))
def fT (self:Int→Int→Int→(List Int)→Option ((List Int))) (a3:Int×Int×Int×Bool×Bool×(List Int)) (a4:Int×(List Int)):Int×Int×(List Int)→Option (Int×Int×Int×Bool×Bool×(List Int) ⊕ (List Int)):=fun a0 =>
 (if a3.2.2.2.1 then (if a3.2.2.2.2.1 then (some (true,true,(a0.2.1==1))) else (some (true,false,false))) else (some (false,a3.2.2.2.2.1,false))).bind fun a1=>if a1.2.2 then ((gQ a3.1 a3.2.1 a0.2.2).bind fun a2=>if a2.1 then (some (.inr a2.2)) else (fS self a3 a4 a0 (a1.1,a1.2.1,a2.2))) else (fS self a3 a4 a0 (a1.1,a1.2.1,a0.2.2))
def fU (self:Int→Int→Int→(List Int)→Option ((List Int))) (a2:Int×Int×Int×Bool×Bool×(List Int)):Int×(List Int)→Option (Int×Int×Int×Bool×Bool×(List Int) ⊕ (List Int)):=fun a0 =>
 (jX a0.2 a2.1 a2.2.1).bind fun a1=>if (a1.2==2) then ((jK a2.1 a2.2.1 a0.2).bind fun a3=>fT self a2 a0 ((aH (aH a2.2.1 1) (aH a1.1 a2.1)),1,a3)) else (fT self a2 a0 (a1.1,a1.2,a0.2))
def uS (self:Int→Int→Int→(List Int)→Option ((List Int))):Int×Int×Int×Bool×Bool×(List Int)→Option (Int×Int×Int×Bool×Bool×(List Int) ⊕ (List Int)):=fun a0 =>
 if (decide ((aH a0.2.1 a0.1)≤12)) then ((jF a0.1 a0.2.1 a0.2.2.2.2.2).bind fun a1=>some (.inr a1)) else (if (a0.2.2.1==0) then ((kX a0.1 a0.2.1 a0.2.2.2.2.2).bind fun a2=>some (.inr a2)) else (if (!a0.2.2.2.1) then ((jE a0.1 a0.2.1 a0.2.2.2.2.2).bind fun a3=>fU self a0 ((aH a0.2.2.1 1),a3)) else (fU self a0 (a0.2.2.1,a0.2.2.2.2.2))))
def jI (self:Int→Int→Int→(List Int)→Option ((List Int))) (a:Int) (b:Int) (limit:Int) (h0:(List Int)):Option ((List Int)):=
 (aL (uS self) (a,b,limit,true,true,h0)).bind fun a0=>some a0
def cP:Nat→Int→Int→Int→(List Int)→Option ((List Int))
 | 0=>fun _ _ _ _=>none
 | n+1=>jI (cP n)
def mE (a:Int) (b:Int) (limit:Int) (h0:(List Int)):Option ((List Int)):=cP 1000 a b limit h0
def eI (h0:(List Int)):Option ((List Int)):=
 (Lv (IntKind.wrap .u64 (h0.length:Int))).bind fun r3=>(mE 0 (h0.length:Int) r3 h0).bind fun r4=>some r4
def fC (l:(List Int)):Option ((List Int)):=
 (xI l).bind fun r2=>(eI r2).bind fun r4=>(pJ r4).bind fun r6=>some r6
def wR (a2:(List aE)):(Int×(List Int)×(List Int))→Option ((Int×(List Int)×(List Int)) ⊕ ((List Int)×(List Int))):=fun a0 =>
 if (decide (a0.1<(a2.length:Int))) then ((idx a2 a0.1).bind fun a1=>(app a0.2.1 [a1.X,(aF a1.X a1.W)]).bind fun a3=>(app a0.2.2 [a1.Y,(aF a1.Y a1.H)]).bind fun a4=>some (.inl ((aF a0.1 1),a3,a4))) else (some (.inr (a0.2.1,a0.2.2)))
def Bd (lists:(List (List aE))):(Int×(List Int)×(List Int))→Option ((Int×(List Int)×(List Int)) ⊕ ((List Int)×(List Int))):=fun a0 =>
 if (decide (a0.1<(lists.length:Int))) then ((idx lists a0.1).bind fun a2=>(aL (wR a2) (0,a0.2.1,a0.2.2)).bind fun a1=>some (.inl ((aF a0.1 1),a1.1,a1.2))) else (some (.inr (a0.2.1,a0.2.2)))
def Gg (lists:(List (List aE))):Option (Bz):=
 (aL (Bd lists) (0,[],[])).bind fun a0=>(fC a0.1).bind fun a1=>(fC a0.2).bind fun a2=>some (Bz.mk a1 a2)
def oL (a1:Int×(List (List Bool))):(List (List Bool))→Option (Int×(List (List Bool)) ⊕ (List (List Bool))):=fun a0 =>
 some (.inl ((aF a1.1 1),a0))
def oM (g:Bz) (l:(List aE)) (a2:Int×(List (List Bool))) (a3:Int×(List (List Bool))):Int×(List (List Bool))→Option (Int×(List (List Bool)) ⊕ (List (List Bool))):=fun a0 =>
 if (decide (a0.1<(l.length:Int))) then ((idx l a0.1).bind fun a1=>((idx g.x a2.1).bind fun a6=>if (decide (a1.X≤a6)) then ((idx g.x a2.1).bind fun a7=>if (decide (a7<(aF a1.X a1.W))) then ((idx g.y a3.1).bind fun a8=>if (decide (a1.Y≤a8)) then ((idx g.y a3.1).bind fun a9=>some (decide (a9<(aF a1.Y a1.H)))) else (some false)) else (some false)) else (some false)).bind fun a5=>if a5 then ((idx a0.2 a2.1).bind fun a4=>(idx a4 a3.1).bind fun b0=>oL a0 (List.set a0.2 (Int.toNat a2.1) (List.set a4 (Int.toNat a3.1) true))) else (oL a0 a0.2)) else (some (.inr a0.2))
def oO (g:Bz) (l:(List aE)) (a1:Int×(List (List Bool))) (a2:(List Bool)):Int×(List (List Bool))→Option (Int×(List (List Bool)) ⊕ (List (List Bool))):=fun a0 =>
 if (decide (a0.1<(a2.length:Int))) then ((aL (oM g l a1 a0) (0,a0.2)).bind fun a3=>some (.inl ((aF a0.1 1),a3))) else (some (.inr a0.2))
def tC (g:Bz) (l:(List aE)) (l2:(List (List Bool))):Int×(List (List Bool))→Option (Int×(List (List Bool)) ⊕ (List (List Bool))):=fun a0 =>
 if (decide (a0.1<(l2.length:Int))) then ((mk (aH (g.y.length:Int) 1) false).bind fun a1=>(idx a0.2 a0.1).bind fun a4=>(idx (List.set a0.2 (Int.toNat a0.1) a1) a0.1).bind fun a2=>(aL (oO g l a0 a2) (0,(List.set a0.2 (Int.toNat a0.1) a1))).bind fun a3=>some (.inl ((aF a0.1 1),a3))) else (some (.inr a0.2))
def xM (g:Bz) (l:(List aE)):Option ((List (List Bool))):=
 (mk (imax 0 (aH (g.x.length:Int) 1)) []).bind fun l2=>(aL (tC g l l2) (0,l2)).bind fun a0=>some a0
def Gf (a1:Int×Int):Int→Option ((Int×Int) ⊕ Int):=fun a0 =>
 some (.inl (a0,(aF a1.2 1)))
def Cn (r6:Bz) (a2:Int×Int) (a1:(List Bool)):(Int×Int)→Option ((Int×Int) ⊕ Int):=fun a0 =>
 if (decide (a0.2<(a1.length:Int))) then ((idx a1 a0.2).bind fun a3=>if a3 then ((idx r6.x (aF a2.2 1)).bind fun a4=>(idx r6.x a2.2).bind fun a5=>(idx r6.y (aF a0.2 1)).bind fun a6=>(idx r6.y a0.2).bind fun a7=>Gf a0 (aF a0.1 (cK (aH a4 a5) (aH a6 a7)))) else (Gf a0 a0.1)) else (some (.inr a0.1))
def Co (r6:Bz) (a1:(List (List Bool))):(Int×Int)→Option ((Int×Int) ⊕ Int):=fun a0 =>
 if (decide (a0.2<(a1.length:Int))) then ((idx a1 a0.2).bind fun a2=>(aL (Cn r6 a0 a2) (a0.1,0)).bind fun a3=>some (.inl (a3,(aF a0.2 1)))) else (some (.inr a0.1))
def Jt (l:(List aE)):Option (Int×Int):=
 (Kn [l]).bind fun r4=>if (r4 != 0) then (some (0,r4)) else ((Gg [l]).bind fun r6=>(xM r6 l).bind fun a1=>(aL (Co r6 a1) (0,0)).bind fun a0=>some (a0,0))
def jR (pieces:(List aQ)):(Int×ByteArray×ByteArray×Int×Int×Int×Int×(List aE)×(List aE))→Option ((Int×ByteArray×ByteArray×Int×Int×Int×Int×(List aE)×(List aE)) ⊕ ((Bool×ByteArray×ByteArray×Int×Int×Int×Int×(List aE)×(List aE)) ⊕ (ByteArray×ByteArray×Int×Int×Int×Int×(List aE)×(List aE)))):=fun a0 =>
 if (decide (a0.1<(pieces.length:Int))) then ((Gq (aZ.mk a0.2.1 a0.2.2.1 a0.2.2.2.1 a0.2.2.2.2.1 a0.2.2.2.2.2.1 a0.2.2.2.2.2.2.1 a0.2.2.2.2.2.2.2.1 a0.2.2.2.2.2.2.2.2)).bind fun a2=>(idx pieces a0.1).bind fun a6=>(yX (aZ.mk a0.2.1 a0.2.2.1 a0.2.2.2.1 a0.2.2.2.2.1 a0.2.2.2.2.2.1 a0.2.2.2.2.2.2.1 a0.2.2.2.2.2.2.2.1 a0.2.2.2.2.2.2.2.2) a6.aD).bind fun a1=>if (a1.2.1==4) then (some (.inr (.inl ((a2.2==0),a0.2.1,a0.2.2.1,a0.2.2.2.1,a0.2.2.2.2.1,a0.2.2.2.2.2.1,a0.2.2.2.2.2.2.1,a0.2.2.2.2.2.2.2.1,a0.2.2.2.2.2.2.2.2)))) else ((Gq (aZ.mk a1.1.Name a1.1.aW a1.1.bQ a1.1.bM a1.1.bI a1.1.aY a1.1.aT a1.1.Used)).bind fun a3=>(idx pieces a0.1).bind fun a7=>(Jt a7.aD).bind fun a4=>(if (a2.2 != 0) then (some true) else (if (a1.2.1 != 0) then (some true) else (if (a3.2 != 0) then (some true) else (if (a4.2 != 0) then (some true) else (some (a3.1 != (aH a2.1 a4.1))))))).bind fun a5=>if a5 then (some (.inr (.inl (false,a0.2.1,a0.2.2.1,a0.2.2.2.1,a0.2.2.2.2.1,a0.2.2.2.2.2.1,a0.2.2.2.2.2.2.1,a0.2.2.2.2.2.2.2.1,a0.2.2.2.2.2.2.2.2)))) else (some (.inl ((aF a0.1 1),a1.1.Name,a1.1.aW,a1.1.bQ,a1.1.bM,a1.1.bI,a1.1.aY,a1.1.aT,a1.1.Used))))) else (some (.inr (.inr ((a0.2.1,a0.2.2.1,a0.2.2.2.1,a0.2.2.2.2.1,a0.2.2.2.2.2.1,a0.2.2.2.2.2.2.1,a0.2.2.2.2.2.2.2.1,a0.2.2.2.2.2.2.2.2)))))
def sD (s0:aZ) (pieces:(List aQ)):Option (aZ×Bool×ByteArray×ByteArray×Int×Int×Int×Int×(List aE)×(List aE)):=
 (aL (jR pieces) (0,s0.Name,s0.aW,s0.bQ,s0.bM,s0.bI,s0.aY,s0.aT,s0.Used)).bind fun a2=>match a2 with | .inl a0=>some ((aZ.mk a0.2.1 a0.2.2.1 a0.2.2.2.1 a0.2.2.2.2.1 a0.2.2.2.2.2.1 a0.2.2.2.2.2.2.1 a0.2.2.2.2.2.2.2.1 a0.2.2.2.2.2.2.2.2),a0.1,a0.2.1,a0.2.2.1,a0.2.2.2.1,a0.2.2.2.2.1,a0.2.2.2.2.2.1,a0.2.2.2.2.2.2.1,a0.2.2.2.2.2.2.2.1,a0.2.2.2.2.2.2.2.2) | .inr a1=>some ((aZ.mk a1.1 a1.2.1 a1.2.2.1 a1.2.2.2.1 a1.2.2.2.2.1 a1.2.2.2.2.2.1 a1.2.2.2.2.2.2.1 a1.2.2.2.2.2.2.2),true,a1.1,a1.2.1,a1.2.2.1,a1.2.2.2.1,a1.2.2.2.2.1,a1.2.2.2.2.2.1,a1.2.2.2.2.2.2.1,a1.2.2.2.2.2.2.2)
def jA (a1:(List aQ)):Int×(List (List aE))→Option (Int×(List (List aE)) ⊕ (List (List aE))):=fun a0 =>
 if (decide (a0.1<(a1.length:Int))) then ((idx a1 a0.1).bind fun a3=>(app a0.2 [a3.aD]).bind fun a2=>some (.inl ((aF a0.1 1),a2))) else (some (.inr a0.2))
def jB (j0:eA) (r9:(List aS)×(List Int)×Int) (a3:Int) (a4:(List (List aE))):Int→Option (Int ⊕ (Unit ⊕ Unit)):=fun a0 =>
 if (decide (a0<(r9.2.1.length:Int))) then ((idx j0.Bl a3).bind fun a5=>(idx r9.2.1 a0).bind fun a6=>(idx j0.wF a6).bind fun a7=>(Mk a5 a4 a7 j0.Set).bind fun a1=>(if a1.2.1 then (some true) else (some (a1.2.2.1 != 0))).bind fun a2=>if a2 then (some (.inr (.inl ()))) else (some (.inl (aF a0 1)))) else (some (.inr (.inr (()))))
def jC (j0:eA) (j7:(List aS)) (r9:(List aS)×(List Int)×Int):Int→Option (Int ⊕ (Unit ⊕ Unit)):=fun a0 =>
 if (decide (a0<(j0.Bl.length:Int))) then ((sC j0 r9.1 a0).bind fun a1=>(idx j0.Bl a0).bind fun a6=>(sC j0 j7 a0).bind fun a3=>(sD a6 a3).bind fun a4=>(idx j0.Bl a0).bind fun a7=>(sD a7 a1).bind fun a5=>(if a4.2.1 then (some (!a5.2.1)) else (some true)).bind fun a2=>if a2 then (some (.inr (.inl ()))) else ((aL (jA a1) (0,[])).bind fun a8=>(aL (jB j0 r9 a0 a8) 0).bind fun a9=>match a9 with | .inl b0=>some (.inr (.inl ())) | .inr b1=>some (.inl (aF a0 1)))) else (some (.inr (.inr (()))))
def iZ (j0:eA):(List aS)→Option (Bool):=fun j7 =>
 (Ns j0.Bl j0.wF j0.Set).bind fun r9=>if (r9.2.2 != 0) then ((if ((r9.1.length:Int)==0) then (if ((r9.2.1.length:Int)==0) then ((pX).bind fun a6=>some a6) else (some false)) else (some false)).bind fun a5=>some a5) else ((aL (jC j0 j7 r9) 0).bind fun a2=>match a2 with | .inl a3=>some false | .inr a4=>(if ((aF (r9.1.length:Int) (r9.2.1.length:Int))==(j0.wF.length:Int)) then ((pX).bind fun a1=>some a1) else (some false)).bind fun a0=>some a0)
def wO (j0:eA) (l:(List aS)):Option (Bool):=
 if (decide ((l.length:Int)>40)) then ((pX).bind fun r4=>some r4) else ((Kv j0.Bl j0.wF j0.Set l).bind fun a0=>if (a0.2 != 0) then (iZ j0 []) else (iZ j0 l))
def pH (x0:aQ) (s1:aZ) (turn:Int):Option (Bool):=
 (if (x0.aW.toList==s1.aW.toList) then (if (x0.bQ != s1.bQ) then (some true) else (if (decide (turn<0)) then (some true) else (some (decide (turn>3))))) else (some true)).bind fun j2=>if j2 then (some false) else ((if (x0.bM==0) then (some true) else (some (s1.bM==0))).bind fun j4=>if j4 then (some true) else ((if ((Int.tmod turn 2)==0) then (if (x0.bM==s1.bM) then (some true) else (if ((Int.tmod turn 2)==1) then (some (x0.bM != s1.bM)) else (some false))) else (if ((Int.tmod turn 2)==1) then (some (x0.bM != s1.bM)) else (some false))).bind fun j5=>some j5))
def gL (n:Int):Option (Bool):=
 (if (decide (n ≥ (-1048576))) then (some (decide (n≤1048576))) else (some false)).bind fun j1=>some j1
def eM (r0:aE):Option (Bool):=
 ((gL r0.X).bind fun r9=>if r9 then ((gL r0.Y).bind fun a1=>if a1 then (if (decide (r0.W<1)) then (some true) else (if (decide (r0.H<1)) then (some true) else (if (decide (r0.W>2097152)) then (some true) else (some (decide (r0.H>2097152)))))) else (some true)) else (some true)).bind fun j8=>if j8 then (some false) else (((gL (aF r0.X r0.W)).bind fun a2=>if a2 then ((gL (aF r0.Y r0.H)).bind fun a3=>some a3) else (some false)).bind fun a0=>some a0)
def sM (a:aE) (b:aE):Option (Int):=
 ((eM a).bind fun r9=>if r9 then ((eM b).bind fun a0=>some (!a0)) else (some true)).bind fun j8=>if j8 then (some 0) else (some (imax (imax (imax 0 (aH (aH a.X b.X) b.W)) (aH (aH b.X a.X) a.W)) (imax (imax 0 (aH (aH a.Y b.Y) b.H)) (aH (aH b.Y a.Y) a.H))))
def oB (a:aE) (b:aE):Option (Bool):=
 ((eM a).bind fun r4=>if r4 then ((eM b).bind fun r5=>if r5 then (if (decide (a.X<(aF b.X b.W))) then (if (decide (b.X<(aF a.X a.W))) then (if (decide (a.Y<(aF b.Y b.H))) then (some (decide (b.Y<(aF a.Y a.H)))) else (some false)) else (some false)) else (some false)) else (some false)) else (some false)).bind fun j3=>some j3
def jU (a:(List aE)) (b:(List aE)) (set2:bK) (a4:Int×Bool):(Int×Bool)→Option ((Int×Bool) ⊕ (Unit ⊕ Bool)):=fun a0 =>
 if (decide (a0.1<(b.length:Int))) then ((idx a a4.1).bind fun a5=>(idx b a0.1).bind fun a6=>(sM a5 a6).bind fun a2=>((idx a a4.1).bind fun a7=>(idx b a0.1).bind fun a8=>(oB a7 a8).bind fun a3=>if a3 then (some (true,a0.2)) else (if (decide (a2<set2.Gap)) then (if a0.2 then (some ((!(a2==0)),true)) else (some (true,false))) else (some (false,a0.2)))).bind fun a1=>if a1.1 then (some (.inr (.inl ()))) else (some (.inl ((aF a0.1 1),a1.2)))) else (some (.inr (.inr a0.2)))
def jV (a:(List aE)) (b:(List aE)) (set2:bK):(Int×Bool)→Option ((Int×Bool) ⊕ (Unit ⊕ Unit)):=fun a0 =>
 if (decide (a0.1<(a.length:Int))) then ((aL (jU a b set2 a0) (0,a0.2)).bind fun a2=>match a2 with | .inl a3=>some (.inr (.inl ())) | .inr a1=>some (.inl ((aF a0.1 1),a1))) else (some (.inr (.inr (()))))
def xG (a:(List aE)) (b:(List aE)) (set2:bK):Option (Bool):=
 (aL (jV a b set2) (0,set2.jS)).bind fun a0=>match a0 with | .inl a1=>some false | .inr a2=>some true
def Da (n:Int) (lo:Int) (hi:Int):Option (Bool):=
 (if (decide (n ≥ lo)) then (some (decide (n≤hi))) else (some false)).bind fun j1=>some j1
def Av:Option (ByteArray):=
 some (ByteArray.mk #[32,112,97,114,116,32,109,97,116,101,114,105,97,108,32,98,97,115,101,32,102,108,97,110,103,101,32,104,111,108,101,32,99,117,116,32,102,111,114,109,32,101,97,115,116,32,115,111,117,116,104,32,119,101,115,116,32,110,111,114,116,104,32,117,112,32,100,111,119,110,32,99,108,111,115,101,117,112,32,99,108,111,115,101,100,111,119,110,32,103,114,97,105,110,32,120,32,121,32,116,97,98,108,101,32,97,110,103,108,101,32,109,97,99,104,105,110,101,32,112,117,110,99,104,32,100,105,101,32,102,114,97,109,101,32,103,97,117,103,101,32,112,111,108,121,32,115,116,97,116,105,111,110,115,32])
def iU (text:ByteArray) (s1:ByteArray):Int→Option (Int ⊕ (Unit ⊕ Unit)):=fun a0 =>
 if (decide ((aF (aF a0 (s1.size:Int)) 2)≤(text.size:Int))) then ((UR text a0 (aF (aF a0 (s1.size:Int)) 2)).bind fun a1=>(Ts (ByteArray.mk #[32]) s1).bind fun a2=>(Ts a2 (ByteArray.mk #[32])).bind fun a3=>if (a1.toList==a3.toList) then (some (.inr (.inl ()))) else (some (.inl (aF a0 1)))) else (some (.inr (.inr (()))))
def wL (text:ByteArray) (s1:ByteArray):Option (Bool):=
 (aL (iU text s1) 0).bind fun a0=>match a0 with | .inl a1=>some true | .inr a2=>some false
def gT (s0:ByteArray):Int→Option (Int ⊕ (Unit ⊕ Unit)):=fun a0 =>
 if (decide (a0<(s0.size:Int))) then (((Mu s0 a0).bind fun a3=>if (decide (a3 ≥ 97)) then ((Mu s0 a0).bind fun a4=>some (decide (a4≤122))) else (some false)).bind fun a1=>(if a1 then (some false) else ((Mu s0 a0).bind fun a5=>if (decide (a5<48)) then (some true) else ((Mu s0 a0).bind fun a6=>some (decide (a6>57))))).bind fun a2=>if a2 then (some (.inr (.inl ()))) else (some (.inl (aF a0 1)))) else (some (.inr (.inr (()))))
def gM (s0:ByteArray):Option (Bool):=
 ((Da (s0.size:Int) 1 8).bind fun a6=>if a6 then ((Mu s0 0).bind fun a7=>if (decide (a7<97)) then (some true) else ((Mu s0 0).bind fun a8=>some (decide (a8>122)))) else (some true)).bind fun a3=>if a3 then (some false) else ((aL (gT s0) 0).bind fun a2=>match a2 with | .inl a4=>some false | .inr a5=>(Av).bind fun a0=>(wL a0 s0).bind fun a1=>some (!a1))
def sN (name:ByteArray) (material:ByteArray) (gauge:Int) (grain:Int):Option (Int):=
 ((gM name).bind fun r9=>if r9 then ((gM material).bind fun a1=>some (!a1)) else (some true)).bind fun j8=>if j8 then (some 2) else ((if (decide (gauge<1)) then (some true) else (if (decide (gauge>60)) then (some true) else (if (decide (grain<0)) then (some true) else (some (decide (grain>2)))))).bind fun a0=>if a0 then (some 1) else (some 0))
def iW (l:(List aE)):Int→Option (Int ⊕ (Unit ⊕ Unit)):=fun a0 =>
 if (decide (a0<(l.length:Int))) then ((idx l a0).bind fun a2=>(eM a2).bind fun a1=>if (!a1) then (some (.inr (.inl ()))) else (some (.inl (aF a0 1)))) else (some (.inr (.inr (()))))
def cV (l:(List aE)):Option (Bool):=
 (aL (iW l) 0).bind fun a0=>match a0 with | .inl a1=>some false | .inr a2=>some true
def lR (a:aE) (b:aE):Option (Bool):=
 ((eM a).bind fun r4=>if r4 then ((eM b).bind fun r5=>if r5 then (if (decide (a.X ≥ b.X)) then (if (decide (a.Y ≥ b.Y)) then (if (decide ((aF a.X a.W)≤(aF b.X b.W))) then (some (decide ((aF a.Y a.H)≤(aF b.Y b.H)))) else (some false)) else (some false)) else (some false)) else (some false)) else (some false)).bind fun j3=>some j3
def iY (s0:aZ) (l:(List aE)):Int→Option (Int ⊕ (Unit ⊕ Unit)):=fun a0 =>
 if (decide (a0<(l.length:Int))) then ((idx l a0).bind fun a2=>(lR a2 (aE.mk 0 0 s0.bI s0.aY)).bind fun a1=>if (!a1) then (some (.inr (.inl ()))) else (some (.inl (aF a0 1)))) else (some (.inr (.inr (()))))
def lS (s0:aZ) (l:(List aE)):Option (Bool):=
 (aL (iY s0 l) 0).bind fun a0=>match a0 with | .inl a1=>some false | .inr a2=>some true
def eO (s0:aZ):Option (Int):=
 (sN s0.Name s0.aW s0.bQ s0.bM).bind fun r2=>if (r2 != 0) then (some r2) else ((if (decide (s0.bI<1)) then (some true) else (if (decide (s0.bI>1048576)) then (some true) else (if (decide (s0.aY<1)) then (some true) else (some (decide (s0.aY>1048576)))))).bind fun j4=>if j4 then (some 1) else ((if (decide ((s0.aT.length:Int)>4)) then (some true) else (some (decide ((s0.Used.length:Int)>48)))).bind fun j6=>if j6 then (some 4) else (((cV s0.aT).bind fun a2=>if a2 then ((cV s0.Used).bind fun a3=>some (!a3)) else (some true)).bind fun a0=>if a0 then (some 1) else (((lS s0 s0.aT).bind fun a4=>if a4 then ((lS s0 s0.Used).bind fun a5=>some (!a5)) else (some true)).bind fun a1=>if a1 then (some 13) else (some 0)))))
def uJ (l:(List aE)):(Int×Int×Int)→Option ((Int×Int×Int) ⊕ (Int×Int)):=fun a0 =>
 if (decide (a0.2.2<(l.length:Int))) then ((idx l a0.2.2).bind fun a1=>(idx l a0.2.2).bind fun a2=>some (.inl ((fD a0.1 a1.X),(fD a0.2.1 a2.Y),(aF a0.2.2 1)))) else (some (.inr (a0.1,a0.2.1)))
def nE (l:(List aE)):Option (Int×Int):=
 (idx l 0).bind fun x5=>(idx l 0).bind fun x6=>(aL (uJ l) (x5.X,x6.Y,1)).bind fun a0=>some (a0.1,a0.2)
def jW (r0:aE) (l:(List aE)):Int→Option (Int ⊕ (Unit ⊕ Unit)):=fun a0 =>
 if (decide (a0<(l.length:Int))) then ((idx l a0).bind fun a2=>(oB r0 a2).bind fun a1=>if a1 then (some (.inr (.inl ()))) else (some (.inl (aF a0 1)))) else (some (.inr (.inr (()))))
def fV (r0:aE) (l:(List aE)):Option (Bool):=
 (aL (jW r0 l) 0).bind fun a0=>match a0 with | .inl a1=>some true | .inr a2=>some false
def Aw (a:aE) (b:aE):Option (Bool):=
 (if ((aH (fD (aF a.X a.W) (aF b.X b.W)) (imax a.X b.X))==0) then (if (decide ((aH (fD (aF a.Y a.H) (aF b.Y b.H)) (imax a.Y b.Y))>0)) then (some true) else (if ((aH (fD (aF a.Y a.H) (aF b.Y b.H)) (imax a.Y b.Y))==0) then (some (decide ((aH (fD (aF a.X a.W) (aF b.X b.W)) (imax a.X b.X))>0))) else (some false))) else (if ((aH (fD (aF a.Y a.H) (aF b.Y b.H)) (imax a.Y b.Y))==0) then (some (decide ((aH (fD (aF a.X a.W) (aF b.X b.W)) (imax a.X b.X))>0))) else (some false))).bind fun j1=>some j1
def gU (a1:Int×(List Bool)×(List Int)):((List Bool)×(List Int))→Option ((Int×(List Bool)×(List Int)) ⊕ ((List Bool)×(List Int))):=fun a0 =>
 some (.inl ((aF a1.1 1),a0.1,a0.2))
def dW (l:(List aE)) (a4:Int×(List Bool)×(List Int)):(Int×(List Bool)×(List Int))→Option ((Int×(List Bool)×(List Int)) ⊕ ((List Bool)×(List Int))):=fun a0 =>
 if (decide (a0.1<(l.length:Int))) then (((idx a0.2.1 a0.1).bind fun a5=>if a5 then (some false) else ((idx a0.2.2 a4.1).bind fun a6=>(idx l a6).bind fun a7=>(idx l a0.1).bind fun a8=>(Aw a7 a8).bind fun a3=>some a3)).bind fun a1=>if a1 then ((idx a0.2.1 a0.1).bind fun a9=>(app a0.2.2 [a0.1]).bind fun a2=>gU a0 ((List.set a0.2.1 (Int.toNat a0.1) true),a2)) else (gU a0 (a0.2.1,a0.2.2))) else (some (.inr (a0.2.1,a0.2.2)))
def eY (l:(List aE)):(Int×(List Bool)×(List Int))→Option ((Int×(List Bool)×(List Int)) ⊕ (List Int)):=fun a0 =>
 if (decide (a0.1<(a0.2.2.length:Int))) then ((aL (dW l a0) (0,a0.2.1,a0.2.2)).bind fun a1=>some (.inl ((aF a0.1 1),a1.1,a1.2))) else (some (.inr a0.2.2))
def sV (l:(List aE)):Option (Bool):=
 (mk (l.length:Int) false).bind fun l2=>(idx l2 0).bind fun x4=>(aL (eY l) (0,(List.set l2 (Int.toNat 0) true),[0])).bind fun a0=>some ((a0.length:Int)==(l.length:Int))
def kQ (r0:aE) (l:(List aE)):Int→Option (Int ⊕ (Unit ⊕ Unit)):=fun a0 =>
 if (decide (a0<(l.length:Int))) then (((idx l a0).bind fun a2=>if (decide (r0.X>a2.X)) then ((idx l a0).bind fun a3=>if (decide (r0.Y>a3.Y)) then ((idx l a0).bind fun a4=>(idx l a0).bind fun a5=>if (decide ((aF r0.X r0.W)<(aF a4.X a5.W))) then ((idx l a0).bind fun a6=>(idx l a0).bind fun a7=>some (decide ((aF r0.Y r0.H)<(aF a6.Y a7.H)))) else (some false)) else (some false)) else (some false)).bind fun a1=>if a1 then (some (.inr (.inl ()))) else (some (.inl (aF a0 1)))) else (some (.inr (.inr (()))))
def yM (r0:aE) (l:(List aE)):Option (Bool):=
 (aL (kQ r0 l) 0).bind fun a0=>match a0 with | .inl a1=>some true | .inr a2=>some false
def fG (x0:aQ):Int→Option (Int ⊕ (Unit ⊕ Unit)):=fun a0 =>
 if (decide (a0<(x0.aD.length:Int))) then ((idx x0.aD a0).bind fun a3=>(slc x0.aD 0 a0).bind fun a1=>(fV a3 a1).bind fun a2=>if a2 then (some (.inr (.inl ()))) else (some (.inl (aF a0 1)))) else (some (.inr (.inr (()))))
def fH (x0:aQ) (a1:(List aE)):Int→Option (Int ⊕ (Unit ⊕ Unit)):=fun a0 =>
 if (decide (a0<(a1.length:Int))) then (((idx a1 a0).bind fun a4=>(yM a4 x0.aD).bind fun a3=>if a3 then (if (decide (a0<(x0.bU.length:Int))) then ((idx a1 a0).bind fun a5=>if (a5.W==1) then (some true) else ((idx a1 a0).bind fun a6=>some (a6.H==1))) else (some false)) else (some true)).bind fun a2=>if a2 then (some (.inr (.inl ()))) else (some (.inl (aF a0 1)))) else (some (.inr (.inr (()))))
def fI (a1:(List aE)) (a2:Int):Int→Option (Int ⊕ (Unit ⊕ Unit)):=fun a0 =>
 if (decide (a0<a2)) then ((idx a1 a2).bind fun a4=>(idx a1 a0).bind fun a5=>(sM a4 a5).bind fun a3=>if (a3==0) then (some (.inr (.inl ()))) else (some (.inl (aF a0 1)))) else (some (.inr (.inr (()))))
def fJ (a1:(List aE)):Int→Option (Int ⊕ (Unit ⊕ Unit)):=fun a0 =>
 if (decide (a0<(a1.length:Int))) then ((aL (fI a1 a0) 0).bind fun a2=>match a2 with | .inl a3=>some (.inr (.inl ())) | .inr a4=>some (.inl (aF a0 1))) else (some (.inr (.inr (()))))
def eN (x0:aQ):Option (Int):=
 (sN x0.Name x0.aW x0.bQ x0.bM).bind fun r2=>if (r2 != 0) then (some r2) else ((if (decide ((x0.aD.length:Int)>12)) then (some true) else (if (decide ((x0.bU.length:Int)>12)) then (some true) else (some (decide ((x0.Forms.length:Int)>12))))).bind fun j4=>if j4 then (some 4) else ((if ((x0.aD.length:Int)==0) then (some true) else ((cV x0.aD).bind fun b5=>if b5 then ((cV x0.bU).bind fun b6=>if b6 then ((cV x0.Forms).bind fun b7=>some (!b7)) else (some true)) else (some true))).bind fun a9=>if a9 then (some 1) else ((nE x0.aD).bind fun a6=>(if (a6.1 != 0) then (some true) else (some (a6.2 != 0))).bind fun b0=>if b0 then (some 1) else ((aL (fG x0) 0).bind fun a3=>match a3 with | .inl a7=>some 7 | .inr a8=>(sV x0.aD).bind fun a2=>if (!a2) then (some 6) else ((app [] x0.bU).bind fun a1=>(app a1 x0.Forms).bind fun a0=>(aL (fH x0 a0) 0).bind fun a4=>match a4 with | .inl b1=>some 13 | .inr b2=>(aL (fJ a0) 0).bind fun a5=>match a5 with | .inl b3=>some 7 | .inr b4=>some 0)))))
def jH (set0:bK):Option (Bool):=
 (if (decide (set0.Gap ≥ 0)) then (if (decide (set0.Gap≤14400)) then (if (decide (set0.bF ≥ 0)) then (some (decide (set0.bF≤14400))) else (some false)) else (some false)) else (some false)).bind fun j1=>some j1
def uG (a1:Int×(List aE)) (a2:aE):(Int×Int)→Option (Int×(List aE) ⊕ (List aE)):=fun a0 =>
 (app a1.2 [(aE.mk a0.1 a0.2 a2.W a2.H)]).bind fun a3=>some (.inl ((aF a1.1 1),a3))
def oC (l:(List aE)) (x1:Int) (y:Int):Int×(List aE)→Option (Int×(List aE) ⊕ (List aE)):=fun a1 =>
 if (decide (a1.1<(l.length:Int))) then ((idx l a1.1).bind fun a0=>(if (decide (a0.X>(-2147483648))) then (if (decide (a0.X<2147483648)) then (if (decide (a0.Y>(-2147483648))) then (some (decide (a0.Y<2147483648))) else (some false)) else (some false)) else (some false)).bind fun a2=>if a2 then (uG a1 a0 ((aF a0.X x1),(aF a0.Y y))) else (uG a1 a0 (a0.X,a0.Y))) else (some (.inr a1.2))
def nD (l:(List aE)) (x1:Int) (y:Int):Option ((List aE)):=
 (aL (oC l x1 y) (0,[])).bind fun a0=>some a0
def oR (x0:aQ) (dx:Int) (dy:Int):Option (aQ):=
 (nD x0.aD dx dy).bind fun r2=>(nD x0.bU dx dy).bind fun r4=>(nD x0.Forms dx dy).bind fun r6=>some (aQ.mk x0.Name x0.aW x0.bQ x0.bM r2 r4 r6)
def lV (l:(List aE)):Int×(List aE)→Option (Int×(List aE) ⊕ (List aE)):=fun a0 =>
 if (decide (a0.1<(l.length:Int))) then ((idx l a0.1).bind fun a1=>(app a0.2 [(aE.mk (rD (aF a1.Y a1.H)) a1.X a1.H a1.W)]).bind fun a2=>some (.inl ((aF a0.1 1),a2))) else (some (.inr a0.2))
def kR (l:(List aE)):Option ((List aE)):=
 (aL (lV l) (0,[])).bind fun a0=>some a0
def iX (turn:Int):(Int×(List aE)×(List aE)×(List aE))→Option ((Int×(List aE)×(List aE)×(List aE)) ⊕ ((List aE)×(List aE)×(List aE))):=fun a0 =>
 if (decide (a0.1<turn)) then ((kR a0.2.1).bind fun a1=>(kR a0.2.2.1).bind fun a2=>(kR a0.2.2.2).bind fun a3=>some (.inl ((aF a0.1 1),a1,a2,a3))) else (some (.inr (a0.2.1,a0.2.2.1,a0.2.2.2)))
def wN (x0:aQ) (turn:Int):Option (aQ×ByteArray×ByteArray×Int×Int):=
 (oR x0 0 0).bind fun r2=>(aL (iX turn) (0,r2.aD,r2.bU,r2.Forms)).bind fun a1=>(nE a1.1).bind fun a2=>(oR (aQ.mk r2.Name r2.aW r2.bQ r2.bM a1.1 a1.2.1 a1.2.2) (rD a2.1) (rD a2.2)).bind fun a0=>some (a0,a0.Name,a0.aW,a0.bQ,a0.bM)
def mI (x0:aQ) (at1:aS):Option (aQ×Int×ByteArray×ByteArray×Int×Int):=
 (eN x0).bind fun r2=>if (r2 != 0) then (some ((aQ.mk ByteArray.empty ByteArray.empty 0 0 [] [] []),r2,ByteArray.empty,ByteArray.empty,0,0)) else ((if (decide (at1.zK<0)) then (some true) else (some (decide (at1.zK>3)))).bind fun j4=>if j4 then (some ((aQ.mk ByteArray.empty ByteArray.empty 0 0 [] [] []),1,ByteArray.empty,ByteArray.empty,0,0)) else (((gL at1.X).bind fun a4=>if a4 then ((gL at1.Y).bind fun a5=>some (!a5)) else (some true)).bind fun a2=>if a2 then (some ((aQ.mk ByteArray.empty ByteArray.empty 0 0 [] [] []),4,ByteArray.empty,ByteArray.empty,0,0)) else ((wN x0 at1.zK).bind fun a1=>(oR (aQ.mk a1.1.Name a1.1.aW a1.1.bQ a1.1.bM a1.1.aD a1.1.bU a1.1.Forms) at1.X at1.Y).bind fun a0=>((cV a0.aD).bind fun a6=>if a6 then ((cV a0.bU).bind fun a7=>if a7 then ((cV a0.Forms).bind fun a8=>some (!a8)) else (some true)) else (some true)).bind fun a3=>if a3 then (some ((aQ.mk ByteArray.empty ByteArray.empty 0 0 [] [] []),4,ByteArray.empty,ByteArray.empty,0,0)) else (some (a0,0,a0.Name,a0.aW,a0.bQ,a0.bM)))))
def sW (n:Int) (h380:(List Int)):Int→Option (Int ⊕ Int):=fun a0 =>
 (if (decide (a0>0)) then ((idx h380 (aH a0 1)).bind fun a2=>some (decide (a2>n))) else (some false)).bind fun a1=>if a1 then (some (.inl (aH a0 1))) else (some (.inr a0))
def sX (a3:Int):Int×(List Int)→Option (Int×(List Int) ⊕ (List Int)):=fun a0 =>
 if (decide (a0.1>a3)) then ((idx a0.2 (aH a0.1 1)).bind fun a1=>(idx a0.2 a0.1).bind fun a2=>some (.inl ((aH a0.1 1),(List.set a0.2 (Int.toNat a0.1) a1)))) else (some (.inr a0.2))
def iS (n:Int) (h380:(List Int)):Option ((List Int)):=
 (aL (sW n h380) (h380.length:Int)).bind fun a1=>(if (decide (a1>0)) then ((idx h380 (aH a1 1)).bind fun a5=>some (a5==n)) else (some false)).bind fun a3=>if a3 then (some h380) else ((app h380 [0]).bind fun a2=>(aL (sX a1) ((aH (a2.length:Int) 1),a2)).bind fun a0=>(idx a0 a1).bind fun a4=>some (List.set a0 (Int.toNat a1) n))
def pI (l:(List aE)):(Int×(List Int)×(List Int))→Option ((Int×(List Int)×(List Int)) ⊕ ((List Int)×(List Int))):=fun a0 =>
 if (decide (a0.1<(l.length:Int))) then ((idx l a0.1).bind fun a5=>(iS a5.X a0.2.1).bind fun a1=>(idx l a0.1).bind fun a6=>(idx l a0.1).bind fun a7=>(iS (aF a6.X a7.W) a1).bind fun a2=>(idx l a0.1).bind fun a8=>(iS a8.Y a0.2.2).bind fun a3=>(idx l a0.1).bind fun a9=>(idx l a0.1).bind fun b0=>(iS (aF a9.Y b0.H) a3).bind fun a4=>some (.inl ((aF a0.1 1),a2,a4))) else (some (.inr (a0.2.1,a0.2.2)))
def yL (l:(List aE)):Option ((List Int)×(List Int)):=
 (aL (pI l) (0,[],[])).bind fun a0=>some (a0.1,a0.2)
def mU (l:(List aE)) (x1:Int) (y:Int):Int→Option (Int ⊕ (Unit ⊕ Unit)):=fun a1 =>
 if (decide (a1<(l.length:Int))) then ((idx l a1).bind fun a0=>(if (decide (a0.X≤x1)) then (if (decide (x1<(aF a0.X a0.W))) then (if (decide (a0.Y≤y)) then (some (decide (y<(aF a0.Y a0.H)))) else (some false)) else (some false)) else (some false)).bind fun a2=>if a2 then (some (.inr (.inl ()))) else (some (.inl (aF a1 1)))) else (some (.inr (.inr (()))))
def wM (l:(List aE)) (x1:Int) (y:Int):Option (Bool):=
 (aL (mU l x1 y) 0).bind fun a0=>match a0 with | .inl a1=>some true | .inr a2=>some false
def vP (a1:Int×Int):Int→Option ((Int×Int) ⊕ Int):=fun a0 =>
 some (.inl (a0,(aF a1.2 1)))
def kO (l:(List aE)) (r2:(List Int)×(List Int)) (a1:Int×Int):(Int×Int)→Option ((Int×Int) ⊕ Int):=fun a0 =>
 if (decide ((aF a0.2 1)<(r2.2.length:Int))) then ((idx r2.1 a1.2).bind fun a3=>(idx r2.2 a0.2).bind fun a4=>(wM l a3 a4).bind fun a2=>if a2 then ((idx r2.1 (aF a1.2 1)).bind fun a5=>(idx r2.1 a1.2).bind fun a6=>(idx r2.2 (aF a0.2 1)).bind fun a7=>(idx r2.2 a0.2).bind fun a8=>vP a0 (aF a0.1 (cK (aH a5 a6) (aH a7 a8)))) else (vP a0 a0.1)) else (some (.inr a0.1))
def kP (l:(List aE)) (r2:(List Int)×(List Int)):(Int×Int)→Option ((Int×Int) ⊕ Int):=fun a0 =>
 if (decide ((aF a0.2 1)<(r2.1.length:Int))) then ((aL (kO l r2 a0) (a0.1,0)).bind fun a1=>some (.inl (a1,(aF a0.2 1)))) else (some (.inr a0.1))
def yJ (l:(List aE)):Option (Int):=
 (yL l).bind fun r2=>(aL (kP l r2) (0,0)).bind fun a0=>some a0
def Fj (s0:aZ):Option (Int):=
 (app [] s0.aT).bind fun l7=>(app l7 s0.Used).bind fun l8=>(yJ l8).bind fun r9=>some (aH (cK s0.bI s0.aY) r9)
def iO (s0:aZ) (l:(List aE)):Int→Option (Int ⊕ (Unit ⊕ Unit)):=fun a0 =>
 if (decide (a0<(l.length:Int))) then (((idx l a0).bind fun a6=>(fV a6 s0.aT).bind fun a3=>if a3 then (some true) else ((idx l a0).bind fun a7=>(fV a7 s0.Used).bind fun a4=>if a4 then (some true) else ((idx l a0).bind fun a8=>(slc l 0 a0).bind fun a2=>(fV a8 a2).bind fun a5=>some a5))).bind fun a1=>if a1 then (some (.inr (.inl ()))) else (some (.inl (aF a0 1)))) else (some (.inr (.inr (()))))
def Cd (s0:aZ) (l:(List aE)):Option (aZ×Int×ByteArray×ByteArray×Int×Int×Int×Int):=
 (eO s0).bind fun r2=>if (r2 != 0) then (some ((aZ.mk ByteArray.empty ByteArray.empty 0 0 0 0 [] []),r2,ByteArray.empty,ByteArray.empty,0,0,0,0)) else (if (decide ((aF (s0.Used.length:Int) (l.length:Int))>48)) then (some ((aZ.mk ByteArray.empty ByteArray.empty 0 0 0 0 [] []),4,ByteArray.empty,ByteArray.empty,0,0,0,0)) else ((cV l).bind fun r6=>if (!r6) then (some ((aZ.mk ByteArray.empty ByteArray.empty 0 0 0 0 [] []),1,ByteArray.empty,ByteArray.empty,0,0,0,0)) else ((lS s0 l).bind fun a6=>if (!a6) then (some ((aZ.mk ByteArray.empty ByteArray.empty 0 0 0 0 [] []),13,ByteArray.empty,ByteArray.empty,0,0,0,0)) else ((aL (iO s0 l) 0).bind fun a3=>match a3 with | .inl a4=>some ((aZ.mk ByteArray.empty ByteArray.empty 0 0 0 0 [] []),7,ByteArray.empty,ByteArray.empty,0,0,0,0) | .inr a5=>(app [] s0.aT).bind fun a0=>(app [] s0.Used).bind fun a1=>(app a1 l).bind fun a2=>some ((aZ.mk s0.Name s0.aW s0.bQ s0.bM s0.bI s0.aY a0 a2),0,s0.Name,s0.aW,s0.bQ,s0.bM,s0.bI,s0.aY)))))
def uH (sheets:(List aZ)):Int→Option (Int ⊕ (Int ⊕ Unit)):=fun a0 =>
 if (decide (a0<(sheets.length:Int))) then ((idx sheets a0).bind fun a2=>(eO a2).bind fun a1=>if (a1 != 0) then (some (.inr (.inl a1))) else (some (.inl (aF a0 1)))) else (some (.inr (.inr (()))))
def uI (pieces:(List aQ)):Int→Option (Int ⊕ (Int ⊕ Unit)):=fun a1 =>
 if (decide (a1<(pieces.length:Int))) then ((idx pieces a1).bind fun a2=>(eN a2).bind fun a0=>if (a0 != 0) then (some (.inr (.inl a0))) else (some (.inl (aF a1 1)))) else (some (.inr (.inr (()))))
def xH (sheets:(List aZ)) (pieces:(List aQ)):Option (Int):=
 (if (decide ((sheets.length:Int)>4)) then (some true) else (some (decide ((pieces.length:Int)>8)))).bind fun j2=>if j2 then (some 4) else ((aL (uH sheets) 0).bind fun a4=>match a4 with | .inl a3=>some a3 | .inr a5=>(aL (uI pieces) 0).bind fun a1=>match a1 with | .inl a0=>some a0 | .inr a2=>some 0)
def kS (l:(List aE)) (s1:aZ) (set2:bK):Int→Option (Int ⊕ (Unit ⊕ Unit)):=fun a0 =>
 if (decide (a0<(l.length:Int))) then (((idx l a0).bind fun a5=>(lR a5 (aE.mk set2.bF set2.bF (aH s1.bI (cK 2 set2.bF)) (aH s1.aY (cK 2 set2.bF)))).bind fun a2=>if a2 then ((idx l a0).bind fun a6=>(fV a6 s1.aT).bind fun a3=>if a3 then (some true) else ((idx l a0).bind fun a7=>(fV a7 s1.Used).bind fun a4=>some a4)) else (some true)).bind fun a1=>if a1 then (some (.inr (.inl ()))) else (some (.inl (aF a0 1)))) else (some (.inr (.inr (()))))
def yN (l:(List aE)) (s1:aZ) (set2:bK):Option (Bool):=
 (aL (kS l s1 set2) 0).bind fun a0=>match a0 with | .inl a1=>some false | .inr a2=>some true
def lT (l:(List aS)) (at4:aS):Int→Option (Int ⊕ (Unit ⊕ Unit)):=fun a0 =>
 if (decide (a0<(l.length:Int))) then ((idx l a0).bind fun a1=>if (a1.aQ==at4.aQ) then (some (.inr (.inl ()))) else (some (.inl (aF a0 1)))) else (some (.inr (.inr (()))))
def lU (pieces:(List aQ)) (set2:bK) (l:(List aS)) (at4:aS) (r8:aQ×Int×ByteArray×ByteArray×Int×Int):Int→Option (Int ⊕ (Unit ⊕ Unit)):=fun a0 =>
 if (decide (a0<(l.length:Int))) then ((idx l a0).bind fun a4=>(idx pieces a4.aQ).bind fun a5=>(idx l a0).bind fun a6=>(mI a5 a6).bind fun a2=>((idx l a0).bind fun a7=>if (a7.aZ==at4.aZ) then ((xG r8.1.aD a2.1.aD set2).bind fun a3=>some (!a3)) else (some false)).bind fun a1=>if a1 then (some (.inr (.inl ()))) else (some (.inl (aF a0 1)))) else (some (.inr (.inr (()))))
def zX (sheets:(List aZ)) (pieces:(List aQ)) (set2:bK) (l:(List aS)) (at4:aS):Option (Int):=
 (if (decide (at4.aQ<0)) then (some true) else (if (decide (at4.aQ ≥ (pieces.length:Int))) then (some true) else (if (decide (at4.aZ<0)) then (some true) else (some (decide (at4.aZ ≥ (sheets.length:Int))))))).bind fun j2=>if j2 then (some 1) else ((idx pieces at4.aQ).bind fun x7=>(mI x7 at4).bind fun r8=>if (r8.2.1 != 0) then (some 1) else ((aL (lT l at4) 0).bind fun a7=>match a7 with | .inl a8=>some 12 | .inr a9=>(idx sheets at4.aZ).bind fun a1=>((pH (aQ.mk r8.1.Name r8.1.aW r8.1.bQ r8.1.bM r8.1.aD r8.1.bU r8.1.Forms) a1 at4.zK).bind fun a5=>if a5 then ((yN r8.1.aD a1 set2).bind fun a6=>some (!a6)) else (some true)).bind fun a4=>if a4 then (some 13) else ((aL (lU pieces set2 l at4 r8) 0).bind fun a0=>match a0 with | .inl a2=>some 7 | .inr a3=>some 0)))
def iA (sheets:(List aZ)) (pieces:(List aQ)) (set2:bK) (l:(List aS)):Int→Option (Int ⊕ ((Int×Int) ⊕ Unit)):=fun a1 =>
 if (decide (a1<(l.length:Int))) then ((slc l 0 a1).bind fun a2=>(idx l a1).bind fun a3=>(zX sheets pieces set2 a2 a3).bind fun a0=>if (a0 != 0) then (some (.inr (.inl (a1,a0)))) else (some (.inl (aF a1 1)))) else (some (.inr (.inr (()))))
def Df (sheets:(List aZ)) (pieces:(List aQ)) (set2:bK) (l:(List aS)):Option (Int×Int):=
 (xH sheets pieces).bind fun r2=>if (r2 != 0) then (some (0,r2)) else ((jH set2).bind fun r6=>if (!r6) then (some (0,1)) else ((aL (iA sheets pieces set2 l) 0).bind fun a1=>match a1 with | .inl a0=>some (a0.1,a0.2) | .inr a2=>some (0,0)))
theorem PI (n:Int) (h:¬ n<0) (h3:¬ n>3):Int.tmod n 2=0∨Int.tmod n 2=1:=by
 have:n=0∨n=1∨n=2∨n=3:=by omega
 rcases this with rfl | rfl | rfl | rfl <;> decide
theorem Ga (x:aQ) (s:aZ) (t:Int):∃ b,kA x s t=some b∧pH x s t=some b:=by
 unfold kA pH mG
 cases hm:x.aW.toList==s.aW.toList with
 | false=>exact ⟨false,by simp,by simp⟩
 | true =>
   by_cases hg:x.bQ=s.bQ
   ·by_cases h0 : t<0
    ·exact ⟨false,by simp [hg,show ¬ 0≤t by omega],by simp [hg,h0]⟩
    ·by_cases h3 : t>3
     ·exact ⟨false,by simp [hg,show 0≤t by omega,show ¬ t≤3 by omega],by simp [hg,h0,h3]⟩
     ·refine ⟨if x.bM=0 then true else if s.bM=0 then true else ((x.bM==s.bM)==(Int.tmod t 2==0)), ?_, ?_⟩
      ·simp only [hg,bne_self_eq_false,Bool.false_eq_true,if_false,if_true,show (0≤t)=True by simp;omega,show (t≤3)=True by simp;omega,decide_true,Option.bind_some,Bool.not_true,beq_iff_eq]
       by_cases q1:x.bM=0 <;> by_cases q2:s.bM=0 <;> simp [q1,q2]
      ·simp only [hg,bne_self_eq_false,Bool.false_eq_true,if_false,if_true,h0,h3,decide_false,Option.bind_some,beq_iff_eq]
       by_cases q1:x.bM=0
       ·simp [q1]
       ·by_cases q2:s.bM=0
        ·simp [q1,q2]
        ·rcases PI t h0 h3 with e | e
         ·by_cases q3:x.bM=s.bM
          ·simp [e,q3,q2]
          ·simp [q1,q2,e,q3]
         ·by_cases q3:x.bM=s.bM
          ·simp [e,q3,q2]
          ·have q4:(x.bM==s.bM)=false:=by rw [beq_eq_false_iff_ne];exact q3
           simp [q1,q2,e,q3,bne]
   ·exact ⟨false,by simp [hg],by simp [hg]⟩
def wb (m n:Int):Bool:=decide (-m≤n)&&decide (n≤m)
theorem Ib {m n:Int}:wb m n=true↔-m≤n∧n≤m:=by unfold wb;simp only [Bool.and_eq_true,decide_eq_true_eq]
theorem KI (n m:Int) (h : -1000000000≤m∧m≤1000000000):Ip n m=some (wb m n):=by
 unfold Ip wb
 rw [Nk (by omega) (by omega)]
 by_cases h1 : -m≤n <;> simp [h1]
def vR (r:aE):Prop:=(-1048576≤r.X∧r.X≤1048576)∧(-1048576≤r.Y∧r.Y≤1048576)∧0<r.W∧0<r.H∧r.X+r.W≤1048576∧r.Y+r.H≤1048576
instance (r:aE):Decidable (vR r):=by unfold vR;infer_instance
theorem RS (x w:Int):vE x w=some (decide ((-1048576≤x∧x≤1048576)∧0<w∧x+w≤1048576)):=by
 unfold vE
 simp only [KI _ 1048576 (by omega),Option.bind_some]
 by_cases h1:wb 1048576 x=true
 ·have h1':=Ib.1 h1
  by_cases h2:0<w
  ·by_cases h3:w≤2097152
   ·rw [aP (by omega) (by omega)]
    simp [h1,h2,h3,h1']
   ·have:¬ x+w≤1048576:=by omega
    simp [h1,h2,h3,this]
  ·simp [h1,h2]
 ·have h1':¬ (-1048576≤x∧x≤1048576):=fun q=>h1 (Ib.2 q)
  simp [h1];intro a b;exact absurd ⟨a,b⟩ h1'
theorem iF (r:aE):fA r=some (decide (vR r)):=by
 unfold fA
 simp only [RS,Option.bind_some]
 by_cases h1:(-1048576≤r.X∧r.X≤1048576)∧0<r.W∧r.X+r.W≤1048576
 ·by_cases h2:(-1048576≤r.Y∧r.Y≤1048576)∧0<r.H∧r.Y+r.H≤1048576
  ·have:vR r:=by unfold vR;omega
   simp [h1,h2,this]
  ·have:¬ vR r:=by unfold vR;omega
   simp only [h1,h2,this,decide_true,decide_false,and_self];rfl
 ·have:¬ vR r:=by unfold vR;omega
  simp only [h1,this,decide_false];rfl
def pL (a b:aE):Prop:=vR a∧vR b∧b.X≤a.X∧a.X+a.W≤b.X+b.W∧b.Y≤a.Y∧a.Y+a.H≤b.Y+b.H
instance (a b:aE):Decidable (pL a b):=by unfold pL;infer_instance
theorem Mw (a b:aE):By a b=some (decide (pL a b)):=by
 unfold By pL
 simp only [iF,Option.bind_some]
 by_cases h1:vR a
 ·by_cases h2:vR b
  ·have h1':=h1;have h2':=h2
   unfold vR at h1' h2'
   rw [aP (by omega) (by omega),aP (by omega) (by omega),aP (by omega) (by omega),aP (by omega) (by omega)]
   by_cases h3:b.X≤a.X <;> by_cases h4:a.X+a.W≤b.X+b.W <;> by_cases h5:b.Y≤a.Y <;> simp [h1,h2,h3,h4,h5]
  ·simp [h1,h2]
 ·simp [h1]
theorem GL (n:Int):gL n=some (wb 1048576 n):=by
 unfold gL wb
 by_cases h1 : -1048576≤n <;> simp [h1]
theorem Pw (r:aE):eM r=some (decide (vR r)):=by
 unfold eM
 simp only [GL,Option.bind_some]
 by_cases h1:wb 1048576 r.X=true
 ·by_cases h2 : wb 1048576 r.Y=true
  ·have h1':=Ib.1 h1
   have h2':=Ib.1 h2
   by_cases h3:r.W<1
   ·have:¬ vR r:=by unfold vR;omega
    simp [h1,h2,h3,this]
   ·by_cases h4:r.H<1
    ·have:¬ vR r:=by unfold vR;omega
     simp [h1,h2,h3,h4,this]
    ·by_cases h5:r.W>2097152
     ·have:¬ vR r:=by unfold vR;omega
      simp [h1,h2,h3,h4,h5,this]
     ·by_cases h6:r.H>2097152
      ·have:¬ vR r:=by unfold vR;omega
       simp [h1,h2,h3,h4,h5,h6,this]
      ·rw [aP (by omega) (by omega),aP (by omega) (by omega)]
       simp only [h1,h2,h3,h4,h5,h6,if_true,decide_false,Bool.false_eq_true,if_false,Option.bind_some]
       by_cases h7:wb 1048576 (r.X+r.W)=true
       ·have h7':=Ib.1 h7
        by_cases h8:wb 1048576 (r.Y+r.H)=true
        ·have h8':=Ib.1 h8
         have:vR r:=by unfold vR;omega
         simp [h7,h8,this]
        ·have h8':¬ (-1048576≤r.Y+r.H∧r.Y+r.H≤1048576):=fun q=>h8 (Ib.2 q)
         have:¬ vR r:=by unfold vR;omega
         simp [h7,h8,this]
       ·have h7':¬ (-1048576≤r.X+r.W∧r.X+r.W≤1048576):=fun q=>h7 (Ib.2 q)
        have:¬ vR r:=by unfold vR;omega
        simp [h7,this]
  ·have h2':¬ (-1048576≤r.Y∧r.Y≤1048576):=fun q=>h2 (Ib.2 q)
   have:¬ vR r:=fun q=>h2' q.2.1
   simp [h1,h2,this]
 ·have h1':¬ (-1048576≤r.X∧r.X≤1048576):=fun q=>h1 (Ib.2 q)
  have:¬ vR r:=fun q=>h1' q.1
  simp [h1,this]
theorem Xv (a b:aE):lR a b=some (decide (pL a b)):=by
 unfold lR pL
 simp only [Pw,Option.bind_some]
 by_cases h1:vR a
 ·by_cases h2:vR b
  ·have h1':=h1;have h2':=h2
   unfold vR at h1' h2'
   rw [aP (by omega) (by omega),aP (by omega) (by omega),aP (by omega) (by omega),aP (by omega) (by omega)]
   by_cases h3:b.X≤a.X <;> by_cases h4:a.X+a.W≤b.X+b.W <;> by_cases h5:b.Y≤a.Y <;> simp [h1,h2,h3,h4,h5]
  ·simp [h1,h2]
 ·simp [h1]
theorem rQ {S R:Type} (n:Nat) (body:S→Option (S ⊕ R)) (st:Nat→S) (q:Nat→Bool) (no yes:R) {s0:S} (h0:st 0=s0) (step:∀ k:Nat,k<n→body (st k)=if q k then some (.inr yes) else some (.inl (st (k+1)))) (fin:body (st n)=some (.inr no)) :
  aL body s0=some (if (List.range n).any q then yes else no):=by
 have key:∀ (m k:Nat),k+m=n→(∀ j,j<k→q j=false)→aL body (st k)=some (if (List.range n).any q then yes else no):=by
  intro m
  induction m with
  | zero =>
    intro k h hb
    obtain rfl:k=n:=by omega
    have:(List.range k).any q=false:=by
     rw [List.any_eq_false];intro j hj;rw [hb j (List.mem_range.1 hj)];simp
    rw [cM fin,this];rfl
  | succ m ih =>
    intro k h hb
    have hs:=step k (by omega)
    by_cases hq:q k=true
    ·rw [if_pos hq] at hs
     have:(List.range n).any q=true:=List.any_eq_true.2 ⟨k,List.mem_range.2 (by omega),hq⟩
     rw [cM hs,this];rfl
    ·rw [if_neg hq] at hs
     rw [eW hs]
     refine ih (k+1) (by omega) fun j hj=>?_
     by_cases hjk:j=k
     ·subst hjk;simpa using hq
     ·exact hb j (by omega)
 rw [← h0]
 exact key n 0 (by omega) (fun j hj=>absurd hj (by omega))
theorem HS {α:Type} (l:List α) (q:α→Bool) (p:Nat→Bool) (h:∀ k x,l[k]?=some x→p k=q x):(List.range l.length).any p=l.any q:=by
 rw [Bool.eq_iff_iff,List.any_eq_true,List.any_eq_true]
 constructor
 ·rintro ⟨k,hk,hp⟩
  have hk':=List.mem_range.1 hk
  have hx:l[k]?=some l[k]:=by simp
  exact ⟨l[k],List.getElem_mem hk',by rw [← h k _ hx];exact hp⟩
 ·rintro ⟨x,hx,hq⟩
  obtain ⟨k,hk⟩:=List.mem_iff_getElem?.1 hx
  exact ⟨k,List.mem_range.2 (List.getElem?_eq_some_iff.1 hk).1,by rw [h k _ hk];exact hq⟩
theorem dH {α S R:Type} (l:List α) (body:S→Option (S ⊕ R)) (st:Nat→S) (q:α→Bool) (no yes:R) {s0:S} (h0:st 0=s0) (step:∀ (k:Nat) (x:α),l[k]?=some x→body (st k)=if q x then some (.inr yes) else some (.inl (st (k+1)))) (fin:body (st l.length)=some (.inr no)) :
  aL body s0=some (if l.any q then yes else no):=by
 rw [rQ l.length body st (fun k=>match l[k]? with | some x=>q x | none=>false) no yes h0 (fun k hk=>?_) fin]
 ·rw [HS l q _ (fun k x h=>by rw [h])]
 ·have hx:l[k]?=some l[k]:=by simp
  rw [step k _ hx,hx]
def ovR (a b:aE):Prop:=vR a∧vR b∧a.X<b.X+b.W∧b.X<a.X+a.W∧a.Y<b.Y+b.H∧b.Y<a.Y+a.H
instance (a b:aE):Decidable (ovR a b):=by unfold ovR;infer_instance
theorem Gt (a b:aE):wK a b=some (decide (ovR a b)):=by
 unfold wK ovR
 simp only [iF,Option.bind_some]
 by_cases h1:vR a
 ·by_cases h2:vR b
  ·have h1':=h1;have h2':=h2
   unfold vR at h1' h2'
   rw [aP (by omega) (by omega),aP (by omega) (by omega),aP (by omega) (by omega),aP (by omega) (by omega)]
   by_cases h3:a.X<b.X+b.W <;> by_cases h4:b.X<a.X+a.W <;> by_cases h5:a.Y<b.Y+b.H <;> simp [h1,h2,h3,h4,h5]
  ·simp [h1,h2]
 ·simp [h1]
theorem Sm (a b:aE):oB a b=some (decide (ovR a b)):=by
 unfold oB ovR
 simp only [Pw,Option.bind_some]
 by_cases h1:vR a
 ·by_cases h2:vR b
  ·have h1':=h1;have h2':=h2
   unfold vR at h1' h2'
   rw [aP (by omega) (by omega),aP (by omega) (by omega),aP (by omega) (by omega),aP (by omega) (by omega)]
   by_cases h3:a.X<b.X+b.W <;> by_cases h4:b.X<a.X+a.W <;> by_cases h5:a.Y<b.Y+b.H <;> simp [h1,h2,h3,h4,h5]
  ·simp [h1,h2]
 ·simp [h1]
def Cj (a b:aE):Int:=if vR a∧vR b then max 0 (max (max (b.X-(a.X+a.W)) (a.X-(b.X+b.W))) (max (b.Y-(a.Y+a.H)) (a.Y-(b.Y+b.H)))) else 0
theorem Kq (a b:Int):imax a b=max a b:=by unfold imax;split <;> omega
theorem Nj (a b:Int):fD a b=min a b:=by unfold fD;split <;> omega
theorem Sk (a b:aE):Ad a b=some (Cj a b):=by
 unfold Ad Cj
 simp only [iF,Option.bind_some]
 by_cases h1:vR a
 ·by_cases h2:vR b
  ·have h1':=h1;have h2':=h2
   unfold vR at h1' h2'
   rw [bE (a:=b.X) (by omega) (by omega),bE (a:=a.X) (by omega) (by omega),bE (a:=b.Y) (by omega) (by omega),bE (a:=a.Y) (by omega) (by omega),bE (by omega) (by omega),bE (by omega) (by omega),bE (by omega) (by omega),bE (by omega) (by omega)]
   simp only [h1,h2,Kq,decide_true,and_self,if_true,Bool.not_true,Option.bind_some,Bool.false_eq_true,if_false]
   congr 1
   omega
  ·simp [h1,h2]
 ·simp [h1]
theorem AI (a b:aE):sM a b=some (Cj a b):=by
 unfold sM Cj
 simp only [Pw,Option.bind_some]
 by_cases h1:vR a
 ·by_cases h2:vR b
  ·have h1':=h1;have h2':=h2
   unfold vR at h1' h2'
   rw [bE (a:=b.X) (by omega) (by omega),bE (a:=a.X) (by omega) (by omega),bE (a:=b.Y) (by omega) (by omega),bE (a:=a.Y) (by omega) (by omega),bE (by omega) (by omega),bE (by omega) (by omega),bE (by omega) (by omega),bE (by omega) (by omega)]
   simp only [h1,h2,Kq,decide_true,and_self,if_true,Bool.not_true,Option.bind_some,Bool.false_eq_true,if_false]
   congr 1
   omega
  ·simp [h1,h2]
 ·simp [h1]
def blk (s:bK) (a b:aE):Bool:=decide (ovR a b) || (decide (Cj a b<s.Gap)&&!(s.jS&&(Cj a b==0)))
def clr (s:bK) (a b:List aE):Bool:=!(a.any fun x=>b.any fun y=>blk s x y)
theorem KL (a b:List aE) (s:bK) (ha:a.length≤9223372036854775806) (hb:b.length≤9223372036854775806):Kw a b s=some (clr s a b):=by
 have inner:∀ x:aE,aL (Am b s x) (0,s.jS)=some (if (b.any fun y=>blk s x y) then .inl () else .inr s.jS):=by
  intro x
  refine dH b (Am b s x) (fun k=>((k:Int),s.jS)) (fun y=>blk s x y) _ _ rfl (fun k y hy=>?_) ?_
  ·have hk:=(List.getElem?_eq_some_iff.1 hy).1
   unfold Am
   have h1:decide ((k:Int)<(b.length:Int))=true:=by simp;omega
   simp only [h1,if_true,bB hy,Option.bind_some,Sk,Gt]
   rw [aP (a:=(k:Int)) (by omega) (by omega)]
   unfold blk
   by_cases h2:ovR x y
   ·simp [h2]
   ·by_cases h3:Cj x y<s.Gap
    ·cases h4:s.jS
     ·simp [h2,h3]
     ·by_cases h5:Cj x y=0
      ·simp [h2,h5]
      ·simp [h2,h3,h5]
    ·simp [h2,h3]
  ·simp [Am]
 unfold Kw
 have top:aL (Ao a b s) (0,s.jS)=some (if (a.any fun x=>b.any fun y=>blk s x y) then .inl () else .inr ()):=by
  refine dH a (Ao a b s) (fun k=>((k:Int),s.jS)) (fun x=>b.any fun y=>blk s x y) _ _ rfl (fun k x hx=>?_) ?_
  ·have hk:=(List.getElem?_eq_some_iff.1 hx).1
   unfold Ao
   have h1:decide ((k:Int)<(a.length:Int))=true:=by simp;omega
   simp only [h1,if_true,bB hx,Option.bind_some,inner]
   rw [aP (a:=(k:Int)) (by omega) (by omega)]
   cases (b.any fun y=>blk s x y) <;> simp
  ·simp [Ao]
 rw [top]
 unfold clr
 cases (a.any fun x=>b.any fun y=>blk s x y) <;> rfl
theorem JM (a b:List aE) (s:bK) (ha:a.length≤9223372036854775806) (hb:b.length≤9223372036854775806):xG a b s=some (clr s a b):=by
 have inner:∀ (j:Nat) (x:aE),a[j]?=some x→aL (jU a b s ((j:Int),s.jS)) (0,s.jS)=some (if (b.any fun y=>blk s x y) then .inl () else .inr s.jS):=by
  intro j x hx
  refine dH b (jU a b s ((j:Int),s.jS)) (fun k=>((k:Int),s.jS)) (fun y=>blk s x y) _ _ rfl (fun k y hy=>?_) ?_
  ·have hk:=(List.getElem?_eq_some_iff.1 hy).1
   unfold jU
   have h1:decide ((k:Int)<(b.length:Int))=true:=by simp;omega
   simp only [h1,if_true,bB hy,bB hx,Option.bind_some,AI,Sm]
   rw [aP (a:=(k:Int)) (by omega) (by omega)]
   unfold blk
   by_cases h2:ovR x y
   ·simp [h2]
   ·by_cases h3:Cj x y<s.Gap
    ·cases h4:s.jS
     ·simp [h2,h3]
     ·by_cases h5:Cj x y=0
      ·simp [h2,h5]
      ·simp [h2,h3,h5]
    ·simp [h2,h3]
  ·simp [jU]
 unfold xG
 have top:aL (jV a b s) (0,s.jS)=some (if (a.any fun x=>b.any fun y=>blk s x y) then .inl () else .inr ()):=by
  refine dH a (jV a b s) (fun k=>((k:Int),s.jS)) (fun x=>b.any fun y=>blk s x y) _ _ rfl (fun k x hx=>?_) ?_
  ·have hk:=(List.getElem?_eq_some_iff.1 hx).1
   unfold jV
   have h1:decide ((k:Int)<(a.length:Int))=true:=by simp;omega
   simp only [h1,if_true,Option.bind_some,inner k x hx]
   rw [aP (a:=(k:Int)) (by omega) (by omega)]
   cases (b.any fun y=>blk s x y) <;> simp
  ·simp [jV]
 rw [top]
 unfold clr
 cases (a.any fun x=>b.any fun y=>blk s x y) <;> rfl
end Go.SM
namespace Go.SM
open Go Go.VI Go.Cells
def MM:Int:=1048576
def inC (r:aE) (x y:Int):Bool:=(decide (r.X≤x)&&decide (x<r.X+r.W))&&(decide (r.Y≤y)&&decide (y<r.Y+r.H))
def cov (l:List aE) (x y:Int):Bool:=l.any fun r=>inC r x y
def zJ (l:List aE):Prop:=∀ r ∈ l,vR r
theorem Cr {r:aE} {x y:Int}:inC r x y=true↔r.X≤x∧x<r.X+r.W∧r.Y≤y∧y<r.Y+r.H:=by
 unfold inC;simp only [Bool.and_eq_true,decide_eq_true_eq];omega
theorem Vb (a b:List aE) (x y:Int):cov (a++b) x y=(cov a x y || cov b x y):=by unfold cov;rw [List.any_append]
theorem FN {l:List aE} {x y:Int}:cov l x y=true↔∃ r ∈ l,inC r x y=true:=List.any_eq_true
theorem MJ {r:aE} (h:vR r):eB MM (inC r)=r.W*r.H:=by
 unfold vR at h
 have e:inC r=inR r.X (r.X+r.W) r.Y (r.Y+r.H):=by
  funext x y
  unfold inC inR
  by_cases h1:r.X≤x <;> by_cases h2:x<r.X+r.W <;> by_cases h3:r.Y≤y <;> by_cases h4:y<r.Y+r.H <;> simp [h1,h2,h3,h4]
 rw [e,HX (by unfold MM;omega) (by omega) (by unfold MM;omega) (by unfold MM;omega) (by omega) (by unfold MM;omega)]
 congr 1 <;> omega
theorem CA {r s:aE} (hr:vR r) (hs:vR s):ovR r s↔∃ x y,inC r x y=true∧inC s x y=true:=by
 constructor
 ·rintro ⟨_,_,h1,h2,h3,h4⟩
  refine ⟨max r.X s.X,max r.Y s.Y, ?_, ?_⟩
  ·rw [Cr];unfold vR at *;omega
  ·rw [Cr];unfold vR at *;omega
 ·rintro ⟨x,y,h1,h2⟩
  rw [Cr] at h1 h2
  exact ⟨hr,hs,by omega,by omega,by omega,by omega⟩
theorem Ex (p:Int→Int→Bool):eB MM p≤4398046511104:=by
 unfold eB
 have h1:∀ x,S (-MM) MM (fun y=>one (p x y))≤2097152:=fun x=>by
  have:=TJ (a:=-MM) (b:=MM) (f:=fun y=>one (p x y)) (g:=fun _=>1) fun y _ _=>by cases p x y <;> decide
  rw [Mz (by unfold MM;omega) (c:=1) fun _ _ _=>rfl] at this
  unfold MM at this ⊢;omega
 have:=TJ (a:=-MM) (b:=MM) (f:=fun x=>S (-MM) MM fun y=>one (p x y)) (g:=fun _=>2097152) fun x _ _=>h1 x
 rw [Mz (by unfold MM;omega) (c:=2097152) fun _ _ _=>rfl] at this
 unfold MM at this ⊢;omega
theorem AR {p a b:Int→Int→Bool} (h:∀ x y,one (p x y)=one (a x y)+one (b x y)):eB MM p=eB MM a+eB MM b:=by
 unfold eB
 rw [← So]
 refine My fun x _ _=>?_
 rw [← So]
 exact My fun y _ _=>h x y
theorem HU {p a b:Int→Int→Bool} (h:∀ x y,p x y=(a x y || b x y)) (hd:∀ x y,a x y=true→b x y=true→False):eB MM p=eB MM a+eB MM b:=
 AR fun x y=>by
  rw [h]
  have:=hd x y
  cases ha:a x y <;> cases hb:b x y <;> simp_all [one]
def gN (r:aE) (l:List aE):Int:=eB MM fun x y=>inC r x y&&!cov l x y
theorem DC {r:aE} (h:vR r):gN r []=r.W*r.H:=by
 unfold gN
 rw [← MJ h]
 exact Ut fun x y=>by simp [cov]
theorem AP {r b:aE} {l:List aE} (hr:vR r) (hb:vR b) (h:¬ ovR r b):gN r (b::l)=gN r l:=by
 refine Ut fun x y=>?_
 have:¬ (inC r x y=true∧inC b x y=true):=fun q=>h ((CA hr hb).2 ⟨x,y,q⟩)
 show (inC r x y&&!(inC b x y || cov l x y))=_
 cases h1:inC r x y <;> cases h2:inC b x y <;> simp_all
theorem Py {r:aE} (l:List aE) (h:¬ (r.W>0∧r.H>0)):gN r l=0:=by
 refine Ro fun x y=>?_
 cases h1:inC r x y with
 | false=>rfl
 | true=>rw [Cr] at h1;omega
def zE (r b:aE):aE:=⟨r.X,r.Y,max r.X b.X-r.X,r.H⟩
def Cc (r b:aE):aE:=⟨min (r.X+r.W) (b.X+b.W),r.Y,r.X+r.W-min (r.X+r.W) (b.X+b.W),r.H⟩
def De (r b:aE):aE:=⟨max r.X b.X,r.Y,min (r.X+r.W) (b.X+b.W)-max r.X b.X,max r.Y b.Y-r.Y⟩
def It (r b:aE):aE:=⟨max r.X b.X,min (r.Y+r.H) (b.Y+b.H),min (r.X+r.W) (b.X+b.W)-max r.X b.X,r.Y+r.H-min (r.Y+r.H) (b.Y+b.H)⟩
theorem UH {r b:aE} (h:ovR r b):∀ p ∈ [zE r b,Cc r b,De r b,It r b],p.W>0→p.H>0→vR p:=by
 obtain ⟨h1,h2,h3,h4,h5,h6⟩:=h
 unfold vR at h1 h2
 intro p hp hw hh
 simp only [List.mem_cons,List.not_mem_nil,or_false] at hp
 unfold vR
 rcases hp with rfl | rfl | rfl | rfl <;> simp only [zE,Cc,De,It] at hw hh ⊢ <;> omega
theorem Za {r b:aE} {l:List aE} (h:ovR r b):gN r (b::l)=gN (zE r b) l+gN (Cc r b) l+gN (De r b) l+gN (It r b) l:=by
 obtain ⟨h1,h2,h3,h4,h5,h6⟩:=h
 unfold vR at h1 h2
 unfold gN eB
 rw [← So,← So,← So]
 refine My fun x _ _=>?_
 rw [← So,← So,← So]
 refine My fun y _ _=>?_
 show one (inC r x y&&!(inC b x y || cov l x y))=one (inC (zE r b) x y&&!cov l x y)+one (inC (Cc r b) x y&&!cov l x y)+one (inC (De r b) x y&&!cov l x y)+one (inC (It r b) x y&&!cov l x y)
 generalize cov l x y=c
 cases c with
 | true=>simp [one]
 | false =>
   simp only [Bool.or_false,Bool.not_false,Bool.and_true]
   have i0:=@Cr r x y
   have i5:=@Cr b x y
   have i1:=@Cr (zE r b) x y
   have i2:=@Cr (Cc r b) x y
   have i3:=@Cr (De r b) x y
   have i4:=@Cr (It r b) x y
   simp only [zE,Cc,De,It] at i1 i2 i3 i4
   change inC (zE r b) x y=true↔_ at i1
   change inC (Cc r b) x y=true↔_ at i2
   change inC (De r b) x y=true↔_ at i3
   change inC (It r b) x y=true↔_ at i4
   generalize inC (zE r b) x y=c1 at *
   generalize inC (Cc r b) x y=c2 at *
   generalize inC (De r b) x y=c3 at *
   generalize inC (It r b) x y=c4 at *
   generalize inC r x y=c0 at *
   generalize inC b x y=c5 at *
   cases c1 <;> cases c2 <;> cases c3 <;> cases c4 <;> cases c0 <;> cases c5 <;> simp only [one,Bool.and_true,Bool.and_false,Bool.true_and,Bool.false_and,Bool.not_true,Bool.not_false,if_true,Bool.false_eq_true,if_false,true_iff,false_iff] at * <;> omega
theorem zZ (r:aE) (l:List aE):0≤gN r l:=Ey _
theorem Jm (r:aE) (l:List aE):gN r l≤4398046511104:=Ex _
theorem HY (l:List aE) (r:aE):eB MM (cov (l++[r]))=eB MM (cov l)+gN r l:=
 AR fun x y=>by
  rw [Vb]
  simp only [cov,List.any_cons,List.any_nil,Bool.or_false]
  cases (l.any fun r=>inC r x y) <;> cases inC r x y <;> rfl
end Go.SM
end
