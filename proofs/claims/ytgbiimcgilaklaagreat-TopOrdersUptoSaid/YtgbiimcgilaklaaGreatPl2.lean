/- What the functions compute, part 2. -/
import Derived.Test.YtgbiimcgilaklaaGreatPl1
import Derived.Test.YtgbiimcgilaklaaGreatVHC3
import Derived.Test.YtgbiimcgilaklaaGreatVHC4
import Derived.Lib.IndexMore
set_option linter.unusedVariables false
set_option linter.unusedSimpArgs false
set_option linter.unusedSectionVars false
open Bool renaming and_eq_true→o8,false_eq_true→j9,not_eq_true→U9,not_true→u5,or_eq_false_iff→I7,or_eq_true→F6
open ByteArray renaming empty→o4,mk→I1
open Classical renaming em→L7
open Int renaming toNat→l4,toNat_natCast→y9
open List renaming any_eq_false→s7,any_eq_true→E2,countP_le_length→S7,drop→N0,drop_eq_getElem_cons→K7,findIdx?_cons→O7,findIdx?_eq_some_iff_getElem→G7,foldl_append→K0,foldl_cons→y8,getElem?_eq_getElem→l8,getElem?_eq_some_iff→m9,getElem_mem→F9,length_append→E5,length_cons→H5,length_map→p9,map_append→H3,mem_append→q9,mem_cons→H4,mem_cons_of_mem→F7,mem_cons_self→F8,mem_flatMap→F3,mem_flatten→M5,mem_iff_getElem?→u6,mem_of_getElem?→m5,mem_range→F5,pairwise_cons→J2,range→s9,replicate→q8,set→m7,take→L6,take_add_one→G5,take_length→E7
open Nat renaming le_of_lt→S8
open Option renaming bind_some→i9
open Option.some renaming inj→w7
noncomputable section
namespace Go.SM
open Go Go.VI
def strings_Contains (s sub:ByteArray):Option Bool:=if s.size<4294967281 then some (Go.Lib.contains s.data.toList sub.data.toList) else none
def vZ (s0:ByteArray):Int→Option (Int ⊕ (Unit ⊕ Unit)):=fun a1 =>
 if (decide (a1<(s0.size:Int))) then ((Zn s0 a1).bind fun a0=>(if (decide (a0<97)) then (if (decide (a0<48)) then (some true) else (some (decide (a0>57)))) else (if (decide (a0>122)) then (if (decide (a0<48)) then (some true) else (some (decide (a0>57)))) else (some false))).bind fun a2=>if a2 then (some (.inr (.inl ()))) else (some (.inl (aQ a1 1)))) else (some (.inr (.inr (()))))
def fI (s0:ByteArray):Option (Bool):=
 (if (decide ((s0.size:Int)<1)) then (some true) else (if (decide ((s0.size:Int)>8)) then (some true) else ((Zn s0 0).bind fun x9=>if (decide (x9<97)) then (some true) else ((Zn s0 0).bind fun a3=>some (decide (a3>122)))))).bind fun j8=>if j8 then (some false) else ((aM (vZ s0) 0).bind fun a4=>match a4 with | .inl a5=>some false | .inr a6=>(FO (I1 #[32]) s0).bind fun a1=>(FO a1 (I1 #[32])).bind fun a2=>(strings_Contains (I1 #[32,112,97,114,116,32,109,97,116,101,114,105,97,108,32,98,97,115,101,32,102,108,97,110,103,101,32,104,111,108,101,32,99,117,116,32,102,111,114,109,32,101,97,115,116,32,115,111,117,116,104,32,119,101,115,116,32,110,111,114,116,104,32,117,112,32,100,111,119,110,32,99,108,111,115,101,117,112,32,99,108,111,115,101,100,111,119,110,32,103,114,97,105,110,32,120,32,121,32,116,97,98,108,101,32,97,110,103,108,101,32,109,97,99,104,105,110,101,32,112,117,110,99,104,32,100,105,101,32,102,114,97,109,101,32,103,97,117,103,101,32,112,111,108,121,32,115,116,97,116,105,111,110,115,32]) a2).bind fun a0=>some (!a0))
def kP (n:Int) (lo:Int) (hi:Int):Option (Bool):=
 (if (decide (lo≤n)) then (some (decide (n≤hi))) else (some false)).bind fun j1=>some j1
def Gt (gauge:Int) (grain:Int):Option (Bool):=
 ((kP gauge 1 60).bind fun r4=>if r4 then ((kP grain 0 2).bind fun r5=>some r5) else (some false)).bind fun j3=>some j3
def Il (n:Int) (most:Int):Option (Bool):=
 (if (decide ((xU most)≤n)) then (some (decide (n≤most))) else (some false)).bind fun j1=>some j1
def tG (x0:Int) (w:Int):Option (Bool):=
 ((Il x0 1048576).bind fun r3=>if r3 then (if (decide (w>0)) then (if (decide (w≤2097152)) then (some (decide ((aQ x0 w)≤1048576))) else (some false)) else (some false)) else (some false)).bind fun j2=>some j2
def eQ (r0:aF):Option (Bool):=
 ((tG r0.X r0.W).bind fun r4=>if r4 then ((tG r0.Y r0.H).bind fun r5=>some r5) else (some false)).bind fun j3=>some j3
def yQ (l:(List aF)):Int→Option (Int ⊕ (Unit ⊕ Unit)):=fun a0 =>
 if (decide (a0<(l.length:Int))) then ((idx l a0).bind fun a2=>(eQ a2).bind fun a1=>if (!a1) then (some (.inr (.inl ()))) else (some (.inl (aQ a0 1)))) else (some (.inr (.inr (()))))
def nN (l:(List aF)):Option (Bool):=
 (aM (yQ l) 0).bind fun a0=>match a0 with | .inl a1=>some false | .inr a2=>some true
def sG (s0:aT) (margin:Int):Option (aF×Bool):=
 (eQ (aF.mk margin margin (aK s0.dQ (gZ 2 margin)) (aK s0.cE (gZ 2 margin)))).bind fun r3=>some ((aF.mk margin margin (aK s0.dQ (gZ 2 margin)) (aK s0.cE (gZ 2 margin))),r3)
def wS (a:aF) (b:aF):Option (Bool):=
 ((eQ a).bind fun r4=>if r4 then ((eQ b).bind fun r5=>if r5 then (if (decide (b.X≤a.X)) then (if (decide ((aQ a.X a.W)≤(aQ b.X b.W))) then (if (decide (b.Y≤a.Y)) then (some (decide ((aQ a.Y a.H)≤(aQ b.Y b.H)))) else (some false)) else (some false)) else (some false)) else (some false)) else (some false)).bind fun j3=>some j3
def lP (a4:aF×Bool) (a1:(List aF)):Int→Option (Int ⊕ (Unit ⊕ Unit)):=fun a0 =>
 if (decide (a0<(a1.length:Int))) then ((idx a1 a0).bind fun a3=>(wS a3 a4.1).bind fun a2=>if (!a2) then (some (.inr (.inl ()))) else (some (.inl (aQ a0 1)))) else (some (.inr (.inr (()))))
def lQ (s0:aT) (a5:aF×Bool):Int→Option (Int ⊕ (Unit ⊕ Unit)):=fun a0 =>
 if (decide (a0<([s0.bO,s0.Used].length:Int))) then ((idx [s0.bO,s0.Used] a0).bind fun a1=>(aM (lP a5 a1) 0).bind fun a2=>match a2 with | .inl a3=>some (.inr (.inl ())) | .inr a4=>some (.inl (aQ a0 1))) else (some (.inr (.inr (()))))
def eB (s0:aT):Option (Int):=
 ((fI s0.Name).bind fun a7=>if a7 then ((fI s0.bH).bind fun a8=>some (!a8)) else (some true)).bind fun a1=>if a1 then (some 2) else (((Gt s0.cX s0.cU).bind fun a9=>if a9 then ((kP s0.dQ 1 1048576).bind fun b0=>if b0 then ((kP s0.cE 1 1048576).bind fun b1=>some (!b1)) else (some true)) else (some true)).bind fun a2=>if a2 then (some 1) else ((if (decide ((s0.bO.length:Int)>4)) then (some true) else (some (decide ((s0.Used.length:Int)>48)))).bind fun a3=>if a3 then (some 4) else (((nN s0.bO).bind fun b2=>if b2 then ((nN s0.Used).bind fun b3=>some (!b3)) else (some true)).bind fun a4=>if a4 then (some 1) else ((sG s0 0).bind fun b4=>(aM (lQ s0 b4) 0).bind fun a0=>match a0 with | .inl a5=>some 13 | .inr a6=>some 0))))
def uG (a:aF) (b:aF):Option (Bool):=
 ((eQ a).bind fun r4=>if r4 then ((eQ b).bind fun r5=>if r5 then (if (decide (a.X<(aQ b.X b.W))) then (if (decide (b.X<(aQ a.X a.W))) then (if (decide (a.Y<(aQ b.Y b.H))) then (some (decide (b.Y<(aQ a.Y a.H)))) else (some false)) else (some false)) else (some false)) else (some false)) else (some false)).bind fun j3=>some j3
def sH (a:aF) (b:aF):Option (Bool):=
 (if ((aK (wJ (aQ a.X a.W) (aQ b.X b.W)) (imax a.X b.X))==0) then (if (decide ((aK (wJ (aQ a.Y a.H) (aQ b.Y b.H)) (imax a.Y b.Y))>0)) then (some true) else (if ((aK (wJ (aQ a.Y a.H) (aQ b.Y b.H)) (imax a.Y b.Y))==0) then (some (decide ((aK (wJ (aQ a.X a.W) (aQ b.X b.W)) (imax a.X b.X))>0))) else (some false))) else (if ((aK (wJ (aQ a.Y a.H) (aQ b.Y b.H)) (imax a.Y b.Y))==0) then (some (decide ((aK (wJ (aQ a.X a.W) (aQ b.X b.W)) (imax a.X b.X))>0))) else (some false))).bind fun j1=>some j1
def vV (a1:Int×(List Bool)×(List Int)):((List Bool)×(List Int))→Option ((Int×(List Bool)×(List Int)) ⊕ ((List Bool)×(List Int))):=fun a0 =>
 some (.inl ((aQ a1.1 1),a0.1,a0.2))
def iJ (l:(List aF)) (a4:Int):(Int×(List Bool)×(List Int))→Option ((Int×(List Bool)×(List Int)) ⊕ ((List Bool)×(List Int))):=fun a0 =>
 if (decide (a0.1<(l.length:Int))) then (((idx a0.2.1 a0.1).bind fun a5=>if a5 then (some false) else ((idx l a4).bind fun a6=>(idx l a0.1).bind fun a7=>(sH a6 a7).bind fun a3=>some a3)).bind fun a1=>if a1 then ((idx a0.2.1 a0.1).bind fun a8=>(app a0.2.2 [a0.1]).bind fun a2=>vV a0 ((m7 a0.2.1 (l4 a0.1) true),a2)) else (vV a0 (a0.2.1,a0.2.2))) else (some (.inr (a0.2.1,a0.2.2)))
def iK (l:(List aF)):((List Bool)×(List Int))→Option (((List Bool)×(List Int)) ⊕ (List Bool)):=fun a0 =>
 if (decide ((a0.2.length:Int)>0)) then ((idx a0.2 0).bind fun a2=>if (decide (1≤a0.2.length)) then ((aM (iJ l a2) (0,a0.1,(N0 1 a0.2))).bind fun a1=>some (.inl (a1.1,a1.2))) else none) else (some (.inr a0.1))
def vW (a1:(List Bool)):Int→Option (Int ⊕ (Unit ⊕ Unit)):=fun a0 =>
 if (decide (a0<(a1.length:Int))) then ((idx a1 a0).bind fun a2=>if (!a2) then (some (.inr (.inl ()))) else (some (.inl (aQ a0 1)))) else (some (.inr (.inr (()))))
def mT (l:(List aF)):Option (Bool):=
 (mk (l.length:Int) false).bind fun l2=>(idx l2 0).bind fun x4=>(aM (iK l) ((m7 l2 (l4 0) true),[0])).bind fun a0=>(aM (vW a0) 0).bind fun a1=>match a1 with | .inl a2=>some false | .inr a3=>some true
def tO (h0:aF) (l:(List aF)):Int→Option (Int ⊕ (Unit ⊕ Unit)):=fun a1 =>
 if (decide (a1<(l.length:Int))) then ((idx l a1).bind fun a0=>(if (decide (h0.X>a0.X)) then (if (decide (h0.Y>a0.Y)) then (if (decide ((aQ h0.X h0.W)<(aQ a0.X a0.W))) then (some (decide ((aQ h0.Y h0.H)<(aQ a0.Y a0.H)))) else (some false)) else (some false)) else (some false)).bind fun a2=>if a2 then (some (.inr (.inl ()))) else (some (.inl (aQ a1 1)))) else (some (.inr (.inr (()))))
def yP (h0:aF) (l:(List aF)):Option (Bool):=
 (aM (tO h0 l) 0).bind fun a0=>match a0 with | .inl a1=>some true | .inr a2=>some false
def xZ (a:aF) (b:aF):Option (Int):=
 ((eQ a).bind fun r9=>if r9 then ((eQ b).bind fun a0=>some (!a0)) else (some true)).bind fun j8=>if j8 then (some 0) else (some (imax (imax (imax (imax 0 (aK (aK b.X a.X) a.W)) (aK (aK a.X b.X) b.W)) (aK (aK b.Y a.Y) a.H)) (aK (aK a.Y b.Y) b.H)))
def wZ (x0:aS) (l6:(List aF)):Int→Option (Int ⊕ (Unit ⊕ Unit)):=fun a0 =>
 if (decide (a0<(l6.length:Int))) then ((idx l6 a0).bind fun a1=>(if (decide (a0<(x0.bQ.length:Int))) then (if (a1.W==1) then (some true) else (if (a1.H==1) then (some true) else ((yP a1 x0.aD).bind fun a3=>some (!a3)))) else ((yP a1 x0.aD).bind fun a4=>some (!a4))).bind fun a2=>if a2 then (some (.inr (.inl ()))) else (some (.inl (aQ a0 1)))) else (some (.inr (.inr (()))))
def xA (a3:aF) (a1:(List aF)):Int→Option (Int ⊕ (Unit ⊕ Unit)):=fun a0 =>
 if (decide (a0<(a1.length:Int))) then ((idx a1 a0).bind fun a4=>(xZ a3 a4).bind fun a2=>if (a2==0) then (some (.inr (.inl ()))) else (some (.inl (aQ a0 1)))) else (some (.inr (.inr (()))))
def xB (l6:(List aF)):Int→Option (Int ⊕ (Unit ⊕ Unit)):=fun a0 =>
 if (decide (a0<(l6.length:Int))) then ((idx l6 a0).bind fun a2=>(slc l6 0 a0).bind fun a1=>(aM (xA a2 a1) 0).bind fun a3=>match a3 with | .inl a4=>some (.inr (.inl ())) | .inr a5=>some (.inl (aQ a0 1))) else (some (.inr (.inr (()))))
def Io (x0:aS):Option (Int):=
 (app [] x0.bQ).bind fun l5=>(app l5 x0.Forms).bind fun l6=>(aM (wZ x0 l6) 0).bind fun a4=>match a4 with | .inl a5=>some 13 | .inr a1=>(aM (xB l6) 0).bind fun a0=>match a0 with | .inl a2=>some 7 | .inr a3=>some 0
def lL (x0:aS):(Int×Int×Int)→Option ((Int×Int×Int) ⊕ (Int×Int)):=fun a0 =>
 if (decide (a0.2.2<(x0.aD.length:Int))) then ((idx x0.aD a0.2.2).bind fun a1=>some (.inl ((wJ a0.1 a1.X),(wJ a0.2.1 a1.Y),(aQ a0.2.2 1)))) else (some (.inr (a0.1,a0.2.1)))
def lM (a3:aF) (a1:(List aF)):Int→Option (Int ⊕ (Unit ⊕ Unit)):=fun a0 =>
 if (decide (a0<(a1.length:Int))) then ((idx a1 a0).bind fun a4=>(uG a3 a4).bind fun a2=>if a2 then (some (.inr (.inl ()))) else (some (.inl (aQ a0 1)))) else (some (.inr (.inr (()))))
def lN (x0:aS):Int→Option (Int ⊕ (Unit ⊕ Unit)):=fun a0 =>
 if (decide (a0<(x0.aD.length:Int))) then ((idx x0.aD a0).bind fun a2=>(slc x0.aD 0 a0).bind fun a1=>(aM (lM a2 a1) 0).bind fun a3=>match a3 with | .inl a4=>some (.inr (.inl ())) | .inr a5=>some (.inl (aQ a0 1))) else (some (.inr (.inr (()))))
def bM (x0:aS):Option (Int):=
 ((fI x0.Name).bind fun b0=>if b0 then ((fI x0.bH).bind fun b1=>some (!b1)) else (some true)).bind fun a4=>if a4 then (some 2) else ((Gt x0.cX x0.cU).bind fun b2=>if (!b2) then (some 1) else ((if (decide ((x0.aD.length:Int)>12)) then (some true) else (if (decide ((x0.bQ.length:Int)>12)) then (some true) else (some (decide ((x0.Forms.length:Int)>12))))).bind fun a5=>if a5 then (some 4) else ((if ((x0.aD.length:Int)==0) then (some true) else ((nN x0.aD).bind fun b3=>if b3 then ((nN x0.bQ).bind fun b4=>if b4 then ((nN x0.Forms).bind fun b5=>some (!b5)) else (some true)) else (some true))).bind fun a6=>if a6 then (some 1) else ((idx x0.aD 0).bind fun b6=>(idx x0.aD 0).bind fun b7=>(aM (lL x0) (b6.X,b7.Y,0)).bind fun a3=>(if (a3.1 != 0) then (some true) else (some (a3.2 != 0))).bind fun a9=>if a9 then (some 1) else ((aM (lN x0) 0).bind fun a2=>match a2 with | .inl a7=>some 7 | .inr a8=>(mT x0.aD).bind fun a0=>if (!a0) then (some 6) else ((Io x0).bind fun a1=>some a1))))))
def eD (s:(List aF)):Option (List aF):=app [] s
def Hz (a1:Int×(List aF)):(List aF)→Option (Int×(List aF) ⊕ (List aF)):=fun a0 =>
 some (.inl ((aQ a1.1 1),a0))
def Dy (x1:Int) (y:Int) (r2:(List aF)):Int×(List aF)→Option (Int×(List aF) ⊕ (List aF)):=fun a0 =>
 if (decide (a0.1<(r2.length:Int))) then ((idx a0.2 a0.1).bind fun a3=>(if (decide (a3.X<(-4194304))) then (some true) else (if (decide (a3.X>4194304)) then (some true) else (if (decide (a3.Y<(-4194304))) then (some true) else (some (decide (a3.Y>4194304)))))).bind fun a5=>if a5 then ((a0.2[l4 a0.1]?).bind fun a4=>Hz a0 (m7 a0.2 (l4 a0.1) (aF.mk a4.X a4.Y 0 a4.H))) else ((a0.2[l4 a0.1]?).bind fun a2=>(a0.2[l4 a0.1]?).bind fun a1=>Hz a0 (m7 (m7 a0.2 (l4 a0.1) (aF.mk (aK a2.X x1) a1.Y a1.W a1.H)) (l4 a0.1) (aF.mk (((aF.mk (aK a2.X x1) a1.Y a1.W a1.H)).X) (aK (((aF.mk (aK a2.X x1) a1.Y a1.W a1.H)).Y) y) (((aF.mk (aK a2.X x1) a1.Y a1.W a1.H)).W) (((aF.mk (aK a2.X x1) a1.Y a1.W a1.H)).H))))) else (some (.inr a0.2))
def Jl (l:(List aF)) (x1:Int) (y:Int):Option ((List aF)):=
 (eD l).bind fun r2=>(aM (Dy x1 y r2) (0,r2)).bind fun a0=>some a0
def gI (x0:aS):Int→Option (Int ⊕ (Unit ⊕ Unit)):=fun a0 =>
 if (decide (a0<(x0.aD.length:Int))) then ((idx x0.aD a0).bind fun a2=>(eQ a2).bind fun a1=>if (!a1) then (some (.inr (.inl ()))) else (some (.inl (aQ a0 1)))) else (some (.inr (.inr (()))))
def rI (x0:aS):(Int×Int×Int)→Option ((Int×Int×Int) ⊕ (Int×Int)):=fun a0 =>
 if (decide (a0.2.2<(x0.aD.length:Int))) then ((idx x0.aD a0.2.2).bind fun a1=>some (.inl ((wJ a0.1 a1.X),(wJ a0.2.1 a1.Y),(aQ a0.2.2 1)))) else (some (.inr (a0.1,a0.2.1)))
def pQ (x0:aS):Option (Int):=
 (aM (gI x0) 0).bind fun a6=>match a6 with | .inl a9=>some 1 | .inr b0=>if ((x0.aD.length:Int)==0) then ((bM x0).bind fun a5=>some a5) else ((idx x0.aD 0).bind fun a7=>(idx x0.aD 0).bind fun a8=>(aM (rI x0) (a7.X,a8.Y,0)).bind fun a0=>(Jl x0.aD a0.1 a0.2).bind fun a1=>(Jl x0.bQ a0.1 a0.2).bind fun a2=>(Jl x0.Forms a0.1 a0.2).bind fun a3=>(bM (aS.mk x0.Name x0.bH x0.cX x0.cU a1 a2 a3)).bind fun a4=>some a4)
def Ih (x0:aF) (a0:Int) (a1:Int) (a2:Int) (a3:Int):Option (Bool):=
 (uG (aF.mk a0 a1 a2 a3) x0).bind fun r2=>some r2
def bT (s0:(List aF)) (a0:Int) (a1:Int) (a2:Int) (a3:Int):Int→Option (Int ⊕ (Int ⊕ Unit)):=fun a4 =>
 if (decide (a4<(s0.length:Int))) then ((idx s0 a4).bind fun a6=>(Ih a6 a0 a1 a2 a3).bind fun a5=>if a5 then (some (.inr (.inl a4))) else (some (.inl (aQ a4 1)))) else (some (.inr (.inr (()))))
def eW (s0:(List aF)) (a0:Int) (a1:Int) (a2:Int) (a3:Int):Option (Int):=
 (aM (bT s0 a0 a1 a2 a3) 0).bind fun a5=>match a5 with | .inl a4=>some a4 | .inr a6=>some (-1)
def eI (s0:(List aF)) (a0:Int) (a1:Int) (a2:Int) (a3:Int):Option (Bool):=
 (eW s0 a0 a1 a2 a3).bind fun r2=>some (decide (r2 ≥ 0))
def Fx (r0:aF) (l:(List aF)):Option (Bool):=
 (eI l r0.X r0.Y r0.W r0.H).bind fun r2=>some r2
def kV (l:aV):Int→Option (Int ⊕ (Int ⊕ Unit)):=fun a0 =>
 if (decide (a0<(l.aB.length:Int))) then ((idx l.aB a0).bind fun a2=>(pQ a2).bind fun a1=>if (a1 != 0) then (some (.inr (.inl a1))) else (some (.inl (aQ a0 1)))) else (some (.inr (.inr (()))))
def uP (l:aV) (a2:aS):Int→Option (Int ⊕ (Unit ⊕ Unit)):=fun a0 =>
 if (decide (a0<(a2.aD.length:Int))) then ((idx a2.aD a0).bind fun a1=>((wS a1 (aF.mk 0 0 l.aT.dQ l.aT.cE)).bind fun a4=>if a4 then ((Fx a1 l.aT.bO).bind fun a5=>if a5 then (some true) else ((Fx a1 l.aT.Used).bind fun a6=>some a6)) else (some true)).bind fun a3=>if a3 then (some (.inr (.inl ()))) else (some (.inl (aQ a0 1)))) else (some (.inr (.inr (()))))
def uQ (l:aV):Int→Option (Int ⊕ (Unit ⊕ Unit)):=fun a0 =>
 if (decide (a0<(l.aB.length:Int))) then ((idx l.aB a0).bind fun a1=>(aM (uP l a1) 0).bind fun a2=>match a2 with | .inl a3=>some (.inr (.inl ())) | .inr a4=>some (.inl (aQ a0 1))) else (some (.inr (.inr (()))))
def uR (a1:aS) (a3:aS):Int→Option (Int ⊕ (Unit ⊕ Unit)):=fun a0 =>
 if (decide (a0<(a1.aD.length:Int))) then ((idx a1.aD a0).bind fun a4=>(Fx a4 a3.aD).bind fun a2=>if a2 then (some (.inr (.inl ()))) else (some (.inl (aQ a0 1)))) else (some (.inr (.inr (()))))
def uS (a2:aS) (a1:(List aS)):Int→Option (Int ⊕ (Unit ⊕ Unit)):=fun a0 =>
 if (decide (a0<(a1.length:Int))) then ((idx a1 a0).bind fun a3=>(aM (uR a2 a3) 0).bind fun a4=>match a4 with | .inl a5=>some (.inr (.inl ())) | .inr a6=>some (.inl (aQ a0 1))) else (some (.inr (.inr (()))))
def uT (l:aV):Int→Option (Int ⊕ (Unit ⊕ Unit)):=fun a0 =>
 if (decide (a0<(l.aB.length:Int))) then ((idx l.aB a0).bind fun a2=>(slc l.aB 0 a0).bind fun a1=>(aM (uS a2 a1) 0).bind fun a3=>match a3 with | .inl a4=>some (.inr (.inl ())) | .inr a5=>some (.inl (aQ a0 1))) else (some (.inr (.inr (()))))
def mG (l:aV):Option (Int):=
 (eB l.aT).bind fun r4=>if (r4 != 0) then (some r4) else (if (decide ((l.aB.length:Int)>8)) then (some 4) else ((aM (kV l) 0).bind fun a7=>match a7 with | .inl a4=>some a4 | .inr a8=>(aM (uQ l) 0).bind fun a1=>match a1 with | .inl a5=>some 13 | .inr a6=>(aM (uT l) 0).bind fun a0=>match a0 with | .inl a2=>some 7 | .inr a3=>some 0))
def Yp:=oY
def Yq:=tH
def Yr:=xO
def GN:=Iw
def PA:=Ed
def sD (x0:Int):Option (Bool):=
 some (x0 != x0)
def bN (x0:Int) (y:Int):Option (Int):=
 (sD x0).bind fun r2=>(sD y).bind fun r4=>if r2 then (if r4 then (some 0) else (some (-1))) else (if r4 then (some 1) else (if (decide (x0<y)) then (some (-1)) else (if (decide (x0>y)) then (some 1) else (some 0))))
def qU:=pE (brC bN)
def sM:=mS (brC bN)
def tY:=uB (brC bN)
def tX:=Ao (brC bN)
def Md:=vT
def Nb:=Cn
def pI:=iG (brC bN)
def qT:=oZ (brC bN)
def uY:=Ap (brC bN)
def uX:=Cm (brC bN)
def qK:=iI (brC bN)
def qF:=jU (brC bN)
def qG:=jV (brC bN)
def sJ:=tJ (brC bN)
def rY:=qY (brC bN)
def lZ:=fG (brC bN)
def mA:=eS (brC bN)
def nC:=gM (brC bN)
def qO:=nG (brC bN)
def tT:=uH (brC bN)
def sN:=oO (brC bN)
def sO:=oQ (brC bN)
def sP:=oR (brC bN)
def rX:=kW (brC bN)
def jP:=jZ (brC bN)
def uL:=Gk (brC bN)
def eO:=uA (brC bN)
def pW (a1:Int×Int×(List Int)):Int×(List Int)→Option (Int×Int×(List Int) ⊕ Int×(List Int)):=fun a0 =>
 some (.inl (a0.1,(aQ a1.2.1 1),a0.2))
def Gz (a2:(List Int)) (a1:Int):Int×Int×(List Int)→Option (Int×Int×(List Int) ⊕ Int×(List Int)):=fun a0 =>
 if (decide (a0.2.1<((l4 (a2.length:Int)-l4 a1:Nat):Int))) then ((idx (L6 (l4 (a2.length:Int)-l4 a1) (N0 (l4 a1) a0.2.2)) a0.2.1).bind fun a3=>(idx (L6 (l4 (a2.length:Int)-l4 a1) (N0 (l4 a1) a0.2.2)) (aK a0.2.1 1)).bind fun a4=>if (a3 != a4) then ((idx (L6 (l4 (a2.length:Int)-l4 a1) (N0 (l4 a1) a0.2.2)) a0.2.1).bind fun a5=>(idx a0.2.2 a0.1).bind fun a6=>pW a0 ((aQ a0.1 1),(m7 a0.2.2 (l4 a0.1) a5))) else (pW a0 (a0.1,a0.2.2))) else (some (.inr (a0.1,a0.2.2)))
def Ha (a2:(List Int)):Int→Option (Int ⊕ ((List Int) ⊕ Unit)):=fun a1 =>
 if (decide (a1<(a2.length:Int))) then ((idx a2 a1).bind fun a4=>(idx a2 (aK a1 1)).bind fun a5=>if (a4==a5) then (if (decide ((0:Int)≤a1)&&(decide (a1≤(a2.length:Int))&&decide ((a2.length:Int)≤(a2.length:Int)))) then ((aM (Gz a2 a1) (a1,1,a2)).bind fun a0=>if (decide ((0:Int)≤a0.1)&&(decide (a0.1≤(a0.2.length:Int))&&decide ((a0.2.length:Int)≤(a0.2.length:Int)))) then ((slc (cpy a0.2 (l4 a0.1) (q8 (l4 (a0.2.length:Int)-l4 a0.1) 0)) 0 a0.1).bind fun a3=>some (.inr (.inl a3))) else none) else none) else (some (.inl (aQ a1 1)))) else (some (.inr (.inr (()))))
def nI (a0:(List Int)):Option ((List Int)):=
 if (decide ((a0.length:Int)<2)) then (some a0) else ((aM (Ha a0) 1).bind fun a2=>match a2 with | .inl a1=>some a1 | .inr a3=>some a0)
def Qn (a0:(List Int)):Option ((List Int)):=
 (eO a0).bind fun r2=>(nI r2).bind fun r4=>some r4
def Jk (x1:Int) (y:Int) (a2:aS):Int→Option (Int ⊕ (Unit ⊕ Unit)):=fun a1 =>
 if (decide (a1<(a2.aD.length:Int))) then ((idx a2.aD a1).bind fun a0=>(if (decide (a0.X≤x1)) then (if (decide (x1<(aQ a0.X a0.W))) then (if (decide (a0.Y≤y)) then (some (decide (y<(aQ a0.Y a0.H)))) else (some false)) else (some false)) else (some false)).bind fun a3=>if a3 then (some (.inr (.inl ()))) else (some (.inl (aQ a1 1)))) else (some (.inr (.inr (()))))
def Nj (l:aV) (x1:Int) (y:Int):Int→Option (Int ⊕ ((Option Int) ⊕ Unit)):=fun a0 =>
 if (decide (a0<(l.aB.length:Int))) then ((idx l.aB a0).bind fun a1=>(aM (Jk x1 y a1) 0).bind fun a2=>match a2 with | .inl a3=>some (.inr (.inl (some a0))) | .inr a4=>some (.inl (aQ a0 1))) else (some (.inr (.inr (()))))
def Ge (l:aV) (x1:Int) (y:Int):Option ((Option Int)):=
 (aM (Nj l x1 y) 0).bind fun a1=>match a1 with | .inl a0=>some a0 | .inr a2=>some none
def Ib (x0:Int) (a1:ByteArray) (a2:ByteArray) (a3:Int) (a4:Int) (a5:Int) (a6:Int) (a7:(List aF)) (a8:(List aF)) (a9:(List aS)) (a0:Int):Option ((Option Int)×(Option Int)):=
 (Ge (aV.mk (aT.mk a1 a2 a3 a4 a5 a6 a7 a8) a9) x0 a0).bind fun r5=>(Ge (aV.mk (aT.mk a1 a2 a3 a4 a5 a6 a7 a8) a9) x0 (aK a0 1)).bind fun r6=>some (r5,r6)
def fT (a:Int):Option (Bool):=
 some true
def fS (a:oM):Option (Bool):=
 some false
def Ic (from0:Int) (to1:Int) (a0:Int):Option (eE):=
 some (eE.mk from0 a0 to1 a0)
def wO (t:(Option Int)):Option (Int):=
 if (Option.isSome t) then (some (Option.getD t 0)) else (some (-1))
def Ia (s0:eE):(Int×Int)→Option (bC×Int×Int):=fun j2 =>
 some ((bC.mk s0 j2.1 j2.2),j2.1,j2.2)
def Jo (s0:eE) (a:Int) (b:Int):Option (bC×Int×Int):=
 (if (decide (a<0)) then (some true) else (if (decide (b ≥ 0)) then (some (decide (b<a))) else (some false))).bind fun j3=>if j3 then (Ia s0 (b,a)) else (Ia s0 (a,b))
def gR (a1:Int×(Option Int)×(Option Int)×Int×(List bC)):(Int×(Option Int)×(Option Int)×(List bC))→Option ((Int×(Option Int)×(Option Int)×Int×(List bC)) ⊕ (List bC)):=fun a0 =>
 some (.inl (a0.1,a0.2.1,a0.2.2.1,(aQ a1.2.2.2.1 1),a0.2.2.2))
def gS (a2:Int×(Option Int)×(Option Int)×Int×(List bC)) (a3:Int) (a0:(Option Int)×(Option Int)):(List bC)→Option ((Int×(Option Int)×(Option Int)×Int×(List bC)) ⊕ (List bC)):=fun a1 =>
 gR a2 (a3,a0.1,a0.2,a1)
def gT (a2:Int) (a0:Int×(Option Int)×(Option Int)×Int×(List bC)) (a4:Int):((Option Int)×(Option Int))→Option ((Int×(Option Int)×(Option Int)×Int×(List bC)) ⊕ (List bC)):=fun a3 =>
 (if (a3.1==a0.2.1) then (some (a3.2==a0.2.2.1)) else (some false)).bind fun a7=>if a7 then (gR a0 (a0.1,a0.2.1,a0.2.2.1,a0.2.2.2.2)) else ((if (a0.2.1==a0.2.2.1) then (some false) else ((match a0.2.1 with | some n=>fT n | none=>fS (oM.mk )).bind fun a5=>if a5 then (some true) else ((match a0.2.2.1 with | some n=>fT n | none=>fS (oM.mk )).bind fun a6=>some a6))).bind fun a8=>if a8 then ((Ic a0.1 a4 a2).bind fun b0=>(wO a0.2.1).bind fun b1=>(wO a0.2.2.1).bind fun b2=>(Jo b0 b1 b2).bind fun a1=>(app a0.2.2.2.2 [(bC.mk (eE.mk a1.1.Line.X1 a1.1.Line.Y1 a1.1.Line.X2 a1.1.Line.Y2) a1.1.A a1.1.B)]).bind fun a9=>gS a0 a4 a3 a9) else (gS a0 a4 a3 a0.2.2.2.2))
def wK (ends:(List Int)) (a2:ByteArray) (a3:ByteArray) (a4:Int) (a5:Int) (a6:Int) (a7:Int) (a8:(List aF)) (a9:(List aF)) (b0:(List aS)) (b1:Int) (a0:Int):(Int×(Option Int)×(Option Int)×Int×(List bC))→Option ((Int×(Option Int)×(Option Int)×Int×(List bC)) ⊕ (List bC)):=fun a1 =>
 if (decide (a1.2.2.2.1<(ends.length:Int))) then ((idx ends a1.2.2.2.1).bind fun b2=>if (decide ((aQ a1.2.2.2.1 1)<(ends.length:Int))) then ((Ib b2 a2 a3 a4 a5 a6 a7 a8 a9 b0 b1).bind fun b3=>gT a0 a1 b2 (b3.1,b3.2)) else (gT a0 a1 b2 (none,none))) else (some (.inr a1.2.2.2.2))
def fQ (ends:(List Int)) (a0:ByteArray) (a1:ByteArray) (a2:Int) (a3:Int) (a4:Int) (a5:Int) (a6:(List aF)) (a7:(List aF)) (a8:(List aS)) (a9:Int) (b0:Int):Option ((List bC)):=
 (aM (wK ends a0 a1 a2 a3 a4 a5 a6 a7 a8 a9 b0) (0,none,none,0,[])).bind fun b1=>some b1
def Ie (y:Int) (a1:ByteArray) (a2:ByteArray) (a3:Int) (a4:Int) (a5:Int) (a6:Int) (a7:(List aF)) (a8:(List aF)) (a9:(List aS)) (a0:Int):Option ((Option Int)×(Option Int)):=
 (Ge (aV.mk (aT.mk a1 a2 a3 a4 a5 a6 a7 a8) a9) a0 y).bind fun r5=>(Ge (aV.mk (aT.mk a1 a2 a3 a4 a5 a6 a7 a8) a9) (aK a0 1) y).bind fun r6=>some (r5,r6)
def Ig (from0:Int) (to1:Int) (a0:Int):Option (eE):=
 some (eE.mk a0 from0 a0 to1)
def gU (a1:Int×(Option Int)×(Option Int)×Int×(List bC)):(Int×(Option Int)×(Option Int)×(List bC))→Option ((Int×(Option Int)×(Option Int)×Int×(List bC)) ⊕ (List bC)):=fun a0 =>
 some (.inl (a0.1,a0.2.1,a0.2.2.1,(aQ a1.2.2.2.1 1),a0.2.2.2))
def gV (a2:Int×(Option Int)×(Option Int)×Int×(List bC)) (a3:Int) (a0:(Option Int)×(Option Int)):(List bC)→Option ((Int×(Option Int)×(Option Int)×Int×(List bC)) ⊕ (List bC)):=fun a1 =>
 gU a2 (a3,a0.1,a0.2,a1)
def gW (a2:Int) (a0:Int×(Option Int)×(Option Int)×Int×(List bC)) (a4:Int):((Option Int)×(Option Int))→Option ((Int×(Option Int)×(Option Int)×Int×(List bC)) ⊕ (List bC)):=fun a3 =>
 (if (a3.1==a0.2.1) then (some (a3.2==a0.2.2.1)) else (some false)).bind fun a7=>if a7 then (gU a0 (a0.1,a0.2.1,a0.2.2.1,a0.2.2.2.2)) else ((if (a0.2.1==a0.2.2.1) then (some false) else ((match a0.2.1 with | some n=>fT n | none=>fS (oM.mk )).bind fun a5=>if a5 then (some true) else ((match a0.2.2.1 with | some n=>fT n | none=>fS (oM.mk )).bind fun a6=>some a6))).bind fun a8=>if a8 then ((Ig a0.1 a4 a2).bind fun b0=>(wO a0.2.1).bind fun b1=>(wO a0.2.2.1).bind fun b2=>(Jo b0 b1 b2).bind fun a1=>(app a0.2.2.2.2 [(bC.mk (eE.mk a1.1.Line.X1 a1.1.Line.Y1 a1.1.Line.X2 a1.1.Line.Y2) a1.1.A a1.1.B)]).bind fun a9=>gV a0 a4 a3 a9) else (gV a0 a4 a3 a0.2.2.2.2))
def wM (ends:(List Int)) (a2:ByteArray) (a3:ByteArray) (a4:Int) (a5:Int) (a6:Int) (a7:Int) (a8:(List aF)) (a9:(List aF)) (b0:(List aS)) (b1:Int) (a0:Int):(Int×(Option Int)×(Option Int)×Int×(List bC))→Option ((Int×(Option Int)×(Option Int)×Int×(List bC)) ⊕ (List bC)):=fun a1 =>
 if (decide (a1.2.2.2.1<(ends.length:Int))) then ((idx ends a1.2.2.2.1).bind fun b2=>if (decide ((aQ a1.2.2.2.1 1)<(ends.length:Int))) then ((Ie b2 a2 a3 a4 a5 a6 a7 a8 a9 b0 b1).bind fun b3=>gW a0 a1 b2 (b3.1,b3.2)) else (gW a0 a1 b2 (none,none))) else (some (.inr a1.2.2.2.2))
def fR (ends:(List Int)) (a0:ByteArray) (a1:ByteArray) (a2:Int) (a3:Int) (a4:Int) (a5:Int) (a6:(List aF)) (a7:(List aF)) (a8:(List aS)) (a9:Int) (b0:Int):Option ((List bC)):=
 (aM (wM ends a0 a1 a2 a3 a4 a5 a6 a7 a8 a9 b0) (0,none,none,0,[])).bind fun b1=>some b1
def Fb (a2:aS):(Int×(List Int)×(List Int))→Option ((Int×(List Int)×(List Int)) ⊕ ((List Int)×(List Int))):=fun a0 =>
 if (decide (a0.1<(a2.aD.length:Int))) then ((idx a2.aD a0.1).bind fun a1=>(app a0.2.1 [a1.X,(aQ a1.X a1.W)]).bind fun a3=>(app a0.2.2 [a1.Y,(aQ a1.Y a1.H)]).bind fun a4=>some (.inl ((aQ a0.1 1),a3,a4))) else (some (.inr (a0.2.1,a0.2.2)))
def Be (l:aV):(Int×(List Int)×(List Int))→Option ((Int×(List Int)×(List Int)) ⊕ ((List Int)×(List Int))):=fun a0 =>
 if (decide (a0.1<(l.aB.length:Int))) then ((idx l.aB a0.1).bind fun a2=>(aM (Fb a2) (0,a0.2.1,a0.2.2)).bind fun a1=>some (.inl ((aQ a0.1 1),a1.1,a1.2))) else (some (.inr (a0.2.1,a0.2.2)))
def Fc (l:aV) (a4:(List Int)) (a1:(List Int)):Int×(List bC)→Option (Int×(List bC) ⊕ (List bC)):=fun a0 =>
 if (decide (a0.1<(a1.length:Int))) then ((idx a1 a0.1).bind fun a2=>(fQ a4 l.aT.Name l.aT.bH l.aT.cX l.aT.cU l.aT.dQ l.aT.cE l.aT.bO l.aT.Used l.aB a2 a2).bind fun a5=>(app a0.2 a5).bind fun a3=>some (.inl ((aQ a0.1 1),a3))) else (some (.inr a0.2))
def Ff (l:aV) (a1:(List Int)) (a4:(List Int)):Int×(List bC)→Option (Int×(List bC) ⊕ (List bC)):=fun a0 =>
 if (decide (a0.1<(a1.length:Int))) then ((idx a1 a0.1).bind fun a2=>(fR a4 l.aT.Name l.aT.bH l.aT.cX l.aT.cU l.aT.dQ l.aT.cE l.aT.bO l.aT.Used l.aB a2 a2).bind fun a5=>(app a0.2 a5).bind fun a3=>some (.inl ((aQ a0.1 1),a3))) else (some (.inr a0.2))
def Cj (l:aV):Option ((List bC)):=
 (aM (Be l) (0,[],[])).bind fun a2=>(Qn a2.1).bind fun a0=>(Qn a2.2).bind fun a1=>(aM (Fc l a0 a1) (0,[])).bind fun a3=>(aM (Ff l a0 a1) (0,a3)).bind fun a4=>some a4
def tB (l:aV):Option ((List bC)×Int):=
 (mG l).bind fun r4=>if (r4 != 0) then (some ([],r4)) else ((Cj l).bind fun r6=>some (r6,0))
def Bf (l:aV):Int×(List (List Bool))→Option (Int×(List (List Bool)) ⊕ (List (List Bool))):=fun a0 =>
 if (decide (a0.1<(l.aB.length:Int))) then ((idx l.aB a0.1).bind fun a3=>(mk (a3.bQ.length:Int) false).bind fun a1=>(app a0.2 [a1]).bind fun a2=>some (.inl ((aQ a0.1 1),a2))) else (some (.inr a0.2))
def Ck (l:aV) (edges:Int):Option (bW):=
 (mk edges false).bind fun l9=>(mk (l.aB.length:Int) false).bind fun a1=>(mk (l.aB.length:Int) 0).bind fun a2=>(mk (l.aB.length:Int) false).bind fun a3=>(aM (Bf l) (0,[])).bind fun a0=>some (bW.mk l9 a0 a1 a2 a3)
def rE (st:bW) (l:aV):Int→Option (Int ⊕ (Unit ⊕ Unit)):=fun a0 =>
 if (decide (a0<(l.aB.length:Int))) then ((idx l.aB a0).bind fun a1=>(idx st.bJ a0).bind fun a2=>if ((a2.length:Int) != (a1.bQ.length:Int)) then (some (.inr (.inl ()))) else (some (.inl (aQ a0 1)))) else (some (.inr (.inr (()))))
def jT (st:bW) (l:aV) (edges:Int):Option (Bool):=
 (if ((st.Cut.length:Int) != edges) then (some true) else (if ((st.bJ.length:Int) != (l.aB.length:Int)) then (some true) else (if ((st.eV.length:Int) != (l.aB.length:Int)) then (some true) else (if ((st.bL.length:Int) != (l.aB.length:Int)) then (some true) else (some ((st.bE.length:Int) != (l.aB.length:Int))))))).bind fun j2=>if j2 then (some false) else ((aM (rE st l) 0).bind fun a0=>match a0 with | .inl a1=>some false | .inr a2=>some true)
def kH (s0:(List Bool)) (v:Bool):Int→Option (Int ⊕ (Int ⊕ Unit)):=fun a0 =>
 if (decide (a0<(s0.length:Int))) then ((idx s0 a0).bind fun a1=>if (v==a1) then (some (.inr (.inl a0))) else (some (.inl (aQ a0 1)))) else (some (.inr (.inr (()))))
def tR (s0:(List Bool)) (v:Bool):Option (Int):=
 (aM (kH s0 v) 0).bind fun a1=>match a1 with | .inl a0=>some a0 | .inr a2=>some (-1)
def fK (s0:(List Bool)) (v:Bool):Option (Bool):=
 (tR s0 v).bind fun r2=>some (decide (r2 ≥ 0))
def Mh (e:bC) (piece:Int):Option (Bool):=
 (if (e.A==piece) then (some true) else (some (e.B==piece))).bind fun j1=>some j1
def rF (st:bW) (all:(List bC)) (piece:Int):Int→Option (Int ⊕ (Unit ⊕ Unit)):=fun a0 =>
 if (decide (a0<(all.length:Int))) then ((idx all a0).bind fun a3=>((Mh a3 piece).bind fun a2=>if a2 then ((idx st.Cut a0).bind fun a4=>some (!a4)) else (some false)).bind fun a1=>if a1 then (some (.inr (.inl ()))) else (some (.inl (aQ a0 1)))) else (some (.inr (.inr (()))))
def pP (st:bW) (all:(List bC)) (piece:Int):Option (Bool):=
 (aM (rF st all piece) 0).bind fun a0=>match a0 with | .inl a1=>some false | .inr a2=>some true
def kU (st:bW) (all:(List bC)) (x2:cF):Option (Bool):=
 (idx st.bE x2.aS).bind fun a3=>if a3 then (some false) else (if (decide (x2.nK ≥ 0)) then ((idx st.bJ x2.aS).bind fun a4=>(idx a4 x2.nK).bind fun a5=>some (!a5)) else (((idx st.eV x2.aS).bind fun a6=>if a6 then (some false) else ((idx st.bJ x2.aS).bind fun a7=>(fK a7 false).bind fun a1=>if a1 then (some false) else ((pP st all x2.aS).bind fun a2=>some (!a2)))).bind fun a0=>some a0))
def Bc (a1:Int×Int×Int×Int×Int):(Int×Int×Int×Int)→Option ((Int×Int×Int×Int×Int) ⊕ (Int×Int×Int×Int)):=fun a0 =>
 some (.inl ((aQ a1.1 1),a0.1,a0.2.1,a0.2.2.1,a0.2.2.2))
def Bd (x0:aS):(Int×Int×Int×Int×Int)→Option ((Int×Int×Int×Int×Int) ⊕ (Int×Int×Int×Int)):=fun a0 =>
 if (decide (a0.1<(x0.aD.length:Int))) then ((idx x0.aD a0.1).bind fun a1=>(eQ a1).bind fun a2=>if (!a2) then (Bc a0 (a0.2.1,a0.2.2.1,a0.2.2.2.1,a0.2.2.2.2)) else (if (a0.2.2.2.1==0) then (Bc a0 (a1.X,a1.Y,a1.W,a1.H)) else (Bc a0 ((wJ a0.2.1 a1.X),(wJ a0.2.2.1 a1.Y),(aK (imax (aQ a0.2.1 a0.2.2.2.1) (aQ a1.X a1.W)) (wJ a0.2.1 a1.X)),(aK (imax (aQ a0.2.2.1 a0.2.2.2.2) (aQ a1.Y a1.H)) (wJ a0.2.2.1 a1.Y)))))) else (some (.inr (a0.2.1,a0.2.2.1,a0.2.2.2.1,a0.2.2.2.2)))
def vE (x0:aS):Option (Bool):=
 (aM (Bd x0) (0,0,0,0,0)).bind fun a0=>some (decide ((wJ a0.2.2.1 a0.2.2.2)<7200))
def Gd (r0:aF) (a0:Int) (a1:Int) (a2:Int) (a3:Int):Option (Bool):=
 (wS (aF.mk a0 a1 a2 a3) r0).bind fun r2=>some r2
def bZ (s0:(List aF)) (a0:Int) (a1:Int) (a2:Int) (a3:Int):Int→Option (Int ⊕ (Int ⊕ Unit)):=fun a4 =>
 if (decide (a4<(s0.length:Int))) then ((idx s0 a4).bind fun a6=>(Gd a6 a0 a1 a2 a3).bind fun a5=>if a5 then (some (.inr (.inl a4))) else (some (.inl (aQ a4 1)))) else (some (.inr (.inr (()))))
def eJ (s0:(List aF)) (a0:Int) (a1:Int) (a2:Int) (a3:Int):Option (Int):=
 (aM (bZ s0 a0 a1 a2 a3) 0).bind fun a5=>match a5 with | .inl a4=>some a4 | .inr a6=>some (-1)
def cT (s0:(List aF)) (a0:Int) (a1:Int) (a2:Int) (a3:Int):Option (Bool):=
 (eJ s0 a0 a1 a2 a3).bind fun r2=>some (decide (r2 ≥ 0))
def uN (l:(List aF)) (s1:Is):Int→Option (Int ⊕ (Unit ⊕ Unit)):=fun a1 =>
 if (decide (a1<([(aF.mk (aK s1.X 1) (aK s1.Y 1) 1 1),(aF.mk s1.X (aK s1.Y 1) 1 1),(aF.mk (aK s1.X 1) s1.Y 1 1),(aF.mk s1.X s1.Y 1 1)].length:Int))) then ((idx [(aF.mk (aK s1.X 1) (aK s1.Y 1) 1 1),(aF.mk s1.X (aK s1.Y 1) 1 1),(aF.mk (aK s1.X 1) s1.Y 1 1),(aF.mk s1.X s1.Y 1 1)] a1).bind fun a0=>(cT l a0.X a0.Y a0.W a0.H).bind fun a2=>if (!a2) then (some (.inr (.inl ()))) else (some (.inl (aQ a1 1)))) else (some (.inr (.inr (()))))
def gH (l:(List aF)) (s1:Is):Option (Bool):=
 (if (decide (s1.X<(-4194304))) then (some true) else (if (decide (s1.X>4194304)) then (some true) else (if (decide (s1.Y<(-4194304))) then (some true) else (some (decide (s1.Y>4194304)))))).bind fun j2=>if j2 then (some false) else ((aM (uN l s1) 0).bind fun a0=>match a0 with | .inl a1=>some false | .inr a2=>some true)
def BX (s0:Is) (l:eE):Option (Int):=
 some (imax (imax (imax (imax 0 (aK l.X1 s0.X)) (aK s0.X l.X2)) (aK l.Y1 s0.Y)) (aK s0.Y l.Y2))
def fP (l:aV) (x3:cF):Int→Option (Int ⊕ (Unit ⊕ Unit)):=fun a0 =>
 if (decide (a0<(l.aB.length:Int))) then ((idx l.aB a0).bind fun a2=>(gH a2.aD (Is.mk x3.gC.X x3.gC.Y)).bind fun a1=>if a1 then (some (.inr (.inl ()))) else (some (.inl (aQ a0 1)))) else (some (.inr (.inr (()))))
def rG (st:bW) (all:(List bC)) (x3:cF):Int→Option (Int ⊕ (Unit ⊕ Unit)):=fun a0 =>
 if (decide (a0<(all.length:Int))) then ((idx all a0).bind fun a1=>((Mh a1 x3.aS).bind fun a3=>if a3 then ((idx st.Cut a0).bind fun a5=>if a5 then (some false) else ((BX (Is.mk x3.gC.X x3.gC.Y) a1.Line).bind fun a4=>some (decide (a4≤7200)))) else (some false)).bind fun a2=>if a2 then (some (.inr (.inl ()))) else (some (.inl (aQ a0 1)))) else (some (.inr (.inr (()))))
def gQ (st:bW) (l:aV) (all:(List bC)) (x3:cF):Option (Bool):=
 if (decide (x3.nK ≥ 0)) then ((idx l.aB x3.aS).bind fun a7=>(idx a7.bQ x3.nK).bind fun a0=>(if (decide (x3.gC.X>a0.X)) then (if (decide (x3.gC.X<(aQ a0.X a0.W))) then (if (decide (x3.gC.Y>a0.Y)) then (some (decide (x3.gC.Y<(aQ a0.Y a0.H)))) else (some false)) else (some false)) else (some false)).bind fun a2=>some a2) else ((if (decide (x3.gC.X<0)) then (some true) else (if (decide (x3.gC.X>l.aT.dQ)) then (some true) else (if (decide (x3.gC.Y<0)) then (some true) else (if (decide (x3.gC.Y>l.aT.cE)) then (some true) else ((gH l.aT.bO (Is.mk x3.gC.X x3.gC.Y)).bind fun a6=>some a6))))).bind fun a3=>if a3 then (some false) else ((aM (fP l x3) 0).bind fun a8=>match a8 with | .inl a9=>some false | .inr b0=>(aM (rG st all x3) 0).bind fun a1=>match a1 with | .inl a4=>some true | .inr a5=>some false))
def jN (s:(List Bool)):Option (List Bool):=app [] s
def Cf (s:(List Int)):Option (List Int):=app [] s
def lW (st:bW):Int×(List (List Bool))→Option (Int×(List (List Bool)) ⊕ (List (List Bool))):=fun a0 =>
 if (decide (a0.1<(st.bJ.length:Int))) then ((idx st.bJ a0.1).bind fun a3=>(jN a3).bind fun a2=>(app a0.2 [a2]).bind fun a1=>some (.inl ((aQ a0.1 1),a1))) else (some (.inr a0.2))
def Em (st:bW):Option (bW):=
 (jN st.Cut).bind fun r9=>(jN st.eV).bind fun a1=>(Cf st.bL).bind fun a2=>(jN st.bE).bind fun a3=>(aM (lW st) (0,[])).bind fun a0=>some (bW.mk r9 a0 a1 a2 a3)
def Nl (a1:Int×(List Bool)):(List Bool)→Option (Int×(List Bool) ⊕ (List Bool)):=fun a0 =>
 some (.inl ((aQ a1.1 1),a0))
def Fw (l:aV) (all:(List bC)) (a1:(List Bool)×(List (List Bool))×(List Bool)×(List Int)):Int×(List Bool)→Option (Int×(List Bool) ⊕ (List Bool)):=fun a0 =>
 if (decide (a0.1<(l.aB.length:Int))) then (((pP (bW.mk a1.1 a1.2.1 a1.2.2.1 a1.2.2.2 a0.2) all a0.1).bind fun a3=>if a3 then ((idx a1.2.2.1 a0.1).bind fun a4=>if a4 then ((idx a1.2.2.2 a0.1).bind fun a5=>some (!(decide (a5>0)))) else (some true)) else (some false)).bind fun a2=>if a2 then ((idx a0.2 a0.1).bind fun a6=>Nl a0 (m7 a0.2 (l4 a0.1) true)) else (Nl a0 a0.2)) else (some (.inr a0.2))
def Jm (l:aV) (all:(List bC)) (a2:bW):((List Bool)×(List (List Bool))×(List Bool)×(List Int))→Option (bW×Int):=fun a0 =>
 (aM (Fw l all a0) (0,a2.bE)).bind fun a1=>some ((bW.mk a0.1 a0.2.1 a0.2.2.1 a0.2.2.2 a1),0)
def Nn (a1:Int×(List Bool)):(List Bool)→Option (Int×(List Bool) ⊕ (List Bool)):=fun a0 =>
 some (.inl ((aQ a1.1 1),a0))
def Jn (all:(List bC)) (x3:cF):Int×(List Bool)→Option (Int×(List Bool) ⊕ (List Bool)):=fun a0 =>
 if (decide (a0.1<(all.length:Int))) then ((idx all a0.1).bind fun a2=>(Mh a2 x3.aS).bind fun a1=>if a1 then ((idx a0.2 a0.1).bind fun a3=>Nn a0 (m7 a0.2 (l4 a0.1) true)) else (Nn a0 a0.2)) else (some (.inr a0.2))
def lX (l:aV) (all:(List bC)) (st:bW) (x3:cF):Option (bW×Int):=
 ((jT st l (all.length:Int)).bind fun a6=>if a6 then (if (decide (x3.aS<0)) then (some true) else (some (decide (x3.aS ≥ (l.aB.length:Int))))) else (some true)).bind fun a3=>if a3 then (some ((bW.mk [] [] [] [] []),1)) else ((if (decide (x3.nK<(-1))) then (some true) else ((idx l.aB x3.aS).bind fun b3=>if (decide (x3.nK ≥ (b3.bQ.length:Int))) then (some true) else (if (decide (x3.bL<0)) then (some true) else (if (decide (x3.bL>4)) then (some true) else (if (decide (x3.nK ≥ 0)) then (some (x3.bL != 0)) else (some false)))))).bind fun a4=>if a4 then (some ((bW.mk [] [] [] [] []),1)) else ((kU st all x3).bind fun a7=>if (!a7) then (some ((bW.mk [] [] [] [] []),12)) else ((if (decide (x3.nK<0)) then (if (x3.bL==0) then ((idx l.aB x3.aS).bind fun b4=>(vE b4).bind fun a8=>some a8) else (some false)) else (some false)).bind fun a5=>if a5 then (some ((bW.mk [] [] [] [] []),15)) else ((gQ st l all x3).bind fun a9=>if (!a9) then (some ((bW.mk [] [] [] [] []),14)) else ((Em st).bind fun a0=>if (decide (x3.nK ≥ 0)) then ((idx a0.bJ x3.aS).bind fun a1=>(idx a1 x3.nK).bind fun b0=>Jm l all a0 (a0.Cut,(m7 a0.bJ (l4 x3.aS) (m7 a1 (l4 x3.nK) true)),a0.eV,a0.bL)) else ((idx a0.eV x3.aS).bind fun b1=>(idx a0.bL x3.aS).bind fun b2=>(aM (Jn all x3) (0,a0.Cut)).bind fun a2=>Jm l all a0 (a2,a0.bJ,(m7 a0.eV (l4 x3.aS) true),(m7 a0.bL (l4 x3.aS) x3.bL))))))))
def Zu (a:bW):Option (Unit):=
 some ()
def dZ (l:aV) (items:(List cF)) (r2:(List bC)×Int):(Int×(List (List Bool))×(List Bool)×(List Bool)×(List Int)×(List Bool))→Option ((Int×(List (List Bool))×(List Bool)×(List Bool)×(List Int)×(List Bool)) ⊕ ((Int×Int) ⊕ ((List (List Bool))×(List Bool)×(List Bool)×(List Int)×(List Bool)))):=fun a0 =>
 if (decide (a0.1<(items.length:Int))) then ((idx items a0.1).bind fun a2=>(lX l r2.1 (bW.mk a0.2.2.1 a0.2.1 a0.2.2.2.1 a0.2.2.2.2.1 a0.2.2.2.2.2) a2).bind fun a1=>if (a1.2 != 0) then (some (.inr (.inl (a0.1,a1.2)))) else ((Zu a1.1).bind fun a3=>some (.inl ((aQ a0.1 1),a1.1.bJ,a1.1.Cut,a1.1.eV,a1.1.bL,a1.1.bE)))) else (some (.inr (.inr ((a0.2.1,a0.2.2.1,a0.2.2.2.1,a0.2.2.2.2.1,a0.2.2.2.2.2)))))
def zY (l:aV) (items:(List cF)):Option (bW×Int×Int×(List (List Bool))):=
 (tB l).bind fun r2=>if (r2.2 != 0) then (some ((bW.mk [] [] [] [] []),0,r2.2,[])) else (if (decide ((items.length:Int)>128)) then (some ((bW.mk [] [] [] [] []),0,4,[])) else ((Ck l (r2.1.length:Int)).bind fun r4=>(aM (dZ l items r2) (0,r4.bJ,r4.Cut,r4.eV,r4.bL,r4.bE)).bind fun a2=>match a2 with | .inl a1=>some ((bW.mk [] [] [] [] []),a1.1,a1.2,[]) | .inr a0=>some ((bW.mk a0.2.1 a0.1 a0.2.2.1 a0.2.2.2.1 a0.2.2.2.2),0,0,a0.1)))
def Ni (l:aV) (items:(List cF)):Option (bW×Int×Int×(List (List Bool))):=
 (zY l items).bind fun r2=>some ((bW.mk r2.1.Cut r2.1.bJ r2.1.eV r2.1.bL r2.1.bE),r2.2.1,r2.2.2.1,r2.1.bJ)
def Ba (r2:bW×Int×Int×(List (List Bool))):Int→Option (Int ⊕ (Unit ⊕ Unit)):=fun a0 =>
 if (decide (a0<(r2.1.bJ.length:Int))) then ((idx r2.1.bJ a0).bind fun a2=>(fK a2 false).bind fun a1=>if a1 then (some (.inr (.inl ()))) else (some (.inl (aQ a0 1)))) else (some (.inr (.inr (()))))
def xK (l:aV) (items:(List cF)):Option (Int):=
 (Ni l items).bind fun r2=>if (r2.2.2.1 != 0) then (some r2.2.2.1) else ((fK r2.1.eV false).bind fun r6=>if r6 then (some 12) else ((aM (Ba r2) 0).bind fun a0=>match a0 with | .inl a1=>some 12 | .inr a2=>some 0))
def yU (a1:Int×(List Int)):(List Int)→Option (Int×(List Int) ⊕ (List Int)):=fun a0 =>
 some (.inl ((aQ a1.1 1),a0))
def yV (st:bW) (a1:(List Bool)):Int×(List Int)→Option (Int×(List Int) ⊕ (List Int)):=fun a0 =>
 if (decide (a0.1<(st.bE.length:Int))) then ((idx st.bE a0.1).bind fun a4=>(if a4 then ((idx a1 a0.1).bind fun a5=>some (!a5)) else (some false)).bind fun a2=>if a2 then ((app a0.2 [a0.1]).bind fun a3=>yU a0 a3) else (yU a0 a0.2)) else (some (.inr a0.2))
def Fa (st:bW) (a0:(List Bool)) (a1:(List (List Int))):Option ((List (List Int))):=
 (aM (yV st a0) (0,[])).bind fun a3=>(app a1 [a3]).bind fun a2=>some a2
def gL (l:aV) (items:(List cF)) (r2:(List bC)×Int):(Int×(List (List Int))×(List Bool)×(List (List Bool))×(List Bool)×(List Int)×(List Bool)×(List Bool))→Option ((Int×(List (List Int))×(List Bool)×(List (List Bool))×(List Bool)×(List Int)×(List Bool)×(List Bool)) ⊕ ((Int×Int×(List (List Int))×(List Bool)) ⊕ ((List Bool)×(List (List Bool))×(List Bool)×(List Int)×(List Bool)×(List (List Int))×(List Bool)))):=fun a0 =>
 if (decide (a0.1<(items.length:Int))) then ((idx items a0.1).bind fun a3=>(lX l r2.1 (bW.mk a0.2.2.1 a0.2.2.2.1 a0.2.2.2.2.1 a0.2.2.2.2.2.1 a0.2.2.2.2.2.2.1) a3).bind fun a1=>if (a1.2 != 0) then (some (.inr (.inl (a0.1,a1.2,a0.2.1,a0.2.2.2.2.2.2.2)))) else ((Fa a1.1 a0.2.2.2.2.2.2.2 a0.2.1).bind fun a2=>some (.inl ((aQ a0.1 1),a2,a1.1.Cut,a1.1.bJ,a1.1.eV,a1.1.bL,a1.1.bE,a1.1.bE)))) else (some (.inr (.inr ((a0.2.2.1,a0.2.2.2.1,a0.2.2.2.2.1,a0.2.2.2.2.2.1,a0.2.2.2.2.2.2.1,a0.2.1,a0.2.2.2.2.2.2.2)))))
def wQ (l:aV) (items:(List cF)) (a1:(List Bool)) (a2:(List (List Int))):Option (bW×Int×Int×(List Bool)×(List (List Bool))×(List Bool)×(List Int)×(List Bool)×(List (List Int))×(List Bool)):=
 (tB l).bind fun r2=>if (r2.2 != 0) then (some ((bW.mk [] [] [] [] []),0,r2.2,[],[],[],[],[],a2,a1)) else (if (decide ((items.length:Int)>128)) then (some ((bW.mk [] [] [] [] []),0,4,[],[],[],[],[],a2,a1)) else ((Ck l (r2.1.length:Int)).bind fun r4=>(aM (gL l items r2) (0,a2,r4.Cut,r4.bJ,r4.eV,r4.bL,r4.bE,a1)).bind fun a4=>match a4 with | .inl a3=>some ((bW.mk [] [] [] [] []),a3.1,a3.2.1,[],[],[],[],[],a3.2.2.1,a3.2.2.2) | .inr a0=>some ((bW.mk a0.1 a0.2.1 a0.2.2.1 a0.2.2.2.1 a0.2.2.2.2.1),0,0,a0.1,a0.2.1,a0.2.2.1,a0.2.2.2.1,a0.2.2.2.2.1,a0.2.2.2.2.2.1,a0.2.2.2.2.2.2)))
def Nh (l:aV) (items:(List cF)):Option ((List (List Int))×Int):=
 (mk (l.aB.length:Int) false).bind fun l2=>(wQ l items l2 []).bind fun r4=>if (r4.2.2.1 != 0) then (some ([],r4.2.2.1)) else (some (r4.2.2.2.2.2.2.2.2.1,0))
def vD (a2:(List bC)):(Int×Int)→Option ((Int×Int) ⊕ Int):=fun a0 =>
 if (decide (a0.2<(a2.length:Int))) then ((idx a2 a0.2).bind fun a1=>some (.inl ((aQ a0.1 (aK (aQ (aK a1.Line.X2 a1.Line.X1) a1.Line.Y2) a1.Line.Y1)),(aQ a0.2 1)))) else (some (.inr a0.1))
def Dd (a1:aS):(Int×Int)→Option ((Int×Int) ⊕ Int):=fun a0 =>
 if (decide (a0.2<(a1.bQ.length:Int))) then ((idx a1.bQ a0.2).bind fun a2=>some (.inl ((aQ a0.1 (gZ 2 (aQ a2.W a2.H))),(aQ a0.2 1)))) else (some (.inr a0.1))
def xV (l:aV):(Int×Int)→Option ((Int×Int) ⊕ Int):=fun a0 =>
 if (decide (a0.2<(l.aB.length:Int))) then ((idx l.aB a0.2).bind fun a1=>(aM (Dd a1) (a0.1,0)).bind fun a2=>some (.inl (a2,(aQ a0.2 1)))) else (some (.inr a0.1))
def Kv (l:aV) (items:(List cF)):Option (Int×Int):=
 (xK l items).bind fun r4=>if (r4 != 0) then (some (0,r4)) else ((Cj l).bind fun a1=>(aM (vD a1) (0,0)).bind fun a2=>(aM (xV l) (a2,0)).bind fun a0=>some (a0,0))
def jK (r2:(List bC)×Int) (r8:bW×Int×Int×(List (List Bool))):(Int×Int)→Option ((Int×Int) ⊕ (Unit ⊕ Int)):=fun a0 =>
 if (decide (a0.2<(r2.1.length:Int))) then ((idx r8.1.Cut a0.2).bind fun a1=>if (!a1) then (some (.inr (.inl ()))) else ((idx r2.1 a0.2).bind fun a2=>(idx r2.1 a0.2).bind fun a3=>(idx r2.1 a0.2).bind fun a4=>(idx r2.1 a0.2).bind fun a5=>some (.inl ((aK a0.1 (aK (aQ (aK a2.Line.X2 a3.Line.X1) a4.Line.Y2) a5.Line.Y1)),(aQ a0.2 1))))) else (some (.inr (.inr a0.1)))
def jL (l:aV):(Int×Int)→Option ((Int×Int) ⊕ Int):=fun a0 =>
 if (decide (a0.2<(l.aB.length:Int))) then ((idx l.aB a0.2).bind fun a1=>some (.inl ((aQ a0.1 (a1.bQ.length:Int)),(aQ a0.2 1)))) else (some (.inr a0.1))
def jM (r4:(List (List Int))×Int) (a2:Int×Int×(List Bool)):Int×(List Bool)→Option (Int×(List Bool) ⊕ (List Bool)):=fun a0 =>
 (idx r4.1 a2.2.1).bind fun a3=>if (decide (a0.1<(a3.length:Int))) then ((idx r4.1 a2.2.1).bind fun a4=>(idx a4 a0.1).bind fun a1=>(idx a0.2 a1).bind fun a5=>some (.inl ((aQ a0.1 1),(m7 a0.2 (l4 a1) true)))) else (some (.inr a0.2))
def jJ (r4:(List (List Int))×Int) (a0:Int×Int×(List Bool)):Int→Option (Int×Int×(List Bool) ⊕ (Unit ⊕ Int)):=fun a1 =>
 (aM (jM r4 a0) (0,a0.2.2)).bind fun a2=>some (.inl (a1,(aQ a0.2.1 1),a2))
def eU (l:aV) (items:(List cF)) (r4:(List (List Int))×Int):Int×Int×(List Bool)→Option (Int×Int×(List Bool) ⊕ (Unit ⊕ Int)):=fun a0 =>
 if (decide (a0.2.1<(items.length:Int))) then ((idx items a0.2.1).bind fun a1=>(idx a0.2.2 a1.aS).bind fun a3=>if a3 then (some (.inr (.inl ()))) else (if (decide (a1.nK ≥ 0)) then ((idx l.aB a1.aS).bind fun a4=>(idx a4.bQ a1.nK).bind fun a2=>jJ r4 a0 (aK a0.1 (gZ 2 (aQ a2.W a2.H)))) else (jJ r4 a0 a0.1))) else (some (.inr (.inr a0.1)))
def jI (l:aV) (items:(List cF)):Option (Bool):=
 (tB l).bind fun r2=>(Nh l items).bind fun r4=>(Kv l items).bind fun r6=>(Ni l items).bind fun r8=>(if (r2.2 != 0) then (some true) else (if (r4.2 != 0) then (some true) else (if (r6.2 != 0) then (some true) else (if (r8.2.2.1 != 0) then (some true) else (if ((r4.1.length:Int) != (items.length:Int)) then (some true) else (some ((r8.1.Cut.length:Int) != (r2.1.length:Int)))))))).bind fun a8=>if a8 then (some false) else ((aM (jK r2 r8) (r6.1,0)).bind fun a5=>match a5 with | .inl a9=>some false | .inr a3=>(aM (jL l) (0,0)).bind fun a6=>(mk (l.aB.length:Int) false).bind fun a4=>(aM (eU l items r4) (a3,0,a4)).bind fun a2=>match a2 with | .inl a7=>some false | .inr a0=>(if (a0==0) then (some ((items.length:Int)==(aQ (l.aB.length:Int) a6))) else (some false)).bind fun a1=>some a1)
def Dn (sheets:(List aT)):Int→Option (Int ⊕ (Int ⊕ Unit)):=fun a0 =>
 if (decide (a0<(sheets.length:Int))) then ((idx sheets a0).bind fun a2=>(eB a2).bind fun a1=>if (a1 != 0) then (some (.inr (.inl a1))) else (some (.inl (aQ a0 1)))) else (some (.inr (.inr (()))))
def Dp (pieces:(List aS)):Int→Option (Int ⊕ (Int ⊕ Unit)):=fun a1 =>
 if (decide (a1<(pieces.length:Int))) then ((idx pieces a1).bind fun a2=>(bM a2).bind fun a0=>if (a0 != 0) then (some (.inr (.inl a0))) else (some (.inl (aQ a1 1)))) else (some (.inr (.inr (()))))
def Cp (sheets:(List aT)) (pieces:(List aS)):Option (Int):=
 (if (decide ((sheets.length:Int)>4)) then (some true) else (some (decide ((pieces.length:Int)>8)))).bind fun j2=>if j2 then (some 4) else ((aM (Dn sheets) 0).bind fun a4=>match a4 with | .inl a3=>some a3 | .inr a5=>(aM (Dp pieces) 0).bind fun a1=>match a1 with | .inl a0=>some a0 | .inr a2=>some 0)
def eA (set0:dJ):Option (Bool):=
 ((kP set0.Gap 0 14400).bind fun r4=>if r4 then ((kP set0.cH 0 14400).bind fun r5=>some r5) else (some false)).bind fun j3=>some j3
def pU (taken:(List (List aF))):Int→Option (Int ⊕ (Unit ⊕ Unit)):=fun a0 =>
 if (decide (a0<(taken.length:Int))) then ((idx taken a0).bind fun a1=>if (decide ((a1.length:Int)>12)) then (some (.inr (.inl ()))) else (some (.inl (aQ a0 1)))) else (some (.inr (.inr (()))))
def pV (taken:(List (List aF))):Int→Option (Int ⊕ (Unit ⊕ Unit)):=fun a0 =>
 if (decide (a0<(taken.length:Int))) then ((idx taken a0).bind fun a2=>(nN a2).bind fun a1=>if (!a1) then (some (.inr (.inl ()))) else (some (.inl (aQ a0 1)))) else (some (.inr (.inr (()))))
def zR (taken:(List (List aF))):Option (Int):=
 if (decide ((taken.length:Int)>8)) then (some 4) else ((aM (pU taken) 0).bind fun a0=>match a0 with | .inl a2=>some 4 | .inr a3=>(aM (pV taken) 0).bind fun a1=>match a1 with | .inl a4=>some 1 | .inr a5=>some 0)
def nW (a1:(List aF)):Int×(List aY)→Option (Int×(List aY) ⊕ (List aY)):=fun a0 =>
 if (decide (a0.1<(a1.length:Int))) then ((idx a1 a0.1).bind fun a3=>(app a0.2 [(aY.mk a3 0 false)]).bind fun a2=>some (.inl ((aQ a0.1 1),a2))) else (some (.inr a0.2))
def gF (s0:aT):Int×(List aY)→Option (Int×(List aY) ⊕ (List aY)):=fun a0 =>
 if (decide (a0.1<([s0.bO,s0.Used].length:Int))) then ((idx [s0.bO,s0.Used] a0.1).bind fun a1=>(aM (nW a1) (0,a0.2)).bind fun a2=>some (.inl ((aQ a0.1 1),a2))) else (some (.inr a0.2))
def sV (a1:Int×(List aY)):(List aY)→Option (Int×(List aY) ⊕ (List aY)):=fun a0 =>
 some (.inl ((aQ a1.1 1),a0))
def nX (set2:dJ) (a1:(List aF)):Int×(List aY)→Option (Int×(List aY) ⊕ (List aY)):=fun a0 =>
 if (decide (a0.1<(a1.length:Int))) then ((idx a1 a0.1).bind fun a2=>(eQ a2).bind fun a4=>if a4 then ((app a0.2 [(aY.mk a2 set2.Gap set2.sA)]).bind fun a3=>sV a0 a3) else (sV a0 a0.2)) else (some (.inr a0.2))
def sW (taken:(List (List aF))) (set2:dJ):Int×(List aY)→Option (Int×(List aY) ⊕ (List aY)):=fun a0 =>
 if (decide (a0.1<(taken.length:Int))) then ((idx taken a0.1).bind fun a1=>(aM (nX set2 a1) (0,a0.2)).bind fun a2=>some (.inl ((aQ a0.1 1),a2))) else (some (.inr a0.2))
def xP (s0:aT) (taken:(List (List aF))) (set2:dJ):Option ((List aY)):=
 (aM (gF s0) (0,[])).bind fun a0=>(aM (sW taken set2) (0,a0)).bind fun a1=>some a1
def iD (x0:aS) (s1:aT) (turn:Int):Option (Bool):=
 (if (x0.bH.toList==s1.bH.toList) then (if (x0.cX != s1.cX) then (some true) else ((kP turn 0 3).bind fun r6=>some (!r6))) else (some true)).bind fun j5=>if j5 then (some false) else ((if (x0.cU==0) then (some true) else (if (s1.cU==0) then (some true) else (some ((x0.cU==s1.cU)==((Int.tmod turn 2)==0))))).bind fun j7=>some j7)
def Uo (s0:eE):Int→Option (Int ⊕ (Unit ⊕ Unit)):=fun a0 =>
 if (decide (a0<([s0.X1,s0.Y1,s0.X2,s0.Y2].length:Int))) then ((idx [s0.X1,s0.Y1,s0.X2,s0.Y2] a0).bind fun a1=>(if (decide (a1<(-1048576))) then (some true) else (some (decide (a1>1048576)))).bind fun a2=>if a2 then (some (.inr (.inl ()))) else (some (.inl (aQ a0 1)))) else (some (.inr (.inr (()))))
def Qr (s0:eE):Option (Bool):=
 (aM (Uo s0) 0).bind fun a0=>match a0 with | .inl a1=>some false | .inr a2=>some true
def xX (a1:(List aF)):Int→Option (Int ⊕ (Unit ⊕ Unit)):=fun a0 =>
 if (decide (a0<(a1.length:Int))) then ((idx a1 a0).bind fun a3=>(eQ a3).bind fun a2=>if (!a2) then (some (.inr (.inl ()))) else (some (.inl (aQ a0 1)))) else (some (.inr (.inr (()))))
def xY (f:Flat):Int→Option (Int ⊕ (Unit ⊕ Unit)):=fun a0 =>
 if (decide (a0<([f.aD,f.bQ,f.Forms].length:Int))) then ((idx [f.aD,f.bQ,f.Forms] a0).bind fun a1=>if (decide ((a1.length:Int)>48)) then (some (.inr (.inl ()))) else ((aM (xX a1) 0).bind fun a2=>match a2 with | .inl a3=>some (.inr (.inl ())) | .inr a4=>some (.inl (aQ a0 1)))) else (some (.inr (.inr (()))))
def Iu (f:Flat):Int→Option (Int ⊕ (Unit ⊕ Unit)):=fun a0 =>
 if (decide (a0<(f.qQ.length:Int))) then ((idx f.qQ a0).bind fun a2=>(Qr a2.Line).bind fun a1=>if (!a1) then (some (.inr (.inl ()))) else (some (.inl (aQ a0 1)))) else (some (.inr (.inr (()))))
def Gg (f:Flat):Option (Int):=
 if ((f.aD.length:Int)==0) then (some 1) else ((aM (xY f) 0).bind fun a0=>match a0 with | .inl a2=>some 1 | .inr a3=>(aM (Iu f) 0).bind fun a1=>match a1 with | .inl a4=>some 1 | .inr a5=>some 0)
def Bi (r0:aF):Option (aF):=
 some (aF.mk (aK (xU r0.Y) r0.H) r0.X r0.H r0.W)
def xM (l:(List aF)):Int×(List aF)→Option (Int×(List aF) ⊕ (List aF)):=fun a0 =>
 if (decide (a0.1<(l.length:Int))) then ((idx l a0.1).bind fun a3=>(Bi a3).bind fun a2=>(app a0.2 [a2]).bind fun a1=>some (.inl ((aQ a0.1 1),a1))) else (some (.inr a0.2))
def vG (l:(List aF)):Option ((List aF)):=
 (aM (xM l) (0,[])).bind fun a0=>some a0
def Ml (s0:eE):Option (eE):=
 some (eE.mk (xU s0.Y1) s0.X1 (xU s0.Y2) s0.X2)
def eZ (f:Flat):Int×(List pO)→Option (Int×(List pO) ⊕ (List pO)):=fun a0 =>
 if (decide (a0.1<(f.qQ.length:Int))) then ((idx f.qQ a0.1).bind fun a1=>(Ml a1.Line).bind fun a3=>(app a0.2 [(pO.mk a1.GH a1.GJ a3 a1.OL a1.GG)]).bind fun a2=>some (.inl ((aQ a0.1 1),a2))) else (some (.inr a0.2))
def fV (f:Flat):Option (Flat):=
 (vG f.aD).bind fun r7=>(vG f.bQ).bind fun r8=>(vG f.Forms).bind fun r9=>(aM (eZ f) (0,[])).bind fun a0=>some (Flat.mk r7 r8 r9 a0)
def Fg (f:Flat):Option (Flat):=
 (fV f).bind fun r2=>some r2
def wR (a2:(List aF)):(Int×Int×Int×Int×Int)→Option ((Int×Int×Int×Int×Int) ⊕ (Int×Int×Int×Int)):=fun a0 =>
 if (decide (a0.1<(a2.length:Int))) then ((idx a2 a0.1).bind fun a1=>some (.inl ((aQ a0.1 1),(wJ a0.2.1 a1.X),(wJ a0.2.2.1 a1.Y),(aK (imax (aQ a0.2.1 a0.2.2.2.1) (aQ a1.X a1.W)) (wJ a0.2.1 a1.X)),(aK (imax (aQ a0.2.2.1 a0.2.2.2.2) (aQ a1.Y a1.H)) (wJ a0.2.2.1 a1.Y))))) else (some (.inr (a0.2.1,a0.2.2.1,a0.2.2.2.1,a0.2.2.2.2)))
def Ik (l:(List aF)):Option (aF×Int×Int×Int×Int):=
 (idx l 0).bind fun x2=>(slc l 1 (l.length:Int)).bind fun a1=>(aM (wR a1) (0,x2.X,x2.Y,x2.W,x2.H)).bind fun a0=>some ((aF.mk a0.1 a0.2.1 a0.2.2.1 a0.2.2.2),a0.1,a0.2.1,a0.2.2.1,a0.2.2.2)
def Gh (r0:aF) (a0:Int) (a1:Int) (a2:Int) (a3:Int):Option (aF):=
 some (aF.mk (aK r0.X a0) (aK r0.Y a1) r0.W r0.H)
def vQ (l:(List aF)) (a0:Int) (a1:Int) (a2:Int) (a3:Int):Int×(List aF)→Option (Int×(List aF) ⊕ (List aF)):=fun a4 =>
 if (decide (a4.1<(l.length:Int))) then ((idx l a4.1).bind fun a7=>(Gh a7 a0 a1 a2 a3).bind fun a6=>(app a4.2 [a6]).bind fun a5=>some (.inl ((aQ a4.1 1),a5))) else (some (.inr a4.2))
def tF (l:(List aF)) (a0:Int) (a1:Int) (a2:Int) (a3:Int):Option ((List aF)):=
 (aM (vQ l a0 a1 a2 a3) (0,[])).bind fun a4=>some a4
def Mm (s0:eE) (a0:Int) (a1:Int) (a2:Int) (a3:Int):Option (eE):=
 some (eE.mk (aK s0.X1 a0) (aK s0.Y1 a1) (aK s0.X2 a0) (aK s0.Y2 a1))
def fA (f:Flat) (a0:Int) (a1:Int) (a2:Int) (a3:Int):Int×(List pO)→Option (Int×(List pO) ⊕ (List pO)):=fun a4 =>
 if (decide (a4.1<(f.qQ.length:Int))) then ((idx f.qQ a4.1).bind fun a5=>(Mm a5.Line a0 a1 a2 a3).bind fun a7=>(app a4.2 [(pO.mk a5.GH a5.GJ a7 a5.OL a5.GG)]).bind fun a6=>some (.inl ((aQ a4.1 1),a6))) else (some (.inr a4.2))
def fW (f:Flat) (a0:Int) (a1:Int) (a2:Int) (a3:Int) (a4:Int) (a5:Int) (a6:Int) (a7:Int):Option (Flat):=
 (tF f.aD a0 a1 a2 a3).bind fun r7=>(tF f.bQ a0 a1 a2 a3).bind fun r8=>(tF f.Forms a0 a1 a2 a3).bind fun r9=>(aM (fA f a4 a5 a6 a7) (0,[])).bind fun a8=>some (Flat.mk r7 r8 r9 a8)
def Fh (f:Flat):Option (Flat×Int):=
 (Ik f.aD).bind fun r2=>(fW f r2.1.X r2.1.Y r2.1.W r2.1.H r2.1.X r2.1.Y r2.1.W r2.1.H).bind fun r4=>(Gg r4).bind fun r8=>if (r8 != 0) then (some ((Flat.mk [] [] [] []),4)) else (some (r4,0))
def uU (turns:Int):(Int×(List aF)×(List aF)×(List aF)×(List pO))→Option ((Int×(List aF)×(List aF)×(List aF)×(List pO)) ⊕ ((List aF)×(List aF)×(List aF)×(List pO))):=fun a0 =>
 if (decide (a0.1<turns)) then ((Fg (Flat.mk a0.2.1 a0.2.2.1 a0.2.2.2.1 a0.2.2.2.2)).bind fun a1=>some (.inl ((aQ a0.1 1),a1.aD,a1.bQ,a1.Forms,a1.qQ))) else (some (.inr (a0.2.1,a0.2.2.1,a0.2.2.2.1,a0.2.2.2.2)))
def Eo (f:Flat):Unit→Option (Unit ⊕ Unit):=fun a0 =>
 if (decide (0<(f.qQ.length:Int))) then (none) else (some (.inr ()))
def xL (f:Flat) (turns:Int):Option (Flat×Int):=
 (Gg f).bind fun r5=>(if (r5 != 0) then (some true) else (if (decide (turns<0)) then (some true) else (some (decide (turns>3))))).bind fun j6=>if j6 then (some ((Flat.mk [] [] [] []),1)) else ((aM (uU turns) (0,f.aD,f.bQ,f.Forms,f.qQ)).bind fun a0=>(aM (Eo f) ()).bind fun a2=>(Fh (Flat.mk a0.1 a0.2.1 a0.2.2.1 a0.2.2.2)).bind fun a1=>some (a1.1,a1.2))
def yL (l:(List aF)) (x1:Int) (y:Int) (l2:(List aF)):Int×(List aF)→Option (Int×(List aF) ⊕ (List aF)):=fun a0 =>
 if (decide (a0.1<((cpy l2 (0) (L6 (min l.length (l2.length)) l)).length:Int))) then ((idx a0.2 a0.1).bind fun a4=>(idx a0.2 a0.1).bind fun a1=>(idx (m7 a0.2 (l4 a0.1) (aF.mk (aQ a4.X x1) a1.Y a1.W a1.H)) a0.1).bind fun a3=>(idx (m7 a0.2 (l4 a0.1) (aF.mk (aQ a4.X x1) a1.Y a1.W a1.H)) a0.1).bind fun a2=>some (.inl ((aQ a0.1 1),(m7 (m7 a0.2 (l4 a0.1) (aF.mk (aQ a4.X x1) a1.Y a1.W a1.H)) (l4 a0.1) (aF.mk a2.X (aQ a3.Y y) a2.W a2.H))))) else (some (.inr a0.2))
def Cq (l:(List aF)) (x1:Int) (y:Int):Option ((List aF)):=
 (mk (l.length:Int) (aF.mk 0 0 0 0)).bind fun l2=>(aM (yL l x1 y l2) (0,(cpy l2 (0) (L6 (min l.length (l2.length)) l)))).bind fun a0=>some a0
def yN (x0:aS) (at1:bK):Option (aS×Int×ByteArray×ByteArray×Int×Int):=
 (xL (Flat.mk x0.aD x0.bQ x0.Forms []) at1.Kq).bind fun r2=>if (r2.2 != 0) then (some ((aS.mk o4 o4 0 0 [] [] []),4,o4,o4,0,0)) else ((Cq r2.1.aD at1.X at1.Y).bind fun r9=>(Cq r2.1.bQ at1.X at1.Y).bind fun a0=>(Cq r2.1.Forms at1.X at1.Y).bind fun a1=>((nN r9).bind fun a3=>if a3 then ((nN a0).bind fun a4=>if a4 then ((nN a1).bind fun a5=>some (!a5)) else (some true)) else (some true)).bind fun a2=>if a2 then (some ((aS.mk o4 o4 0 0 [] [] []),4,o4,o4,0,0)) else (some ((aS.mk x0.Name x0.bH x0.cX x0.cU r9 a0 a1),0,x0.Name,x0.bH,x0.cX,x0.cU)))
def cA (x0:Int) (y:Int):Option (Bool):=
 ((sD x0).bind fun r4=>if r4 then ((sD y).bind fun r5=>if r5 then (some (decide (x0<y))) else (some true)) else (some (decide (x0<y)))).bind fun j3=>some j3
def Cc:=pE (brL cA)
def Ej:=mS (brL cA)
def He:=uB (brL cA)
def Hd:=Ao (brL cA)
def Ab:=iG (brL cA)
def Cb:=oZ (brL cA)
def Jg:=Ap (brL cA)
def Jf:=Cm (brL cA)
def By:=iI (brL cA)
def Bv:=jU (brL cA)
def Bw:=jV (brL cA)
def Eh:=tJ (brL cA)
def Cz:=qY (brL cA)
def uZ:=fG (brL cA)
def vA:=eS (brL cA)
def xH:=gM (brL cA)
def Bz:=nG (brL cA)
def Fu:=uH (brL cA)
def Er:=oO (brL cA)
def Es:=oQ (brL cA)
def Et:=oR (brL cA)
def Cy:=kW (brL cA)
def wE:=jZ (brL cA)
def Hl:=Gk (brL cA)
def rS:=uA (brL cA)
def lR (y:Int) (a3:(List aF)) (a4:(List aY)) (a5:Int) (a0:Int) (a6:Int) (a1:Int) (a7:Int) (a2:Int):Option (Bool):=
 (if (decide (y<a0)) then (some true) else (some (decide (y>(aK (aQ a0 a1) a2))))).bind fun j1=>some j1
def pG (s0:(List Int)) (a0:(List aF)) (a1:(List aY)) (a2:Int) (a3:Int) (a4:Int) (a5:Int) (a6:Int) (a7:Int):Int→Option (Int ⊕ (Int ⊕ Unit)):=fun a8 =>
 if (decide (a8<(s0.length:Int))) then ((idx s0 a8).bind fun b0=>(lR b0 a0 a1 a2 a3 a4 a5 a6 a7).bind fun a9=>if a9 then (some (.inr (.inl a8))) else (some (.inl (aQ a8 1)))) else (some (.inr (.inr (()))))
def iE (s0:(List Int)) (a0:(List aF)) (a1:(List aY)) (a2:Int) (a3:Int) (a4:Int) (a5:Int) (a6:Int) (a7:Int):Option (Int):=
 (aM (pG s0 a0 a1 a2 a3 a4 a5 a6 a7) 0).bind fun a9=>match a9 with | .inl a8=>some a8 | .inr b0=>some (-1)
def eF (a1:Int×Int×(List Int)):Int×(List Int)→Option (Int×Int×(List Int) ⊕ Int×(List Int)):=fun a0 =>
 some (.inl (a0.1,(aQ a1.2.1 1),a0.2))
def oF (a1:(List aF)) (a2:(List aY)) (a3:Int) (a4:Int) (a5:Int) (a6:Int) (a7:Int) (a8:Int):Int×Int×(List Int)→Option (Int×Int×(List Int) ⊕ Int×(List Int)):=fun a0 =>
 if (decide (a0.2.1<(a0.2.2.length:Int))) then ((idx a0.2.2 a0.2.1).bind fun a9=>(lR a9 a1 a2 a3 a4 a5 a6 a7 a8).bind fun b0=>if (!b0) then ((idx a0.2.2 a0.1).bind fun b1=>eF a0 ((aQ a0.1 1),(m7 a0.2.2 (l4 a0.1) a9))) else (eF a0 (a0.1,a0.2.2))) else (some (.inr (a0.1,a0.2.2)))
def dH (a0:(List aF)) (a1:(List aY)) (a2:Int) (a3:Int) (a4:Int) (a5:Int) (a6:Int) (a7:Int) (a9:(List Int)):Option ((List Int)):=
 (iE a9 a0 a1 a2 a3 a4 a5 a6 a7).bind fun r2=>if (r2==(-1)) then (some a9) else ((aM (oF a0 a1 a2 a3 a4 a5 a6 a7) (r2,(aQ r2 1),a9)).bind fun a8=>if (decide ((0:Int)≤a8.1)&&(decide (a8.1≤(a8.2.length:Int))&&decide ((a8.2.length:Int)≤(a8.2.length:Int)))) then ((slc (cpy a8.2 (l4 a8.1) (q8 (l4 (a8.2.length:Int)-l4 a8.1) 0)) 0 a8.1).bind fun b0=>some b0) else none)
def kC (a1:aY) (a2:aF):Int×(List Int)→Option (Int×(List Int) ⊕ (List Int)):=fun a0 =>
 if (decide (a0.1<([0,a1.gap].length:Int))) then ((idx [0,a1.gap] a0.1).bind fun a3=>(app a0.2 [(aK (aQ (aQ a1.aF.Y a1.aF.H) a3) a2.Y),(aK (aK (aK a1.aF.Y a3) a2.Y) a2.H)]).bind fun a4=>some (.inl ((aQ a0.1 1),a4))) else (some (.inr a0.2))
def kD (s0:gX) (a1:aY):Int×(List Int)→Option (Int×(List Int) ⊕ (List Int)):=fun a0 =>
 if (decide (a0.1<(s0.tP.length:Int))) then ((idx s0.tP a0.1).bind fun a2=>(aM (kC a1 a2) (0,a0.2)).bind fun a3=>some (.inl ((aQ a0.1 1),a3))) else (some (.inr a0.2))
def kE (s0:gX):Int×(List Int)→Option (Int×(List Int) ⊕ (List Int)):=fun a0 =>
 if (decide (a0.1<(s0.cY.length:Int))) then ((idx s0.cY a0.1).bind fun a1=>(aM (kD s0 a1) (0,a0.2)).bind fun a2=>some (.inl ((aQ a0.1 1),a2))) else (some (.inr a0.2))
def sY (s0:gX):Option ((List Int)):=
 (aM (kE s0) (0,[s0.rB.Y])).bind fun a3=>(rS a3).bind fun a0=>(nI a0).bind fun a1=>(dH s0.tP s0.cY s0.rB.X s0.rB.Y s0.rB.W s0.rB.H s0.w s0.h a1).bind fun a2=>some a2
def Bq (a:bD):Option (Bool):=
 some (decide ((aK a.hi a.lo)<2))
def nR (s0:(List bD)):Int→Option (Int ⊕ (Int ⊕ Unit)):=fun a0 =>
 if (decide (a0<(s0.length:Int))) then ((idx s0 a0).bind fun a2=>(Bq a2).bind fun a1=>if a1 then (some (.inr (.inl a0))) else (some (.inl (aQ a0 1)))) else (some (.inr (.inr (()))))
def gO (s0:(List bD)):Option (Int):=
 (aM (nR s0) 0).bind fun a1=>match a1 with | .inl a0=>some a0 | .inr a2=>some (-1)
def dW (a1:Int×Int×(List bD)):Int×(List bD)→Option (Int×Int×(List bD) ⊕ Int×(List bD)):=fun a0 =>
 some (.inl (a0.1,(aQ a1.2.1 1),a0.2))
def nA:Int×Int×(List bD)→Option (Int×Int×(List bD) ⊕ Int×(List bD)):=fun a0 =>
 if (decide (a0.2.1<(a0.2.2.length:Int))) then ((idx a0.2.2 a0.2.1).bind fun a1=>(Bq a1).bind fun a2=>if (!a2) then ((idx a0.2.2 a0.1).bind fun a3=>dW a0 ((aQ a0.1 1),(m7 a0.2.2 (l4 a0.1) a1))) else (dW a0 (a0.1,a0.2.2))) else (some (.inr (a0.1,a0.2.2)))
def gJ (a1:(List bD)):Option ((List bD)):=
 (gO a1).bind fun r2=>if (r2==(-1)) then (some a1) else ((aM (nA) (r2,(aQ r2 1),a1)).bind fun a0=>if (decide ((0:Int)≤a0.1)&&(decide (a0.1≤(a0.2.length:Int))&&decide ((a0.2.length:Int)≤(a0.2.length:Int)))) then ((slc (cpy a0.2 (l4 a0.1) (q8 (l4 (a0.2.length:Int)-l4 a0.1) (bD.mk 0 0))) 0 a0.1).bind fun a2=>some a2) else none)
def Aa (a0:(List bD)):Option ((List bD)):=
 (gJ a0).bind fun r2=>some r2
def sU (o:aY) (r1:aF) (y:Int):Option ((List bD)):=
 (if (decide ((aQ r1.Y y)<(aQ o.aF.Y o.aF.H))) then (some (decide (o.aF.Y<(aQ (aQ r1.Y y) r1.H)))) else (some false)).bind fun j1=>(if (decide ((imax (imax 0 (aK (aK (aK o.aF.Y r1.Y) y) r1.H)) (aK (aK (aQ r1.Y y) o.aF.Y) o.aF.H)) ≥ o.gap)) then (some (decide ((imax (imax 0 (aK (aK (aK o.aF.Y r1.Y) y) r1.H)) (aK (aK (aQ r1.Y y) o.aF.Y) o.aF.H))>0))) else (some false)).bind fun a1=>if a1 then (some []) else ((if o.common then (some (j1,true)) else (some (false,false))).bind fun a0=>if a0.1 then ((Aa [(bD.mk (aK (aK (aK o.aF.X r1.X) r1.W) o.gap) (aK (aK o.aF.X r1.X) r1.W)),(bD.mk (aK (aK o.aF.X r1.X) r1.W) (aK (aQ o.aF.X o.aF.W) r1.X)),(bD.mk (aK (aQ o.aF.X o.aF.W) r1.X) (aQ (aK (aQ o.aF.X o.aF.W) r1.X) o.gap))]).bind fun a4=>some a4) else ((if a0.2 then (some (((imax (imax 0 (aK (aK (aK o.aF.Y r1.Y) y) r1.H)) (aK (aK (aQ r1.Y y) o.aF.Y) o.aF.H))==0),true)) else (some (false,false))).bind fun a2=>if a2.1 then ((Aa [(bD.mk (aK (aK (aK o.aF.X r1.X) r1.W) o.gap) (aK (aK o.aF.X r1.X) r1.W)),(bD.mk (aK (aQ o.aF.X o.aF.W) r1.X) (aQ (aK (aQ o.aF.X o.aF.W) r1.X) o.gap))]).bind fun a5=>some a5) else ((if ((imax (imax 0 (aK (aK (aK o.aF.Y r1.Y) y) r1.H)) (aK (aK (aQ r1.Y y) o.aF.Y) o.aF.H))==0) then (if (o.gap==0) then (some (!j1)) else (some false)) else (some false)).bind fun a3=>if a3 then (some []) else ((Aa [(bD.mk (aK (aK (aK o.aF.X r1.X) r1.W) o.gap) (aQ (aK (aQ o.aF.X o.aF.W) r1.X) o.gap))]).bind fun a6=>some a6))))
def gY (vals:(List Int)):Int→Option (Int ⊕ (Int ⊕ Unit)):=fun a0 =>
 if (decide (a0<(vals.length:Int))) then ((idx vals a0).bind fun a1=>if (a1 != 0) then (some (.inr (.inl a1))) else (some (.inl (aQ a0 1)))) else (some (.inr (.inr (()))))
def Pk (vals:(List Int)):Option (Int):=
 (aM (gY vals) 0).bind fun a1=>match a1 with | .inl a0=>some a0 | .inr a2=>some 0
def bB (a:cC) (a1:bD) (b:bD):Option (Int):=
 (bN a1.lo b.lo).bind fun r7=>(bN a1.hi b.hi).bind fun r8=>(Pk [r7,r8]).bind fun r9=>some r9
def lU:=pE (brC (bB cC.mk))
def mO:=mS (brC (bB cC.mk))
def nU:=uB (brC (bB cC.mk))
def nT:=Ao (brC (bB cC.mk))
def kI:=iG (brC (bB cC.mk))
def lT:=oZ (brC (bB cC.mk))
def oJ:=Ap (brC (bB cC.mk))
def oH:=Cm (brC (bB cC.mk))
def lE:=iI (brC (bB cC.mk))
def kY:=jU (brC (bB cC.mk))
def kZ:=jV (brC (bB cC.mk))
def mL:=tJ (brC (bB cC.mk))
def mF:=qY (brC (bB cC.mk))
def iM:=fG (brC (bB cC.mk))
def iN:=eS (brC (bB cC.mk))
def jE:=gM (brC (bB cC.mk))
def lF:=nG (brC (bB cC.mk))
def nD:=uH (brC (bB cC.mk))
def mW:=oO (brC (bB cC.mk))
def mX:=oQ (brC (bB cC.mk))
def mY:=oR (brC (bB cC.mk))
def mE:=kW (brC (bB cC.mk))
def fZ:=jZ (brC (bB cC.mk))
def oC:=Gk (brC (bB cC.mk))
def cJ:=uA (brC (bB cC.mk))
def kA (s0:gX) (y:Int) (a3:aY):Int×(List bD)→Option (Int×(List bD) ⊕ (List bD)):=fun a0 =>
 if (decide (a0.1<(s0.tP.length:Int))) then ((idx s0.tP a0.1).bind fun a4=>(sU a3 a4 y).bind fun a2=>(app a0.2 a2).bind fun a1=>some (.inl ((aQ a0.1 1),a1))) else (some (.inr a0.2))
def kB (s0:gX) (y:Int):Int×(List bD)→Option (Int×(List bD) ⊕ (List bD)):=fun a0 =>
 if (decide (a0.1<(s0.cY.length:Int))) then ((idx s0.cY a0.1).bind fun a1=>(aM (kA s0 y a1) (0,a0.2)).bind fun a2=>some (.inl ((aQ a0.1 1),a2))) else (some (.inr a0.2))
def sX (s0:gX) (y:Int):Option ((List bD)):=
 (aM (kB s0 y) (0,[])).bind fun a1=>(cJ a1).bind fun a0=>some a0
def Dl (a1:Int×Bool×Int):(Int×Bool)→Option ((Int×Bool×Int) ⊕ (Int×Bool)):=fun a0 =>
 some (.inl (a0.1,a0.2,(aQ a1.2.2 1)))
def yI (l:(List bD)) (lo:Int) (hi:Int):(Int×Bool×Int)→Option ((Int×Bool×Int) ⊕ (Int×Bool)):=fun a0 =>
 if (decide (a0.2.2<(l.length:Int))) then ((idx l a0.2.2).bind fun a1=>(if (decide (a1.lo<a0.1)) then (some (decide (a0.1<a1.hi))) else (some false)).bind fun a2=>if a2 then (Dl a0 (a1.hi,true)) else (Dl a0 (a0.1,a0.2.1))) else (some (.inr (a0.1,a0.2.1)))
def Dm (l:(List bD)) (lo:Int) (hi:Int):(Int×Bool)→Option ((Int×Bool) ⊕ Int):=fun a0 =>
 if a0.2 then ((aM (yI l lo hi) (a0.1,false,0)).bind fun a1=>some (.inl (a1.1,a1.2))) else (some (.inr a0.1))
def Le (l:(List bD)) (lo:Int) (hi:Int):Option (Int×Bool):=
 (aM (Dm l lo hi) (lo,true)).bind fun a0=>some (a0,(decide (a0≤hi)))
def rQ (s0:gX) (a4:(List Int)):Int→Option (Int ⊕ ((Int×Int) ⊕ Unit)):=fun a3 =>
 if (decide (a3<(a4.length:Int))) then ((idx a4 a3).bind fun a1=>(sX s0 a1).bind fun a2=>(Le a2 s0.rB.X (aK (aQ s0.rB.X s0.rB.W) s0.w)).bind fun a0=>if a0.2 then (some (.inr (.inl (a0.1,a1)))) else (some (.inl (aQ a3 1)))) else (some (.inr (.inr (()))))
def vX (s0:gX):Option (Int×Int×Bool):=
 (if (decide (s0.w>s0.rB.W)) then (some true) else (some (decide (s0.h>s0.rB.H)))).bind fun j2=>if j2 then (some (0,0,false)) else ((sY s0).bind fun a3=>(aM (rQ s0 a3) 0).bind fun a1=>match a1 with | .inl a0=>some (a0.1,a0.2,true) | .inr a2=>some (0,0,false))
def wY (a1:Bool×Int×Int×Int×Int):(Bool×Int×Int×Int)→Option ((Bool×Int×Int×Int×Int) ⊕ (Bool×Int×Int×Int)):=fun a0 =>
 some (.inl (a0.1,(aQ a1.2.1 1),a0.2.1,a0.2.2.1,a0.2.2.2))
def Ef (a2:aS×Int×ByteArray×ByteArray×Int×Int):(Int×Int×Int)→Option ((Int×Int×Int) ⊕ (Int×Int)):=fun a0 =>
 if (decide (a0.1<(a2.1.aD.length:Int))) then ((idx a2.1.aD a0.1).bind fun a1=>some (.inl ((aQ a0.1 1),(imax a0.2.1 (aQ a1.X a1.W)),(imax a0.2.2 (aQ a1.Y a1.H))))) else (some (.inr (a0.2.1,a0.2.2)))
def As (s0:aT) (x2:aS) (a6:aF×Bool) (a7:(List aY)):(Bool×Int×Int×Int×Int)→Option ((Bool×Int×Int×Int×Int) ⊕ (Bool×Int×Int×Int)):=fun a0 =>
 if (decide (a0.2.1<4)) then ((iD x2 s0 a0.2.1).bind fun a5=>if (!a5) then (wY a0 (a0.1,a0.2.2.1,a0.2.2.2.1,a0.2.2.2.2)) else ((yN x2 (bK.mk 0 0 0 0 a0.2.1)).bind fun a2=>if (a2.2.1 != 0) then (wY a0 (a0.1,a0.2.2.1,a0.2.2.2.1,a0.2.2.2.2)) else ((aM (Ef a2) (0,0,0)).bind fun a4=>(vX (gX.mk a2.1.aD a7 a6.1 a4.1 a4.2)).bind fun a1=>(if a1.2.2 then (if a0.1 then (if (decide (a1.2.1<a0.2.2.2.1)) then (some (true,true)) else (if (a1.2.1==a0.2.2.2.1) then (some (true,(decide (a1.1<a0.2.2.1)))) else (some (true,false)))) else (some (false,true))) else (some (a0.1,false))).bind fun a3=>if a3.2 then (wY a0 (true,a1.1,a1.2.1,a0.2.1)) else (wY a0 (a3.1,a0.2.2.1,a0.2.2.2.1,a0.2.2.2.2))))) else (some (.inr (a0.1,a0.2.2.1,a0.2.2.2.1,a0.2.2.2.2)))
def Rk (s0:aT) (taken:(List (List aF))) (x2:aS) (set3:dJ):Option (bK×Bool×Int×Int×Int×Int):=
 (eB s0).bind fun r4=>if (r4 != 0) then (some ((bK.mk 0 0 0 0 0),false,r4,0,0,0)) else ((zR taken).bind fun r8=>if (r8 != 0) then (some ((bK.mk 0 0 0 0 0),false,r8,0,0,0)) else ((bM x2).bind fun a1=>if (a1 != 0) then (some ((bK.mk 0 0 0 0 0),false,a1,0,0,0)) else ((eA set3).bind fun a3=>if (!a3) then (some ((bK.mk 0 0 0 0 0),false,1,0,0,0)) else ((sG s0 set3.cH).bind fun a2=>if (!a2.2) then (some ((bK.mk 0 0 0 0 0),false,0,0,0,0)) else ((xP s0 taken set3).bind fun a4=>(aM (As s0 x2 a2 a4) (false,0,0,0,0)).bind fun a0=>some ((bK.mk 0 0 a0.2.1 a0.2.2.1 a0.2.2.2),a0.1,0,a0.2.1,a0.2.2.1,a0.2.2.2))))))
def Fo (a1:Int×(List (List (List aF)))×(List bK)×(List Int)):((List (List (List aF)))×(List bK)×(List Int))→Option ((Int×(List (List (List aF)))×(List bK)×(List Int)) ⊕ ((List bK)×(List Int))):=fun a0 =>
 some (.inl ((aQ a1.1 1),a0.1,a0.2.1,a0.2.2))
def Fp (sheets:(List aT)) (set2:dJ) (a2:Int×(List (List (List aF)))×(List bK)×(List Int)) (a3:aS):Int→Option (Int ⊕ (((List (List (List aF)))×(List bK)) ⊕ Unit)):=fun a0 =>
 if (decide (a0<(sheets.length:Int))) then ((idx sheets a0).bind fun a8=>(idx a2.2.1 a0).bind fun a9=>(Rk a8 a9 a3 set2).bind fun a1=>(if (a1.2.2.1 != 0) then (some true) else (some (!a1.2.1))).bind fun a4=>if a4 then (some (.inl (aQ a0 1))) else ((yN a3 (bK.mk a2.1 a0 a1.1.X a1.1.Y a1.1.Kq)).bind fun a7=>(idx a2.2.1 a0).bind fun b0=>(app b0 [a7.1.aD]).bind fun a5=>(idx a2.2.1 a0).bind fun b1=>(app a2.2.2.1 [(bK.mk a2.1 a0 a1.1.X a1.1.Y a1.1.Kq)]).bind fun a6=>some (.inr (.inl ((m7 a2.2.1 (l4 a0) a5),a6))))) else (some (.inr (.inr (()))))
def Bp (sheets:(List aT)) (pieces:(List aS)) (set2:dJ):(Int×(List (List (List aF)))×(List bK)×(List Int))→Option ((Int×(List (List (List aF)))×(List bK)×(List Int)) ⊕ ((List bK)×(List Int))):=fun a0 =>
 if (decide (a0.1<(pieces.length:Int))) then ((idx pieces a0.1).bind fun a3=>(aM (Fp sheets set2 a0 a3) 0).bind fun a4=>match a4 with | .inl a1=>Fo a0 (a1.1,a1.2,a0.2.2.2) | .inr a5=>(app a0.2.2.2 [a0.1]).bind fun a2=>Fo a0 (a0.2.1,a0.2.2.1,a2)) else (some (.inr (a0.2.2.1,a0.2.2.2)))
def Nx (sheets:(List aT)) (pieces:(List aS)) (set2:dJ):Option ((List bK)×(List Int)×Int):=
 (Cp sheets pieces).bind fun r4=>if (r4 != 0) then (some ([],[],r4)) else ((eA set2).bind fun r8=>if (!r8) then (some ([],[],1)) else ((mk (sheets.length:Int) []).bind fun a1=>(aM (Bp sheets pieces set2) (0,a1,[],[])).bind fun a0=>some (a0.1,a0.2,0)))
def nV (x0:aS) (at1:bK):Option (aS×Int×ByteArray×ByteArray×Int×Int):=
 (bM x0).bind fun r4=>if (r4 != 0) then (some ((aS.mk o4 o4 0 0 [] [] []),r4,o4,o4,0,0)) else ((kP at1.Kq 0 3).bind fun r8=>if (!r8) then (some ((aS.mk o4 o4 0 0 [] [] []),1,o4,o4,0,0)) else (((kP at1.X (-1048576) 1048576).bind fun a2=>if a2 then ((kP at1.Y (-1048576) 1048576).bind fun a3=>some (!a3)) else (some true)).bind fun a1=>if a1 then (some ((aS.mk o4 o4 0 0 [] [] []),4,o4,o4,0,0)) else ((yN x0 at1).bind fun a0=>some ((aS.mk a0.1.Name a0.1.bH a0.1.cX a0.1.cU a0.1.aD a0.1.bQ a0.1.Forms),a0.2.1,a0.1.Name,a0.1.bH,a0.1.cX,a0.1.cU))))
def tL (b:(List aF)) (a2:aF):Int→Option (Int ⊕ (Unit ⊕ Unit)):=fun a0 =>
 if (decide (a0<(b.length:Int))) then ((idx b a0).bind fun a3=>(uG a2 a3).bind fun a1=>if a1 then (some (.inr (.inl ()))) else (some (.inl (aQ a0 1)))) else (some (.inr (.inr (()))))
def tM (a:(List aF)) (b:(List aF)):Int→Option (Int ⊕ (Unit ⊕ Unit)):=fun a0 =>
 if (decide (a0<(a.length:Int))) then ((idx a a0).bind fun a1=>(aM (tL b a1) 0).bind fun a2=>match a2 with | .inl a3=>some (.inr (.inl ())) | .inr a4=>some (.inl (aQ a0 1))) else (some (.inr (.inr (()))))
def yM (a:(List aF)) (b:(List aF)):Option (Bool):=
 (aM (tM a b) 0).bind fun a0=>match a0 with | .inl a1=>some true | .inr a2=>some false
def tK (x0:aS) (r2:aF×Bool):Int→Option (Int ⊕ (Unit ⊕ Unit)):=fun a0 =>
 if (decide (a0<(x0.aD.length:Int))) then ((idx x0.aD a0).bind fun a2=>(wS a2 r2.1).bind fun a1=>if (!a1) then (some (.inr (.inl ()))) else (some (.inl (aQ a0 1)))) else (some (.inr (.inr (()))))
def yJ (x0:aS) (s1:aT) (set2:dJ) (turn:Int):Option (Bool):=
 (sG s1 set2.cH).bind fun r2=>(if r2.2 then ((iD x0 s1 turn).bind fun r8=>some (!r8)) else (some true)).bind fun j7=>if j7 then (some false) else ((aM (tK x0 r2) 0).bind fun a3=>match a3 with | .inl a4=>some false | .inr a5=>((yM x0.aD s1.bO).bind fun a1=>if a1 then (some false) else ((yM x0.aD s1.Used).bind fun a2=>some (!a2))).bind fun a0=>some a0)
def yG (b:(List aF)) (set2:dJ) (a3:aF):(Int×Bool)→Option ((Int×Bool) ⊕ (Unit ⊕ Bool)):=fun a0 =>
 if (decide (a0.1<(b.length:Int))) then ((idx b a0.1).bind fun a4=>(xZ a3 a4).bind fun a2=>((uG a3 a4).bind fun a5=>if a5 then (some (true,a0.2)) else (if (decide (a2<set2.Gap)) then (if a0.2 then (some ((!(a2==0)),true)) else (some (true,false))) else (some (false,a0.2)))).bind fun a1=>if a1.1 then (some (.inr (.inl ()))) else (some (.inl ((aQ a0.1 1),a1.2)))) else (some (.inr (.inr a0.2)))
def yH (a:(List aF)) (b:(List aF)) (set2:dJ):(Int×Bool)→Option ((Int×Bool) ⊕ (Unit ⊕ Unit)):=fun a0 =>
 if (decide (a0.1<(a.length:Int))) then ((idx a a0.1).bind fun a2=>(aM (yG b set2 a2) (0,a0.2)).bind fun a3=>match a3 with | .inl a4=>some (.inr (.inl ())) | .inr a1=>some (.inl ((aQ a0.1 1),a1))) else (some (.inr (.inr (()))))
def Ld (a:(List aF)) (b:(List aF)) (set2:dJ):Option (Bool):=
 (aM (yH a b set2) (0,set2.sA)).bind fun a0=>match a0 with | .inl a1=>some false | .inr a2=>some true
def yC (a2:bK) (a1:(List bK)):Int→Option (Int ⊕ (Unit ⊕ Unit)):=fun a0 =>
 if (decide (a0<(a1.length:Int))) then ((idx a1 a0).bind fun a3=>if (a3.aS==a2.aS) then (some (.inr (.inl ()))) else (some (.inl (aQ a0 1)))) else (some (.inr (.inr (()))))
def yD (set2:dJ) (a5:Int×(List aS)) (a6:bK) (a3:aS×Int×ByteArray×ByteArray×Int×Int) (a1:(List bK)):Int→Option (Int ⊕ (Unit ⊕ Unit)):=fun a0 =>
 if (decide (a0<(a1.length:Int))) then ((idx a1 a0).bind fun a7=>(if (a7.aT==a6.aT) then ((idx a5.2 a0).bind fun a8=>(Ld a3.1.aD a8.aD set2).bind fun a4=>some (!a4)) else (some false)).bind fun a2=>if a2 then (some (.inr (.inl ()))) else (some (.inl (aQ a0 1)))) else (some (.inr (.inr (()))))
def yF (sheets:(List aT)) (pieces:(List aS)) (set2:dJ) (l:(List bK)):Int×(List aS)→Option (Int×(List aS) ⊕ ((Int×Int) ⊕ Unit)):=fun a1 =>
 if (decide (a1.1<(l.length:Int))) then ((idx l a1.1).bind fun a2=>((kP a2.aS 0 (aK (pieces.length:Int) 1)).bind fun a7=>if a7 then ((kP a2.aT 0 (aK (sheets.length:Int) 1)).bind fun a8=>some (!a8)) else (some true)).bind fun a3=>if a3 then (some (.inr (.inl (a1.1,1)))) else ((idx pieces a2.aS).bind fun b0=>(nV b0 a2).bind fun a0=>if (a0.2.1 != 0) then (some (.inr (.inl (a1.1,1)))) else ((slc l 0 a1.1).bind fun a4=>(aM (yC a2 a4) 0).bind fun b1=>match b1 with | .inl b4=>some (.inr (.inl (a1.1,12))) | .inr b5=>(idx sheets a2.aT).bind fun b2=>(yJ (aS.mk a0.1.Name a0.1.bH a0.1.cX a0.1.cU a0.1.aD a0.1.bQ a0.1.Forms) b2 set2 a2.Kq).bind fun a9=>if (!a9) then (some (.inr (.inl (a1.1,13)))) else ((slc l 0 a1.1).bind fun a5=>(aM (yD set2 a1 a2 a0 a5) 0).bind fun b3=>match b3 with | .inl b6=>some (.inr (.inl (a1.1,7))) | .inr b7=>(app a1.2 [(aS.mk a0.1.Name a0.1.bH a0.1.cX a0.1.cU a0.1.aD a0.1.bQ a0.1.Forms)]).bind fun a6=>some (.inl ((aQ a1.1 1),a6)))))) else (some (.inr (.inr (()))))
def Gs (sheets:(List aT)) (pieces:(List aS)) (set2:dJ) (l:(List bK)):Option (Int×Int):=
 (Cp sheets pieces).bind fun r4=>if (r4 != 0) then (some (0,r4)) else ((eA set2).bind fun r8=>if (!r8) then (some (0,1)) else ((aM (yF sheets pieces set2 l) (0,[])).bind fun a1=>match a1 with | .inl a0=>some (a0.1,a0.2) | .inr a2=>some (0,0)))
def De (s0:aT):Option (aT):=
 (eD s0.bO).bind fun r5=>(eD s0.Used).bind fun r6=>some (aT.mk s0.Name s0.bH s0.cX s0.cU s0.dQ s0.cE r5 r6)
def yX (a1:Int×(List aS)):(List aS)→Option (Int×(List aS) ⊕ Int ⊕ (List aS)):=fun a0 =>
 some (.inl ((aQ a1.1 1),a0))
def uO (pieces:(List aS)) (l:(List bK)) (sheet:Int):Int×(List aS)→Option (Int×(List aS) ⊕ Int ⊕ (List aS)):=fun a1 =>
 if (decide (a1.1<(l.length:Int))) then ((idx l a1.1).bind fun a2=>if (a2.aT==sheet) then ((idx pieces a2.aS).bind fun a4=>(nV a4 a2).bind fun a0=>if (a0.2.1 != 0) then (some (.inr (.inl a0.2.1))) else ((app a1.2 [(aS.mk a0.1.Name a0.1.bH a0.1.cX a0.1.cU a0.1.aD a0.1.bQ a0.1.Forms)]).bind fun a3=>yX a1 a3)) else (yX a1 a1.2)) else (some (.inr (.inr a1.2)))
def Bb (sheets:(List aT)) (pieces:(List aS)) (set2:dJ) (l:(List bK)) (sheet:Int):Option (aV×Int×ByteArray×ByteArray×Int×Int×Int×Int):=
 (Gs sheets pieces set2 l).bind fun r4=>if (r4.2 != 0) then (some ((aV.mk (aT.mk o4 o4 0 0 0 0 [] []) []),r4.2,o4,o4,0,0,0,0)) else ((if (decide (sheet<0)) then (some true) else (some (decide (sheet ≥ (sheets.length:Int))))).bind fun j6=>if j6 then (some ((aV.mk (aT.mk o4 o4 0 0 0 0 [] []) []),5,o4,o4,0,0,0,0)) else ((idx sheets sheet).bind fun x9=>(De x9).bind fun a0=>(aM (uO pieces l sheet) (0,[])).bind fun a3=>match a3 with | .inl a1=>some ((aV.mk (aT.mk o4 o4 0 0 0 0 [] []) []),a1,o4,o4,0,0,0,0) | .inr a2=>some ((aV.mk a0 a2),0,a0.Name,a0.bH,a0.cX,a0.cU,a0.dQ,a0.cE)))
def Ky (e:bC) (a1:Int) (a0:(List Bool)):Option (Bool):=
 ((Mh e a1).bind fun r4=>if r4 then (if (decide (e.B<0)) then (some true) else ((idx a0 (aK (aQ e.A e.B) a1)).bind fun x5=>some x5)) else (some false)).bind fun j3=>some j3
def dB (s0:(List bC)) (a0:Int) (a1:(List Bool)):Int→Option (Int ⊕ (Int ⊕ Unit)):=fun a2 =>
 if (decide (a2<(s0.length:Int))) then ((idx s0 a2).bind fun a4=>(Ky a4 a0 a1).bind fun a3=>if a3 then (some (.inr (.inl a2))) else (some (.inl (aQ a2 1)))) else (some (.inr (.inr (()))))
def eY (s0:(List bC)) (a0:Int) (a1:(List Bool)):Option (Int):=
 (aM (dB s0 a0 a1) 0).bind fun a3=>match a3 with | .inl a2=>some a2 | .inr a4=>some (-1)
def dA (s0:(List bC)) (a0:Int) (a1:(List Bool)):Option (Bool):=
 (eY s0 a0 a1).bind fun r2=>some (decide (r2 ≥ 0))
def fL:Int×Int×(List Int)→Option (Int×Int×(List Int) ⊕ (List Int)):=fun a0 =>
 if (decide (a0.1<a0.2.1)) then ((idx a0.2.2 a0.2.1).bind fun a1=>(idx a0.2.2 a0.1).bind fun a2=>(idx a0.2.2 a0.1).bind fun a3=>(idx (m7 a0.2.2 (l4 a0.1) a1) a0.2.1).bind fun a4=>some (.inl ((aQ a0.1 1),(aK a0.2.1 1),(m7 (m7 a0.2.2 (l4 a0.1) a1) (l4 a0.2.1) a2)))) else (some (.inr a0.2.2))
def nJ (h0:(List Int)):Option ((List Int)):=
 (aM (fL) (0,(aK (h0.length:Int) 1),h0)).bind fun a0=>some a0
def Ak (a1:Bool×(List Int)×(List Bool)×Int):(Bool×(List Int)×(List Bool))→Option ((Bool×(List Int)×(List Bool)×Int) ⊕ (Bool×(List Int)×(List Bool))):=fun a0 =>
 some (.inl (a0.1,a0.2.1,a0.2.2,(aK a1.2.2.2 1)))
def Dz (all:(List bC)):(Bool×(List Int)×(List Bool)×Int)→Option ((Bool×(List Int)×(List Bool)×Int) ⊕ (Bool×(List Int)×(List Bool))):=fun a0 =>
 (if (decide (a0.2.2.2 ≥ 0)) then (some (!a0.1)) else (some false)).bind fun a1=>if a1 then (((idx a0.2.2.1 a0.2.2.2).bind fun a5=>if a5 then (some false) else ((dA all a0.2.2.2 a0.2.2.1).bind fun a4=>some a4)).bind fun a2=>if a2 then ((idx a0.2.2.1 a0.2.2.2).bind fun a6=>(app a0.2.1 [a0.2.2.2]).bind fun a3=>Ak a0 (true,a3,(m7 a0.2.2.1 (l4 a0.2.2.2) true))) else (Ak a0 (a0.1,a0.2.1,a0.2.2.1))) else (some (.inr (a0.1,a0.2.1,a0.2.2.1)))
def Ea (n:Int) (all:(List bC)):((List Int)×(List Bool))→Option (((List Int)×(List Bool)) ⊕ Unit ⊕ (List Int)):=fun a0 =>
 if (decide ((a0.1.length:Int)<n)) then ((aM (Dz all) (false,a0.1,a0.2,(aK n 1))).bind fun a1=>if (!a1.1) then (some (.inr (.inl ()))) else (some (.inl (a1.2.1,a1.2.2)))) else (some (.inr (.inr a0.1)))
def Ql (n:Int) (all:(List bC)):Option ((List Int)):=
 (mk n false).bind fun l2=>(aM (Ea n all) ([],l2)).bind fun a2=>match a2 with | .inl a3=>some [] | .inr a0=>(nJ a0).bind fun a1=>some a1
def Du (a4:Int×(List cF)) (a2:aS):Int×(List cF)→Option (Int×(List cF) ⊕ (List cF)):=fun a0 =>
 if (decide (a0.1<(a2.bQ.length:Int))) then ((idx a2.bQ a0.1).bind fun a1=>(app a0.2 [(cF.mk a4.1 a0.1 0 (Is.mk (aQ a1.X (uI a1.W 2)) (aQ a1.Y (uI a1.H 2))))]).bind fun a3=>some (.inl ((aQ a0.1 1),a3))) else (some (.inr a0.2))
def Dv (l:aV):Int×(List cF)→Option (Int×(List cF) ⊕ (List cF)):=fun a0 =>
 if (decide (a0.1<(l.aB.length:Int))) then ((idx l.aB a0.1).bind fun a1=>(aM (Du a0 a1) (0,a0.2)).bind fun a2=>some (.inl ((aQ a0.1 1),a2))) else (some (.inr a0.2))
def Hw (a1:Bool×Int×(List Bool)×Int×Int):(Bool×(List Bool)×Int×Int)→Option ((Bool×Int×(List Bool)×Int×Int) ⊕ ((List Bool)×Int×Int)):=fun a0 =>
 some (.inl (a0.1,(aQ a1.2.1 1),a0.2.1,a0.2.2.1,a0.2.2.2))
def Hx (a0:Bool×Int×(List Bool)×Int×Int):(Bool×Int×Int)→Option ((Bool×Int×(List Bool)×Int×Int) ⊕ ((List Bool)×Int×Int)):=fun a1 =>
 (idx a0.2.2.1 a0.2.1).bind fun a2=>Hw a0 (a1.1,(m7 a0.2.2.1 (l4 a0.2.1) true),a1.2.1,a1.2.2)
def Dw (r2:(List bC)×Int) (a4:Int):(Bool×Int×(List Bool)×Int×Int)→Option ((Bool×Int×(List Bool)×Int×Int) ⊕ ((List Bool)×Int×Int)):=fun a0 =>
 if (decide (a0.2.1<(r2.1.length:Int))) then ((idx r2.1 a0.2.1).bind fun a1=>((Mh a1 a4).bind fun a3=>if a3 then ((idx a0.2.2.1 a0.2.1).bind fun a5=>some (!a5)) else (some false)).bind fun a2=>if a2 then (if (!a0.1) then (Hx a0 (true,a1.Line.X1,a1.Line.Y1)) else (Hx a0 (a0.1,a0.2.2.2.1,a0.2.2.2.2))) else (Hw a0 (a0.1,a0.2.2.1,a0.2.2.2.1,a0.2.2.2.2))) else (some (.inr (a0.2.2.1,a0.2.2.2.1,a0.2.2.2.2)))
def Dt (r2:(List bC)×Int) (a0:Int×(List cF)×(List Bool)) (a2:Int):Int→Option ((Int×(List cF)×(List Bool)) ⊕ (List cF)):=fun a3 =>
 (aM (Dw r2 a2) (false,0,a0.2.2,0,0)).bind fun a1=>(app a0.2.1 [(cF.mk a2 (-1) a3 (Is.mk a1.2.1 a1.2.2))]).bind fun a4=>some (.inl ((aQ a0.1 1),a4,a1.1))
def Dx (l:aV) (r2:(List bC)×Int) (a3:(List Int)):(Int×(List cF)×(List Bool))→Option ((Int×(List cF)×(List Bool)) ⊕ (List cF)):=fun a0 =>
 if (decide (a0.1<(a3.length:Int))) then ((idx a3 a0.1).bind fun a1=>(idx l.aB a1).bind fun a4=>(vE a4).bind fun a2=>if a2 then (Dt r2 a0 a1 1) else (Dt r2 a0 a1 0)) else (some (.inr a0.2.1))
def Mf (l:aV):Option ((List cF)×Int):=
 (tB l).bind fun r2=>if (r2.2 != 0) then (some ([],r2.2)) else ((aM (Dv l) (0,[])).bind fun a3=>(Ql (l.aB.length:Int) r2.1).bind fun a1=>(Ck l (r2.1.length:Int)).bind fun a2=>(aM (Dx l r2 a1) (0,a3,a2.Cut)).bind fun a0=>some (a0,0))
def sZ:Option (Bool):=
 ((eA (dJ.mk 14400 0 false)).bind fun r4=>if r4 then ((eA (dJ.mk 0 (-1) false)).bind fun r5=>some (!r5)) else (some false)).bind fun j3=>some j3
def fJ (j2:nY) (a7:(List bK)×(List Int)×Int):Int→Option (Int ⊕ (Unit ⊕ Unit)):=fun a6 =>
 (if (decide (a6<(j2.Gb.length:Int))) then (some (a7.2.2==0)) else (some false)).bind fun a2=>if a2 then ((Bb j2.Gb j2.aB j2.Set a7.1 a6).bind fun a0=>(Mf (aV.mk (aT.mk a0.1.aT.Name a0.1.aT.bH a0.1.aT.cX a0.1.aT.cU a0.1.aT.dQ a0.1.aT.cE a0.1.aT.bO a0.1.aT.Used) a0.1.aB)).bind fun a1=>(if (a0.2.1 != 0) then (some true) else (if (a1.2 != 0) then (some true) else ((xK (aV.mk (aT.mk a0.1.aT.Name a0.1.aT.bH a0.1.aT.cX a0.1.aT.cU a0.1.aT.dQ a0.1.aT.cE a0.1.aT.bO a0.1.aT.Used) a0.1.aB) a1.1).bind fun a4=>if (a4 != 0) then (some true) else ((jI (aV.mk (aT.mk a0.1.aT.Name a0.1.aT.bH a0.1.aT.cX a0.1.aT.cU a0.1.aT.dQ a0.1.aT.cE a0.1.aT.bO a0.1.aT.Used) a0.1.aB) a1.1).bind fun a5=>some (!a5))))).bind fun a3=>if a3 then (some (.inr (.inl ()))) else (some (.inl (aQ a6 1)))) else (some (.inr (.inr (()))))
def tQ (l:aV) (items:(List cF)) (j2:nY):Option (Bool):=
 ((xK l items).bind fun r9=>if (r9==0) then ((jI l items).bind fun a4=>some (!a4)) else (some false)).bind fun j8=>if j8 then (some false) else ((Nx j2.Gb j2.aB j2.Set).bind fun a5=>(aM (fJ j2 a5) 0).bind fun a1=>match a1 with | .inl a2=>some false | .inr a3=>(sZ).bind fun a0=>some a0)
def wb (m n:Int):Bool:=decide (-m≤n)&&decide (n≤m)
theorem UF {m n:Int}:wb m n=true↔-m≤n∧n≤m:=by unfold wb;simp only [o8,decide_eq_true_eq]
theorem OK (n m:Int) (h : -1000000000≤m∧m≤1000000000):Il n m=some (wb m n):=by
 unfold Il wb
 rw [Re (by omega) (by omega)]
 by_cases h1 : -m≤n <;> simp [h1]
def vR (r:aF):Prop:=(-1048576≤r.X∧r.X≤1048576)∧(-1048576≤r.Y∧r.Y≤1048576)∧0<r.W∧0<r.H∧r.X+r.W≤1048576∧r.Y+r.H≤1048576
instance (r:aF):Decidable (vR r):=by unfold vR;infer_instance
theorem WS (x w:Int):tG x w=some (decide ((-1048576≤x∧x≤1048576)∧0<w∧x+w≤1048576)):=by
 unfold tG
 simp only [OK _ 1048576 (by omega),i9]
 by_cases h1:wb 1048576 x=true
 ·have h1':=UF.1 h1
  by_cases h2:0<w
  ·by_cases h3:w≤2097152
   ·rw [bA (by omega) (by omega)]
    simp [h1,h2,h3,h1']
   ·have:¬ x+w≤1048576:=by omega
    simp [h1,h2,h3,this]
  ·simp [h1,h2]
 ·have h1':¬ (-1048576≤x∧x≤1048576):=fun q=>h1 (UF.2 q)
  simp [h1];intro a b;exact absurd ⟨a,b⟩ h1'
theorem iT (r:aF):eQ r=some (decide (vR r)):=by
 unfold eQ
 simp only [WS,i9]
 by_cases h1:(-1048576≤r.X∧r.X≤1048576)∧0<r.W∧r.X+r.W≤1048576
 ·by_cases h2:(-1048576≤r.Y∧r.Y≤1048576)∧0<r.H∧r.Y+r.H≤1048576
  ·have:vR r:=by unfold vR;omega
   simp [h1,h2,this]
  ·have:¬ vR r:=by unfold vR;omega
   simp only [h1,h2,this,decide_true,decide_false,and_self];rfl
 ·have:¬ vR r:=by unfold vR;omega
  simp only [h1,this,decide_false];rfl
def pS (a b:aF):Prop:=vR a∧vR b∧b.X≤a.X∧a.X+a.W≤b.X+b.W∧b.Y≤a.Y∧a.Y+a.H≤b.Y+b.H
instance (a b:aF):Decidable (pS a b):=by unfold pS;infer_instance
theorem Nf (a b:aF):wS a b=some (decide (pS a b)):=by
 unfold wS pS
 simp only [iT,i9]
 by_cases h1:vR a
 ·by_cases h2:vR b
  ·have h1':=h1;have h2':=h2
   unfold vR at h1' h2'
   rw [bA (by omega) (by omega),bA (by omega) (by omega),bA (by omega) (by omega),bA (by omega) (by omega)]
   by_cases h3:b.X≤a.X <;> by_cases h4:a.X+a.W≤b.X+b.W <;> by_cases h5:b.Y≤a.Y <;> simp [h1,h2,h3,h4,h5]
  ·simp [h1,h2]
 ·simp [h1]
theorem yB {S R:Type} (n:Nat) (body:S→Option (S ⊕ R)) (st:Nat→S) (q:Nat→Bool) (no yes:R) {s0:S} (h0:st 0=s0) (step:∀ k:Nat,k<n→body (st k)=if q k then some (.inr yes) else some (.inl (st (k+1)))) (fin:body (st n)=some (.inr no)) :
  aM body s0=some (if (s9 n).any q then yes else no):=by
 have key:∀ (m k:Nat),k+m=n→(∀ j,j<k→q j=false)→aM body (st k)=some (if (s9 n).any q then yes else no):=by
  intro m
  induction m with
  | zero =>
    intro k h hb
    obtain rfl:k=n:=by omega
    have:(s9 k).any q=false:=by
     rw [s7];intro j hj;rw [hb j (F5.1 hj)];simp
    rw [dK fin,this];rfl
  | succ m ih =>
    intro k h hb
    have hs:=step k (by omega)
    by_cases hq:q k=true
    ·rw [if_pos hq] at hs
     have:(s9 n).any q=true:=E2.2 ⟨k,F5.2 (by omega),hq⟩
     rw [dK hs,this];rfl
    ·rw [if_neg hq] at hs
     rw [iY hs]
     refine ih (k+1) (by omega) fun j hj=>?_
     by_cases hjk:j=k
     ·subst hjk;simpa using hq
     ·exact hb j (by omega)
 rw [← h0]
 exact key n 0 (by omega) (fun j hj=>absurd hj (by omega))
theorem LU {α:Type} (l:List α) (q:α→Bool) (p:Nat→Bool) (h:∀ k x,l[k]?=some x→p k=q x):(s9 l.length).any p=l.any q:=by
 rw [Bool.eq_iff_iff,E2,E2]
 constructor
 ·rintro ⟨k,hk,hp⟩
  have hk':=F5.1 hk
  have hx:l[k]?=some l[k]:=by simp
  exact ⟨l[k],F9 hk',by rw [← h k _ hx];exact hp⟩
 ·rintro ⟨x,hx,hq⟩
  obtain ⟨k,hk⟩:=u6.1 hx
  exact ⟨k,F5.2 (m9.1 hk).1,by rw [h k _ hk];exact hq⟩
theorem gD {α S R:Type} (l:List α) (body:S→Option (S ⊕ R)) (st:Nat→S) (q:α→Bool) (no yes:R) {s0:S} (h0:st 0=s0) (step:∀ (k:Nat) (x:α),l[k]?=some x→body (st k)=if q x then some (.inr yes) else some (.inl (st (k+1)))) (fin:body (st l.length)=some (.inr no)) :
  aM body s0=some (if l.any q then yes else no):=by
 rw [yB l.length body st (fun k=>match l[k]? with | some x=>q x | none=>false) no yes h0 (fun k hk=>?_) fin]
 ·rw [LU l q _ (fun k x h=>by rw [h])]
 ·have hx:l[k]?=some l[k]:=by simp
  rw [step k _ hx,hx]
def ovR (a b:aF):Prop:=vR a∧vR b∧a.X<b.X+b.W∧b.X<a.X+a.W∧a.Y<b.Y+b.H∧b.Y<a.Y+a.H
instance (a b:aF):Decidable (ovR a b):=by unfold ovR;infer_instance
theorem Ko (a b:aF):uG a b=some (decide (ovR a b)):=by
 unfold uG ovR
 simp only [iT,i9]
 by_cases h1:vR a
 ·by_cases h2:vR b
  ·have h1':=h1;have h2':=h2
   unfold vR at h1' h2'
   rw [bA (by omega) (by omega),bA (by omega) (by omega),bA (by omega) (by omega),bA (by omega) (by omega)]
   by_cases h3:a.X<b.X+b.W <;> by_cases h4:b.X<a.X+a.W <;> by_cases h5:a.Y<b.Y+b.H <;> simp [h1,h2,h3,h4,h5]
  ·simp [h1,h2]
 ·simp [h1]
def Gf (a b:aF):Int:=if vR a∧vR b then max 0 (max (max (b.X-(a.X+a.W)) (a.X-(b.X+b.W))) (max (b.Y-(a.Y+a.H)) (a.Y-(b.Y+b.H)))) else 0
theorem Rb (a b:Int):imax a b=max a b:=by unfold imax;split <;> omega
theorem Rc (a b:Int):wJ a b=min a b:=by unfold wJ;split <;> omega
theorem Tq (a b:aF):xZ a b=some (Gf a b):=by
 unfold xZ Gf
 simp only [iT,i9]
 by_cases h1:vR a
 ·by_cases h2:vR b
  ·have h1':=h1;have h2':=h2
   unfold vR at h1' h2'
   rw [bP (a:=b.X) (by omega) (by omega),bP (a:=a.X) (by omega) (by omega),bP (a:=b.Y) (by omega) (by omega),bP (a:=a.Y) (by omega) (by omega),bP (by omega) (by omega),bP (by omega) (by omega),bP (by omega) (by omega),bP (by omega) (by omega)]
   simp only [h1,h2,Rb,decide_true,and_self,if_true,u5,i9,j9,if_false]
   congr 1
   omega
  ·simp [h1,h2]
 ·simp [h1]
end Go.SM
namespace Go.SM
open Go Go.VI Go.Cells
def inC (r:aF) (x y:Int):Bool:=(decide (r.X≤x)&&decide (x<r.X+r.W))&&(decide (r.Y≤y)&&decide (y<r.Y+r.H))
def cov (l:List aF) (x y:Int):Bool:=l.any fun r=>inC r x y
def BI (l:List aF):Prop:=∀ r ∈ l,vR r
theorem VT {r:aF} {x y:Int}:inC r x y=true↔r.X≤x∧x<r.X+r.W∧r.Y≤y∧y<r.Y+r.H:=by
 unfold inC;simp only [o8,decide_eq_true_eq];omega
theorem Qf {l:List aF} {x y:Int}:cov l x y=true↔∃ r ∈ l,inC r x y=true:=E2
def xsL (l:List aF):List Int:=l.flatMap fun r=>[r.X,r.X+r.W]
def ysL (l:List aF):List Int:=l.flatMap fun r=>[r.Y,r.Y+r.H]
def Sc (g l:List Int):Prop:=g.Pairwise (fun x y=>x<y)∧∀ x,x ∈ g↔x ∈ l
theorem Yl (a b:List aF):xsL (a++b)=xsL a++xsL b:=by simp [xsL]
theorem Yn (a b:List aF):ysL (a++b)=ysL a++ysL b:=by simp [ysL]
theorem Rz (l:List aF):(xsL l).length=2*l.length:=by
 induction l with
 | nil=>rfl
 | cons r l ih=>rw [show xsL (r::l)=[r.X,r.X+r.W]++xsL l from rfl,E5,ih];simp;omega
theorem Sa (l:List aF):(ysL l).length=2*l.length:=by
 induction l with
 | nil=>rfl
 | cons r l ih=>rw [show ysL (r::l)=[r.Y,r.Y+r.H]++ysL l from rfl,E5,ih];simp;omega
theorem JA {r:aF} (h:vR r):aQ r.X r.W=r.X+r.W∧aQ r.Y r.H=r.Y+r.H:=by
 unfold vR at h
 exact ⟨bA (by omega) (by omega),bA (by omega) (by omega)⟩
theorem pN {α:Type} {l:List α} {k:Nat} {x:α} (h:l[k]?=some x):l.take (k+1)=l.take k++[x]:=by rw [G5,h];rfl
theorem nF {α:Type} {l:List α} {k:Nat} {x d:α} (h:l[k]?=some x):l.getD k d=x:=by rw [List.getD_eq_getElem?_getD,h];rfl
def ps (g:Int→Int) (xs:List Int) (k:Nat):Int:=pL (fun i=>(xs.getD (i+1) 0-xs.getD i 0)*g (xs.getD i 0)) k
theorem JI {xs:List Int} (h:xs.Pairwise fun x y=>x<y) {i j:Nat} {x y:Int} (hij:i<j) (hx:xs[i]?=some x) (hy:xs[j]?=some y):x<y:=by
 obtain ⟨a,rfl⟩:=m9.1 hx
 obtain ⟨b,rfl⟩:=m9.1 hy
 exact List.pairwise_iff_getElem.1 h i j a b hij
structure JC (xs:List Int):Prop where
 asc:xs.Pairwise fun x y=>x<y
 within:∀ x ∈ xs,-1048576≤x∧x≤1048576
 len:xs.length≤1000
theorem Tk {β:Type} {f:Int→β} {C:Int→Prop} (hf:∀ x z,x≤z→(∀ c,C c→(c≤z↔c≤x))→f z=f x):∀ g:List Int,g.Pairwise (fun x y=>x<y)→(∀ c,C c→(∀ x,g.head?=some x→c<x)∨c ∈ g)→Kn f g
 | [],_,_=>trivial
 | [_],_,_=>trivial
 | x::y::t,h,hc=>by
   have hxy:=(J2.1 h).1 y F8
   have ht:=(J2.1 h).2
   refine ⟨hxy,fun z h1 h2=>hf x z h1 fun c hC=>?_,Tk hf (y::t) ht fun c hC=>?_⟩
   ·rcases hc c hC with q | q
    ·have:=q x rfl;omega
    ·rcases H4.1 q with rfl | q
     ·omega
     ·rcases H4.1 q with rfl | q
      ·omega
      ·have:=(J2.1 ht).1 c q;omega
   ·rcases hc c hC with q | q
    ·left;intro w hw;simp at hw;subst hw;have:=q x rfl;omega
    ·rcases H4.1 q with rfl | q
     ·left;intro w hw;simp at hw;subst hw;exact hxy
     ·exact .inr q
theorem Ym {l:List aF} {r:aF} (h:r ∈ l):r.X ∈ xsL l∧r.X+r.W ∈ xsL l:=by
 unfold xsL
 exact ⟨F3.2 ⟨r,h,by simp⟩,F3.2 ⟨r,h,by simp⟩⟩
theorem CZ {l:List aF} {r:aF} (h:r ∈ l):r.Y ∈ ysL l∧r.Y+r.H ∈ ysL l:=by
 unfold ysL
 exact ⟨F3.2 ⟨r,h,by simp⟩,F3.2 ⟨r,h,by simp⟩⟩
theorem Vw {α:Type} {l:List α} {f g:α→Bool} (h:∀ x ∈ l,f x=g x):l.any f=l.any g:=by
 induction l with
 | nil=>rfl
 | cons x l ih=>simp only [List.any_cons];rw [h x F8,ih fun y hy=>h y (F7 _ hy)]
structure Has (xs ys:List Int) (l:List aF):Prop where
 X:JC xs
 Y:JC ys
 x:∀ c ∈ xsL l,c ∈ xs
 y:∀ c ∈ ysL l,c ∈ ys
 v:BI l
section
variable {xs ys:List Int} {l:List aF} (h:Has xs ys l)
include h
theorem UR {x y:Int} (hc:cov l x y=true):(∃ a ∈ xs,a≤x)∧(∃ a ∈ xs,x<a)∧(∃ a ∈ ys,a≤y)∧(∃ a ∈ ys,y<a):=by
 obtain ⟨r,hr,hb⟩:=E2.1 hc
 rw [VT] at hb
 exact ⟨⟨_,h.x _ (Ym hr).1,hb.1⟩,⟨_,h.x _ (Ym hr).2,hb.2.1⟩,⟨_,h.y _ (CZ hr).1,hb.2.2.1⟩,⟨_,h.y _ (CZ hr).2,hb.2.2.2⟩⟩
omit h in
theorem ends {x0:Int} {t:List Int} (ha:(x0::t).Pairwise fun x y=>x<y):∀ a ∈ x0::t,x0≤a∧a≤(x0::t).getLast (by simp):=fun a m=>by
 constructor
 ·rcases H4.1 m with rfl | m
  ·exact Int.le_refl _
  ·exact Int.le_of_lt ((J2.1 ha).1 a m)
 ·have e:x0::t=(x0::t).dropLast++[(x0::t).getLast (by simp)]:=(List.dropLast_concat_getLast (by simp)).symm
  rw [e,List.pairwise_append] at ha
  rw [e] at m
  rcases q9.1 m with m | m
  ·exact Int.le_of_lt (ha.2.2 a m _ (by simp))
  ·simp at m;omega
end
theorem CK {l:List aF} (hv:BI l):(∀ c ∈ xsL l,-1048576≤c∧c≤1048576)∧∀ c ∈ ysL l,-1048576≤c∧c≤1048576:=by
 constructor
 ·intro c hc
  obtain ⟨r,hr,hm⟩:=F3.1 hc
  have:=hv r hr
  unfold vR at this
  simp at hm
  omega
 ·intro c hc
  obtain ⟨r,hr,hm⟩:=F3.1 hc
  have:=hv r hr
  unfold vR at this
  simp at hm
  omega
theorem AR {α:Type} [BEq α] [LawfulBEq α]:∀ {g l:List α},g.Nodup→(∀ x ∈ g,x ∈ l)→g.length≤l.length
 | [],_,_,_=>by simp
 | x::g,l,hn,h=>by
   rw [List.nodup_cons] at hn
   have:=AR (g:=g) (l:=l.erase x) hn.2 fun y hy=>(List.mem_erase_of_ne (fun e=>hn.1 (by rw [← e];exact hy))).2 (h y (F7 _ hy))
   rw [List.length_erase_of_mem (h x F8)] at this
   have hp:=List.length_pos_of_mem (h x F8)
   simp only [H5];omega
theorem uW {g l:List Int} (hg:g.Pairwise fun x y=>x<y) (h:∀ x ∈ g,x ∈ l):g.length≤l.length:=by
 have hn:g.Nodup:=hg.imp fun q=>by omega
 exact AR hn h
theorem QN {xs ys:List Int} {lines l:List aF} (hv:BI lines) (hl:lines.length≤400) (hx:Sc xs (xsL lines)) (hy:Sc ys (ysL lines)) (hs:∀ r ∈ l,r ∈ lines):Has xs ys l:=by
 have w:=CK hv
 have lx:=uW hx.1 fun x m=>(hx.2 x).1 m
 have ly:=uW hy.1 fun x m=>(hy.2 x).1 m
 rw [Rz] at lx
 rw [Sa] at ly
 refine ⟨⟨hx.1,fun x m=>w.1 x ((hx.2 x).1 m),by omega⟩,⟨hy.1,fun x m=>w.2 x ((hy.2 x).1 m),by omega⟩,fun c hc=>?_,fun c hc=>?_,fun r hr=>hv r (hs r hr)⟩
 ·obtain ⟨r,hr,hm⟩:=F3.1 hc
  exact (hx.2 c).2 (F3.2 ⟨r,hs r hr,hm⟩)
 ·obtain ⟨r,hr,hm⟩:=F3.1 hc
  exact (hy.2 c).2 (F3.2 ⟨r,hs r hr,hm⟩)
def nM (R:List (List aF)) (x y:Int):Option Nat:=R.findIdx? fun l=>cov l x y
def Lw (o:Option Nat):Option Int:=o.map fun i=>(i:Int)
def iA (R:List (List aF)) (x y:Int):Option Int:=Lw (nM R x y)
theorem Vg {R:List (List aF)} {x y:Int} {i:Nat} (h:nM R x y=some i):i<R.length:=by
 unfold nM at h
 exact (G7.1 h).1
theorem Xh {R:List (List aF)} {x y x' y':Int} (h:∀ l ∈ R,cov l x y=cov l x' y'):nM R x y=nM R x' y':=by
 unfold nM
 have:∀ R:List (List aF),(∀ l ∈ R,cov l x y=cov l x' y')→R.findIdx? (fun l=>cov l x y)=R.findIdx? fun l=>cov l x' y':=by
  intro R
  induction R with
  | nil=>intro _;rfl
  | cons l R ih =>
    intro h
    rw [O7,O7,h l F8,ih fun k hk=>h k (F7 _ hk)]
 exact this R h
theorem Su {α R:Type} (l:List α) (body:Int→Option (Int ⊕ R)) (q:α→Bool) (yes:Nat→R) (no:R) (step:∀ (k:Nat) (x:α),l[k]?=some x→body k=if q x then some (.inr (yes k)) else some (.inl ((k+1:Nat):Int))) (fin:body (l.length:Int)=some (.inr no)) :
  aM body 0=some (match l.findIdx? q with | some i=>yes i | none=>no):=by
 have key:∀ (m k:Nat),k+m=l.length→aM body (k:Int)=some (match (l.drop k).findIdx? q with | some i=>yes (k+i) | none=>no):=by
  intro m
  induction m with
  | zero =>
    intro k h;obtain rfl:k=l.length:=by omega
    rw [List.drop_length,dK fin];rfl
  | succ m ih =>
    intro k h
    have hk:k<l.length:=by omega
    have hx:l[k]?=some l[k]:=by simp
    have hs:=step k _ hx
    rw [K7 hk,O7]
    cases hq:q l[k] with
    | true=>rw [hq] at hs;rw [dK hs];simp
    | false =>
      rw [hq] at hs
      rw [iY hs,ih (k+1) (by omega)]
      cases (l.drop (k+1)).findIdx? q with
      | none=>rfl
      | some i=>simp;congr 1;omega
 have:=key l.length 0 (by omega)
 simpa using this
structure Lay (R:List (List aF)) (xs ys:List Int):Prop where
 x:Sc xs (xsL R.flatten)
 y:Sc ys (ysL R.flatten)
 v:BI R.flatten
 n:R.flatten.length≤400
 m:R.length≤900
section
variable {R:List (List aF)} {xs ys:List Int} (h:Lay R xs ys)
include h
theorem Lay.has {l:List aF} (hl:l ∈ R):Has xs ys l:=QN h.v h.n h.x h.y fun r hr=>M5.2 ⟨l,hl,hr⟩
theorem Lay.ZY:Has xs ys R.flatten:=QN h.v h.n h.x h.y fun r hr=>hr
theorem Lay.X:JC xs:=h.ZY.X
theorem Lay.Y:JC ys:=h.ZY.Y
theorem RA {x y:Int} {i:Nat} (hc:nM R x y=some i):(∃ a ∈ xs,a≤x)∧(∃ a ∈ xs,x<a)∧(∃ a ∈ ys,a≤y)∧(∃ a ∈ ys,y<a):=by
 unfold nM at hc
 obtain ⟨hi,h1,_⟩:=G7.1 hc
 exact UR (h.has (F9 hi)) h1
theorem KI:Kn (fun x=>nM R x) xs:=Tk (C:=fun c=>c ∈ xsL R.flatten) (fun x z hxz hC=>funext fun y=>Xh fun l hl=>Vw fun r hr=>by
 have hrm:r ∈ R.flatten:=M5.2 ⟨l,hl,hr⟩
 have h1:=hC _ (Ym hrm).1
 have h2:=hC _ (Ym hrm).2
 show ((decide (r.X≤z)&&decide (z<r.X+r.W))&&_)=((decide (r.X≤x)&&decide (x<r.X+r.W))&&_)
 rw [show decide (r.X≤z)=decide (r.X≤x) from by simp only [h1],show decide (z<r.X+r.W)=decide (x<r.X+r.W) from by
  have:(z<r.X+r.W)=(x<r.X+r.W):=by apply propext;omega
  simp only [this]]) xs h.X.asc fun c hc=>.inr ((h.x.2 c).2 hc)
theorem VU:Kn (fun y=>fun x=>nM R x y) ys:=Tk (C:=fun c=>c ∈ ysL R.flatten) (fun y z hyz hC=>funext fun x=>Xh fun l hl=>Vw fun r hr=>by
 have hrm:r ∈ R.flatten:=M5.2 ⟨l,hl,hr⟩
 have h1:=hC _ (CZ hrm).1
 have h2:=hC _ (CZ hrm).2
 show (_&&(decide (r.Y≤z)&&decide (z<r.Y+r.H)))=(_&&(decide (r.Y≤y)&&decide (y<r.Y+r.H)))
 rw [show decide (r.Y≤z)=decide (r.Y≤y) from by simp only [h1],show decide (z<r.Y+r.H)=decide (y<r.Y+r.H) from by
  have:(z<r.Y+r.H)=(y<r.Y+r.H):=by apply propext;omega
  simp only [this]]) ys h.Y.asc fun c hc=>.inr ((h.y.2 c).2 hc)
end
def num:Option Int→Int
 | none=>0
 | some i=>i+1
def cod (a b:Option Int):Int:=if a=b then 0 else num a*1000+num b
theorem CN {a b:Option Int} (ha:∀ i,a=some i→0≤i) (hb:∀ i,b=some i→0≤i) (h:num a=num b):a=b:=by
 cases a with
 | none=>cases b with
   | none=>rfl
   | some j=>have:=hb j rfl;simp only [num] at h;omega
 | some i=>cases b with
   | none=>have:=ha i rfl;simp only [num] at h;omega
   | some j=>simp only [num] at h;rw [show i=j by omega]
def SmO (a:Option Int):Prop:=∀ i,a=some i→0≤i∧i<900
theorem Sy {a:Option Int} (h:SmO a):0≤num a∧num a≤900:=by
 cases a with
 | none=>simp [num]
 | some i=>have:=h i rfl;simp only [num];omega
theorem Jj {a b:Option Int} (ha:SmO a) (hb:SmO b):cod a b=0↔a=b:=by
 unfold cod
 constructor
 ·intro h
  split at h
  ·assumption
  ·have:=Sy ha;have:=Sy hb
   exact CN (fun i e=>(ha i e).1) (fun i e=>(hb i e).1) (by omega)
 ·intro h;rw [if_pos h]
theorem JP {a b a' b':Option Int} (ha:SmO a) (hb:SmO b) (ha':SmO a') (hb':SmO b') (h0:cod a b≠0) (h:cod a b=cod a' b'):a=a'∧b=b':=by
 have h0':cod a' b'≠0:=by rw [← h];exact h0
 unfold cod at h h0 h0'
 split at h
 ·rename_i e;rw [if_pos e] at h0;exact absurd rfl h0
 ·split at h
  ·rename_i e;rw [if_pos e] at h0';exact absurd rfl h0'
  ·have:=Sy ha;have:=Sy hb;have:=Sy ha';have:=Sy hb'
   exact ⟨CN (fun i e=>(ha i e).1) (fun i e=>(ha' i e).1) (by omega),CN (fun i e=>(hb i e).1) (fun i e=>(hb' i e).1) (by omega)⟩
theorem lG {R:List (List aF)} (hm:R.length≤900) (x y:Int):SmO (iA R x y):=fun i h=>by
 unfold iA Lw at h
 cases e:nM R x y with
 | none=>rw [e] at h;cases h
 | some j=>rw [e] at h;have:=Vg e;simp at h;omega
def hS (R:List (List aF)) (y:Int) (z:Int):Int:=cod (iA R z y) (iA R z (y-1))
def vS (R:List (List aF)) (x:Int) (z:Int):Int:=cod (iA R x z) (iA R (x-1) z)
def xE (s:Int→Int):List (Int×Int):=open Classical in if h:∃ L,uF s L then Classical.choose h else []
theorem Yd {s:Int→Int} {L:List (Int×Int)} (h:uF s L):xE s=L:=by
 unfold xE
 have hx:∃ L,uF s L:=⟨L,h⟩
 rw [dif_pos hx]
 exact FN (Classical.choose_spec hx) h
theorem Oe {β γ:Type} (f:β→γ) {g:Int→β}:∀ {l:List Int},Kn g l→Kn (fun x=>f (g x)) l
 | [],_=>trivial
 | [_],_=>trivial
 | _::_::_,h=>⟨h.1,fun z a b=>congrArg f (h.2.1 z a b),Oe f h.2.2⟩
theorem Lb {β:Type} {f:Int→β}:∀ {xs:List Int},Kn f xs→∀ {k:Nat} {x x':Int},xs[k]?=some x→xs[k+1]?=some x'→x<x'∧∀ z,x≤z→z<x'→f z=f x
 | [],_,k,x,x',h,_=>by simp at h
 | [_],_,k,x,x',_,h=>by simp at h
 | a::b::t,hs,0,x,x',h,h'=>by
   simp at h h'
   subst h h'
   exact ⟨hs.1,hs.2.1⟩
 | a::b::t,hs,k+1,x,x',h,h'=>by
   simp only [List.getElem?_cons_succ] at h h'
   exact Lb hs.2.2 h h'
structure Al (A B:Int→Option Int) (xs:List Int):Prop where
 st:Kn (fun z=>(A z,B z)) xs
 len:xs.length≤1000
 sa:∀ z,SmO (A z)
 sb:∀ z,SmO (B z)
 low:∀ x0,xs[0]?=some x0→∀ z,z<x0→A z=none∧B z=none
 high:∀ x1,xs[xs.length-1]?=some x1→∀ z,x1≤z→A z=none∧B z=none
 emp:xs=[]→∀ z,A z=none∧B z=none
theorem Zr {g:List Int} {a b:Int} (hg:g.Pairwise fun x y=>x<y) (ha:g[0]?=some a) (hb:b ∈ g):a≤b:=by
 obtain ⟨i,hi⟩:=u6.1 hb
 rcases Nat.eq_zero_or_pos i with q | q
 ·subst q;rw [ha] at hi;injection hi with hi;omega
 ·have:=JI hg q ha hi;omega
theorem DJ {g:List Int} {a b:Int} (hg:g.Pairwise fun x y=>x<y) (ha:g[g.length-1]?=some a) (hb:b ∈ g):b≤a:=by
 obtain ⟨i,hi⟩:=u6.1 hb
 have:=aX hi
 by_cases q:i=g.length-1
 ·subst q;rw [ha] at hi;injection hi with hi;omega
 ·have:=JI hg (show i<g.length-1 by omega) hi ha;omega
section
variable {R:List (List aF)} {xs ys:List Int} (h:Lay R xs ys)
include h
theorem CJ:(∀ x0,xs[0]?=some x0→∀ x y,x<x0→nM R x y=none)∧(∀ x1,xs[xs.length-1]?=some x1→∀ x y,x1≤x→nM R x y=none)∧(xs=[]→∀ x y,nM R x y=none) ∧
  (∀ y0,ys[0]?=some y0→∀ x y,y<y0→nM R x y=none)∧(∀ y1,ys[ys.length-1]?=some y1→∀ x y,y1≤y→nM R x y=none)∧(ys=[]→∀ x y,nM R x y=none):=by
 have no:∀ {x y:Int},(∀ i,nM R x y≠some i)→nM R x y=none:=fun {x y} hn=>by
  cases e:nM R x y with
  | none=>rfl
  | some i=>exact absurd e (hn i)
 refine ⟨fun x0 h0 x y hx=>no fun i e=>?_,fun x0 h0 x y hx=>no fun i e=>?_,fun h0 x y=>no fun i e=>?_,fun x0 h0 x y hx=>no fun i e=>?_,fun x0 h0 x y hx=>no fun i e=>?_,fun h0 x y=>no fun i e=>?_⟩ <;> obtain ⟨⟨a,ha,a1⟩,⟨b,hb,b1⟩,⟨c,hc,c1⟩,⟨d,hd,d1⟩⟩:=RA h e
 ·have:=Zr h.X.asc h0 ha;omega
 ·have:=DJ h.X.asc h0 hb;omega
 ·rw [h0] at ha;cases ha
 ·have:=Zr h.Y.asc h0 hc;omega
 ·have:=DJ h.Y.asc h0 hd;omega
 ·rw [h0] at hc;cases hc
omit h in
theorem rP {x y:Int} (e:nM R x y=none):iA R x y=none:=by unfold iA Lw;rw [e];rfl
theorem C8 (y:Int):Al (fun z=>iA R z y) (fun z=>iA R z (y-1)) xs:=by
 obtain ⟨o1,o2,o3,_⟩:=CJ h
 exact ⟨Oe (fun f:Int→Option Nat=>(Lw (f y),Lw (f (y-1)))) (g:=fun x=>nM R x) (KI h),h.X.len,fun z=>lG h.m _ _,fun z=>lG h.m _ _,
  fun x0 h0 z hz=>⟨rP (o1 x0 h0 z _ hz),rP (o1 x0 h0 z _ hz)⟩,fun x0 h0 z hz=>⟨rP (o2 x0 h0 z _ hz),rP (o2 x0 h0 z _ hz)⟩,fun h0 z=>⟨rP (o3 h0 z _),rP (o3 h0 z _)⟩⟩
theorem YE (x:Int):Al (fun z=>iA R x z) (fun z=>iA R (x-1) z) ys:=by
 obtain ⟨_,_,_,o1,o2,o3⟩:=CJ h
 exact ⟨Oe (fun f:Int→Option Nat=>(Lw (f x),Lw (f (x-1)))) (g:=fun y=>fun x=>nM R x y) (VU h),h.Y.len,fun z=>lG h.m _ _,fun z=>lG h.m _ _,
  fun x0 h0 z hz=>⟨rP (o1 x0 h0 _ z hz),rP (o1 x0 h0 _ z hz)⟩,fun x0 h0 z hz=>⟨rP (o2 x0 h0 _ z hz),rP (o2 x0 h0 _ z hz)⟩,fun h0 z=>⟨rP (o3 h0 _ z),rP (o3 h0 _ z)⟩⟩
end
section
variable {A B:Int→Option Int} {xs:List Int} (h:Al A B xs)
include h
theorem Al.s0 (z:Int):cod (A z) (B z)=0↔A z=B z:=Jj (h.sa z) (h.sb z)
theorem Al.inj {z w:Int} (h0:cod (A z) (B z)≠0) (e:cod (A z) (B z)=cod (A w) (B w)):A z=A w∧B z=B w:=JP (h.sa z) (h.sb z) (h.sa w) (h.sb w) h0 e
theorem Al.lo:∃ lo,∀ z,z<lo→cod (A z) (B z)=0:=by
 have e0:∀ z,A z=none∧B z=none→cod (A z) (B z)=0:=fun z q=>by rw [q.1,q.2];rfl
 cases hx:xs[0]? with
 | none=>exact ⟨0,fun z _=>e0 z (h.emp (by simpa using hx) z)⟩
 | some x0=>exact ⟨x0,fun z hz=>e0 z (h.low x0 hx z hz)⟩
theorem Al.before {k:Nat} {x e:Int} (hx:xs[k]?=some x) (he:xs[k+1]?=some e):A (e-1)=A x∧B (e-1)=B x:=by
 obtain ⟨h1,h2⟩:=Lb h.st hx he
 have:=h2 (e-1) (by omega) (by omega)
 injection this with q1 q2
 exact ⟨q1,q2⟩
end
end Go.SM
namespace Go.SM
open Go Go.VI
set_option maxRecDepth 10000
theorem IQ (h:List Int):eO h=uA (brC bN) h:=by kernel_rfl
theorem Oo (h:List Int):nI h=Pq (fun x y=>x==y) 0 h:=by kernel_rfl
def ltI (x y:Int):Bool:=decide (x<y)
theorem LL:Sd ltI where
 asymm x y h:=by unfold ltI at *;simp at *;omega
 neg x y z h:=by unfold ltI at *;simp at *;omega
theorem ZW (x y:Int):bN x y=some (if x<y then -1 else if y<x then 1 else 0):=by
 unfold bN sD
 have e:∀ z:Int,(z != z)=false:=fun z=>by simp
 simp only [e,i9,j9,if_false]
 by_cases h1:x<y
 ·simp [h1]
 ·by_cases h2:x>y
  ·have:y<x:=h2
   simp [h1,h2,this]
  ·have:¬ y<x:=h2
   simp [h1,h2,this]
theorem brI (β:Type) (x y:Int) (k:Bool→Option β):brC bN β x y k=k (ltI x y):=by
 unfold brC ltI
 rw [ZW,i9]
 congr 1
 by_cases h1:x<y
 ·simp [h1]
 ·by_cases h2:y<x <;> simp [h1,h2]
theorem IU {l:List Int} (hl:l.length≤1073741824):∃ r,eO l=some r∧r.Perm l∧r.Pairwise fun x y=>ltI y x=false:=by
 rw [IQ]
 exact Nc (P:=fun _=>True) (d:=0) (fun β x y k _ _=>brI β x y k) LL ⟨by omega,fun _ _ _=>trivial⟩
theorem TH {l:List Int} (hl:l.length≤1073741824):∃ r,Qn l=some r∧r.Pairwise (fun x y=>x<y)∧∀ x,x ∈ r↔x ∈ l:=by
 obtain ⟨r,h1,h2,h3⟩:=IU hl
 have hr:r.length=l.length:=h2.length_eq
 obtain ⟨q,q1,q2,q3⟩:=Wf LL (fun x y a b=>by unfold ltI at a b;simp at a b;omega) (eqb:=fun x y=>x==y) (fun x y=>by simp) (0:Int) (l:=r) (by omega) h3
 refine ⟨q, ?_,q2.imp (fun h=>by unfold ltI at h;simpa using h),fun x=>by rw [q3,h2.mem_iff]⟩
 unfold Qn
 simp only [i9,h1,Oo,q1]
end Go.SM
namespace Go.SM
open Go Go.VI Go.Cells
def DG (a1:Int×(Option Int)×(Option Int)×Int×(List bC)):(Int×(Option Int)×(Option Int)×(List bC))→Option ((Int×(Option Int)×(Option Int)×Int×(List bC)) ⊕ (List bC)):=fun a0 =>
 some (.inl (a0.1,a0.2.1,a0.2.2.1,(aQ a1.2.2.2.1 1),a0.2.2.2))
def JG (a2:Int×(Option Int)×(Option Int)×Int×(List bC)) (a3:Int) (a0:(Option Int)×(Option Int)):(List bC)→Option ((Int×(Option Int)×(Option Int)×Int×(List bC)) ⊕ (List bC)):=fun a1 =>
 DG a2 (a3,a0.1,a0.2,a1)
def JH (line:Int→Int→Option eE) (a0:Int×(Option Int)×(Option Int)×Int×(List bC)) (a3:Int):((Option Int)×(Option Int))→Option ((Int×(Option Int)×(Option Int)×Int×(List bC)) ⊕ (List bC)):=fun a2 =>
 (if (a2.1==a0.2.1) then (some (a2.2==a0.2.2.1)) else (some false)).bind fun a6=>if a6 then (DG a0 (a0.1,a0.2.1,a0.2.2.1,a0.2.2.2.2)) else ((if (a0.2.1==a0.2.2.1) then (some false) else ((match a0.2.1 with | some n=>fT n | none=>fS (oM.mk )).bind fun a4=>if a4 then (some true) else ((match a0.2.2.1 with | some n=>fT n | none=>fS (oM.mk )).bind fun a5=>some a5))).bind fun a7=>if a7 then ((line a0.1 a3).bind fun a9=>(wO a0.2.1).bind fun b0=>(wO a0.2.2.1).bind fun b1=>(Jo a9 b0 b1).bind fun a1=>(app a0.2.2.2.2 [(bC.mk (eE.mk a1.1.Line.X1 a1.1.Line.Y1 a1.1.Line.X2 a1.1.Line.Y2) a1.1.A a1.1.B)]).bind fun a8=>JG a0 a3 a2 a8) else (JG a0 a3 a2 a0.2.2.2.2))
def OQ (ends:(List Int)) (side:Int→Option (Option Int×Option Int)) (line:Int→Int→Option eE):(Int×(Option Int)×(Option Int)×Int×(List bC))→Option ((Int×(Option Int)×(Option Int)×Int×(List bC)) ⊕ (List bC)):=fun a0 =>
 if (decide (a0.2.2.2.1<(ends.length:Int))) then ((idx ends a0.2.2.2.1).bind fun a1=>if (decide ((aQ a0.2.2.2.1 1)<(ends.length:Int))) then ((side a1).bind fun a2=>JH line a0 a1 (a2.1,a2.2)) else (JH line a0 a1 (none,none))) else (some (.inr a0.2.2.2.2))
def al (ends:(List Int)) (side:Int→Option (Option Int×Option Int)) (line:Int→Int→Option eE):Option ((List bC)):=
 (aM (OQ ends side line) (0,none,none,0,[])).bind fun a0=>some a0
theorem LR (ends:List Int) (n m:ByteArray) (g r w t:Int) (c u:List aF) (p:List aS) (y z:Int):fQ ends n m g r w t c u p y z=al ends (fun i=>Ib i n m g r w t c u p y) (fun a b=>Ic a b z):=rfl
theorem LS (ends:List Int) (n m:ByteArray) (g r w t:Int) (c u:List aF) (p:List aS) (y z:Int):fR ends n m g r w t c u p y z=al ends (fun i=>Ie i n m g r w t c u p y) (fun a b=>Ig a b z):=rfl
def mkE (s:eE) (a b:Option Int):bC:=
 let p:Int:=match a with | some i=>i | none=>-1
 let q:Int:=match b with | some i=>i | none=>-1
 if p<0∨(q ≥ 0∧q<p) then ⟨s,q,p⟩ else ⟨s,p,q⟩
theorem NC (a:Option Int):wO a=some (match a with | some i=>i | none=>-1):=by cases a <;> rfl
theorem UY (s:eE) (a b:Option Int):∃ u v,Jo s (match a with | some i=>i | none=>-1) (match b with | some i=>i | none=>-1)=some (mkE s a b,u,v):=by
 unfold Jo mkE Ia
 generalize (match a with | some i=>i | none=>(-1:Int))=p
 generalize (match b with | some i=>i | none=>(-1:Int))=q
 simp only
 by_cases h1:p<0
 ·simp [h1]
 ·by_cases h2:q ≥ 0
  ·by_cases h3:q<p
   ·simp [h1,h2,h3]
   ·simp [h1,h2,h3]
  ·simp [h1,h2]
theorem FW (a:Option Int):(match a with | some n=>fT n | none=>fS oM.mk)=some a.isSome:=by cases a <;> rfl
theorem DH {line:Int→Int→Option eE} {ln:Int→Int→eE} (hline:∀ a b,line a b=some (ln a b)) {begin_:Int} {one two:Option Int} {k:Nat} (hk:k≤1000) {out:List bC} (ho:out.length≤1000000) (x:Int) (a b:Option Int) :
  JH line (begin_,one,two,(k:Int),out) x (a,b)=some (.inl (if a=one∧b=two then (begin_,one,two,((k+1:Nat):Int),out) else (x,a,b,((k+1:Nat):Int),if one=two then out else out++[mkE (ln begin_ x) one two]))):=by
 unfold JH
 simp only
 by_cases h:a=one∧b=two
 ·obtain ⟨rfl,rfl⟩:=h
  simp only [beq_self_eq_true,if_true,i9,DG,and_self,bG k (by omega)]
 ·have e:(if (a==one)=true then some (b==two) else some false)=some false:=by
   by_cases h1:a=one
   ·have h2:¬ b=two:=fun q=>h ⟨h1,q⟩
    simp [h1,h2]
   ·simp [h1]
  rw [e,if_neg h]
  simp only [i9,j9,if_false]
  by_cases h3:one=two
  ·have:(one==two)=true:=by simp [h3]
   rw [this,if_pos h3]
   simp only [if_true,i9,j9,if_false,JG,DG,bG k (by omega)]
  ·have h4:(one==two)=false:=by simp [h3]
   have h5:(one.isSome || two.isSome)=true:=by
    cases one with
    | some _=>rfl
    | none=>cases two with
      | some _=>rfl
      | none=>exact absurd rfl h3
   obtain ⟨u,v,e2⟩:=UY (ln begin_ x) one two
   have e3:(if one.isSome=true then some true else some two.isSome)=some true:=by
    cases hh:one.isSome with
    | true=>rfl
    | false=>rw [hh,Bool.false_or] at h5;simp [h5]
   have e4:(match one with | some n=>fT n | none=>fS oM.mk).bind (fun b478=>if b478=true then some true else (match two with | some n=>fT n | none=>fS oM.mk).bind fun b479=>some b479)=some true:=by
    rw [FW,FW]
    exact e3
   rw [h4]
   simp only [j9,if_false]
   rw [e4]
   simp only [i9,if_true,hline,NC,e2,if_neg h3]
   rw [iF (by simp [LIM];omega)]
   simp only [i9,JG,DG,bG k (by omega)]
theorem OT {A B:Int→Option Int} {xs:List Int} (h:Al A B xs) {side:Int→Option (Option Int×Option Int)} (hside:∀ (i:Nat) x,xs[i]?=some x→i+1<xs.length→side x=some (A x,B x)) {line:Int→Int→Option eE} {ln:Int→Int→eE} (hline:∀ a b,line a b=some (ln a b)) :
  ∃ L,al xs side line=some (L.map fun p=>mkE (ln p.1 p.2) (A p.1) (B p.1))∧uF (fun z=>cod (A z) (B z)) L∧L.length≤xs.length:=by
 obtain ⟨s,hs⟩:∃ s:Int→Int,s=fun z=>cod (A z) (B z):=⟨_,rfl⟩
 have hlen:=h.len
 have s0:∀ z,s z=0↔A z=B z:=fun z=>by rw [hs];exact h.s0 z
 have sinj:∀ z w,s z≠0→s z=s w→A z=A w∧B z=B w:=fun z w q1 q2=>by subst hs;exact h.inj q1 q2
 obtain ⟨lo,hlo⟩:=h.lo
 replace hlo:∀ z,z<lo→s z=0:=fun z hz=>by rw [hs];exact hlo z hz
 have hst:Kn s xs:=by rw [hs];exact Oe (fun p:Option Int×Option Int=>cod p.1 p.2) (g:=fun z=>(A z,B z)) h.st
 rw [← hs]
 obtain ⟨mk,hmk⟩:∃ mk:Int×Int→bC,mk=fun p=>mkE (ln p.1 p.2) (A p.1) (B p.1):=⟨_,rfl⟩
 rw [← hmk]
 obtain ⟨r,q1,q2⟩:=mH (fun t:Int×Option Int×Option Int×Int×List bC=>((xs.length:Int)-t.2.2.2.1).toNat)
  (fun t:Int×Option Int×Option Int×Int×List bC=>∃ k:Nat,t.2.2.2.1=k∧k≤xs.length∧(k=xs.length→∃ L,t.2.2.2.2=L.map mk∧uF s L∧L.length≤xs.length) ∧
   (∀ e,xs[k]?=some e→∃ L,uF (cut s e) L∧L.length≤k∧t.2.1=A (e-1)∧t.2.2.1=B (e-1)∧(t.2.1=t.2.2.1→t.2.2.2.2=L.map mk)∧(t.2.1≠t.2.2.1→∃ L0,L=L0++[(t.1,e)]∧t.2.2.2.2=L0.map mk)))
  (fun r=>∃ L,r=L.map mk∧uF s L∧L.length≤xs.length) (OQ xs side line) (by
   rintro ⟨bg,one,two,k',out⟩ ⟨k,hk',hk,hend,hI⟩
   simp only at hk' hend hI ⊢
   subst hk'
   unfold OQ
   by_cases hkn:k<xs.length
   case neg =>
    right
    have hd:¬ (k:Int)<(xs.length:Int):=by omega
    exact ⟨out,by simp only [hd,decide_false,j9,if_false],hend (by omega)⟩
   left
   have hd:(k:Int)<(xs.length:Int):=by omega
   obtain ⟨e,he⟩:∃ e,xs[k]?=some e:=⟨_,l8 hkn⟩
   obtain ⟨L,hL,hLk,h1,h2,hzero,hopen⟩:=hI e he
   have hout:out.length≤1000000:=by
    rcases L7 (one=two) with q | q
    ·rw [hzero q,p9];omega
    ·obtain ⟨L0,e1,e2⟩:=hopen q
     rw [e2,p9]
     have:=congrArg List.length e1
     simp at this;omega
   have sone:s (e-1)=0↔one=two:=by rw [s0,h1,h2]
   -- what is closed
   have closed:one≠two→out++[mkE (ln bg e) one two]=L.map mk:=fun q=>by
    obtain ⟨L0,e1,e2⟩:=hopen q
    have hr:=xQ.1 ((hL.2 bg e).1 (by rw [e1];simp))
    have hne:s (e-1)≠0:=fun z=>q (sone.1 z)
    have hb:=sinj (e-1) bg hne (hr.2.2.2.1 (e-1) (by omega) (by omega))
    rw [e1,e2,H3,hmk]
    simp only [List.map_cons,List.map_nil]
    rw [h1,h2,hb.1,hb.2]
   have kk:((k:Int)+1)=((k+1:Nat):Int):=by omega
   by_cases hkl:k+1<xs.length
   ·obtain ⟨e',he'⟩:∃ e',xs[k+1]?=some e':=⟨_,l8 hkl⟩
    obtain ⟨hee,hst'⟩:=Lb hst he he'
    obtain ⟨b1,b2⟩:=h.before he he'
    have hd2:aQ (k:Int) 1<(xs.length:Int):=by rw [bG k (by omega)];omega
    simp only [hd,decide_true,if_true,aW he,i9,hd2,hside k e he hkl,DH hline (show k≤1000 by omega) hout e (A e) (B e)]
    have hprev:s (e'-1)=s e:=hst' _ (by omega) (by omega)
    by_cases hc:A e=one∧B e=two
    ·refine ⟨_,rfl, ?_,by rw [if_pos hc];simp only;omega⟩
     rw [if_pos hc]
     have es:s e=s (e-1):=by rw [hs];simp only;rw [← h1,← h2,hc.1,hc.2]
     refine ⟨k+1,rfl,by omega,fun q=>by omega,fun e2 he2=>?_⟩
     rw [he'] at he2;injection he2 with he2;subst he2
     simp only
     rcases L7 (one=two) with q | q
     ·have e0:s e=0:=by rw [es];exact sone.2 q
      exact ⟨L,BA hL hee hst' e0,by omega,by rw [b1,hc.1],by rw [b2,hc.2],hzero,fun q'=>absurd q q'⟩
     ·have e0:s e≠0:=by rw [es];exact fun z=>q (sone.1 z)
      obtain ⟨l0,a,hla,hrun⟩:=NS hL hee hst' hlo e0 es.symm
      obtain ⟨L0,e1,e2⟩:=hopen q
      rw [hla] at e1
      obtain ⟨rfl,e3⟩:=List.append_inj' e1 rfl
      injection e3 with e3 _
      injection e3 with e3 _
      subst e3
      exact ⟨l0++[(a,e')],hrun,by rw [hla] at hLk;simp at hLk ⊢;omega,by rw [b1,hc.1],by rw [b2,hc.2],fun q'=>absurd q' q,fun _=>⟨l0,rfl,e2⟩⟩
    ·refine ⟨_,rfl, ?_,by rw [if_neg hc];simp only;omega⟩
     rw [if_neg hc]
     refine ⟨k+1,rfl,by omega,fun q=>by omega,fun e2 he2=>?_⟩
     rw [he'] at he2;injection he2 with he2;subst he2
     simp only
     have hout':(if one=two then out else out++[mkE (ln bg e) one two])=L.map mk:=by
      split
      ·rename_i q;exact hzero q
      ·rename_i q;exact closed q
     rcases L7 (A e=B e) with q | q
     ·exact ⟨L,BA hL hee hst' ((s0 e).2 q),by omega,b1.symm,b2.symm,fun _=>hout',fun q'=>absurd q q'⟩
     ·have e0:s e≠0:=fun z=>q ((s0 e).1 z)
      have hne:s (e-1)≠s e:=fun z=>by
       have:=sinj e (e-1) e0 z.symm
       exact hc ⟨by rw [h1];exact this.1,by rw [h2];exact this.2⟩
      exact ⟨L++[(e,e')],TA hL hee hst' e0 hne,by simp;omega,b1.symm,b2.symm,fun q'=>absurd q' q,fun _=>⟨L,rfl,hout'⟩⟩
   ·have hd2:¬ aQ (k:Int) 1<(xs.length:Int):=by rw [bG k (by omega)];omega
    simp only [hd,decide_true,if_true,aW he,i9,hd2,decide_false,j9,if_false,DH hline (show k≤1000 by omega) hout e none none]
    have hz:∀ z,e≤z→s z=0:=fun z hz=>by
     have:=h.high e (by rw [show xs.length-1=k from by omega];exact he) z hz
     rw [s0,this.1,this.2]
    refine ⟨_,rfl,⟨k+1, ?_,by omega,fun _=>⟨L, ?_,SZ hL hz,by omega⟩,fun e2 he2=>by have:=aX he2;omega⟩, ?_⟩
    ·split <;> rfl
    ·by_cases hc:(none:Option Int)=one∧(none:Option Int)=two
     ·rw [if_pos hc];exact hzero (by rw [← hc.1,← hc.2])
     ·rw [if_neg hc]
      simp only
      split
      ·rename_i q;exact hzero q
      ·rename_i q;exact closed q
    ·split <;> simp only <;> omega) (0,none,none,0,[])
   ⟨0,rfl,by omega,fun q=>⟨[],rfl,by
    have:xs=[]:=List.eq_nil_of_length_eq_zero q.symm
    refine ⟨.nil,fun a b=>⟨fun m=>by simp at m,fun m=>absurd ((s0 a).2 ?_) m.2.1⟩⟩
    rw [(h.emp this a).1,(h.emp this a).2],by simp⟩,fun e he=>by
    have hl:=h.low e he
    exact ⟨[],IK fun z hz=>by rw [s0,(hl z hz).1,(hl z hz).2],by simp,(hl (e-1) (by omega)).1.symm,(hl (e-1) (by omega)).2.symm,fun _=>rfl,fun q=>absurd rfl q⟩⟩
 obtain ⟨L,rfl,q3,q4⟩:=q2
 exact ⟨L,by unfold al;rw [q1];rfl,q3,q4⟩
end Go.SM
namespace Go.SM
open Go Go.VI
theorem CL {R:Type} (n:Nat) (body:Int→Option (Int ⊕ R)) (step:∀ k:Nat,k<n→(∃ r,body (k:Int)=some (.inr r))∨body (k:Int)=some (.inl ((k+1:Nat):Int))) (fin:∃ r,body (n:Int)=some (.inr r)):∃ r,aM body 0=some r:=by
 have key:∀ (m k:Nat),k+m=n→∃ r,aM body (k:Int)=some r:=by
  intro m
  induction m with
  | zero =>
    intro k h;obtain rfl:k=n:=by omega
    obtain ⟨r,hr⟩:=fin
    exact ⟨r,dK hr⟩
  | succ m ih =>
    intro k h
    rcases step k (by omega) with ⟨r,hr⟩ | hr
    ·exact ⟨r,dK hr⟩
    ·obtain ⟨r,h2⟩:=ih (k+1) (by omega)
     exact ⟨r,by rw [iY hr];exact h2⟩
 exact key n 0 (by omega)
theorem LC {a b:ByteArray} (h:a.size+b.size≤9223372036854775807):FO a b=some (a++b):=by unfold FO;rw [if_pos h]
theorem LG {s:ByteArray} {k:Nat} (h:k<s.size):Zn s (k:Int)=some ((s[k].toNat:Nat):Int):=by
 unfold Zn
 rw [if_pos (Int.natCast_nonneg k),y9]
 simp [h]
set_option maxRecDepth 20000 in
theorem Uy (s:ByteArray):∃ b,fI s=some b:=by
 unfold fI
 by_cases h1:(s.size:Int)<1
 ·exact ⟨false,by simp [h1]⟩
 by_cases h2:(s.size:Int)>8
 ·exact ⟨false,by simp [h1,h2]⟩
 have e0:Zn s 0=some ((s[0]'(by omega)).toNat:Int):=LG (k:=0) (by omega)
 obtain ⟨r,hr⟩:=CL s.size (vZ s) (fun k hk=>by
  have hd:decide ((k:Int)<(s.size:Int))=true:=by simp;omega
  unfold vZ
  simp only [hd,if_true,LG hk,i9]
  rw [bA (a:=(k:Int)) (by omega) (by omega)]
  generalize ((s[k].toNat:Nat):Int)=x
  by_cases q1:x<97 <;> by_cases q2:x>122 <;> by_cases q3:x<48 <;> by_cases q4:x>57 <;> simp [q1,q2,q3,q4]) ⟨.inr (),by simp [vZ]⟩
 generalize ((s[0]'(by omega)).toNat:Int)=x at e0
 simp only [h1,h2,decide_false,j9,if_false,e0,hr,i9]
 have e1:FO (I1 #[32]) s=some (I1 #[32]++s):=LC (by show 1+s.size≤_;omega)
 have e2:FO (I1 #[32]++s) (I1 #[32])=some ((I1 #[32]++s)++I1 #[32]):=LC (by rw [ByteArray.size_append];show 1+s.size+1≤_;omega)
 simp only [e1,e2,i9]
 cases decide (x<97) <;> cases decide (x>122) <;> cases r <;> first | (unfold strings_Contains;rw [if_pos (by decide +kernel)];exact ⟨_,rfl⟩) | exact ⟨_,rfl⟩
theorem Fj (n lo hi:Int):kP n lo hi=some (decide (lo≤n∧n≤hi)):=by
 unfold kP
 by_cases h1:lo≤n <;> simp [h1]
theorem Xx (g r:Int):Gt g r=some (decide ((1≤g∧g≤60)∧0≤r∧r≤2)):=by
 unfold Gt
 simp only [Fj,i9]
 by_cases h1:1≤g∧g≤60
 ·simp [h1]
 ·simp only [h1,decide_false,false_and];rfl
theorem lV (l:List aF) (hl:l.length≤9223372036854775806):nN l=some (!(l.any fun x=>!decide (vR x))):=by
 have key:aM (yQ l) 0=some (if (l.any fun x=>!decide (vR x)) then .inl () else .inr ()):=by
  refine gD l (yQ l) (fun k=>(k:Int)) _ _ _ rfl (fun k x hx=>?_) ?_
  ·have hk:=(m9.1 hx).1
   unfold yQ
   have h1:decide ((k:Int)<(l.length:Int))=true:=by simp;omega
   simp only [h1,if_true,aW hx,i9,iT]
   rw [bA (a:=(k:Int)) (by omega) (by omega)]
   rfl
  ·simp [yQ]
 unfold nN
 rw [key]
 cases (l.any fun x=>!decide (vR x)) <;> rfl
def outs (r:aF) (l:List aF):Bool:=l.any fun x=>!decide (pS x r)
theorem QR (r:aF×Bool) (l:List aF) (hl:l.length≤9223372036854775806):aM (lP r l) 0=some (if outs r.1 l then .inl () else .inr ()):=by
 refine gD l (lP r l) (fun k=>(k:Int)) _ _ _ rfl (fun k x hx=>?_) ?_
 ·have hk:=(m9.1 hx).1
  unfold lP
  have h1:decide ((k:Int)<(l.length:Int))=true:=by simp;omega
  simp only [h1,if_true,aW hx,i9,Nf]
  rw [bA (a:=(k:Int)) (by omega) (by omega)]
  rfl
 ·simp [lP]
theorem QS (s:aT) (r:aF×Bool) (h1:s.bO.length≤9223372036854775806) (h2:s.Used.length≤9223372036854775806):aM (lQ s r) 0=some (if outs r.1 s.bO || outs r.1 s.Used then .inl () else .inr ()):=by
 have:=gD [s.bO,s.Used] (lQ s r) (fun k=>(k:Int)) (fun l=>outs r.1 l) (.inr ()) (.inl ()) rfl (fun k x hx=>?_) ?_
 ·refine this.trans ?_;simp
 ·have hk:=(m9.1 hx).1
  unfold lQ
  have hm:x=s.bO∨x=s.Used:=by have:=m5 hx;simpa using this
  have hl:x.length≤9223372036854775806:=by rcases hm with rfl | rfl <;> assumption
  have h3:decide ((k:Int)<(([s.bO,s.Used]:List (List aF)).length:Int))=true:=by rw [decide_eq_true_eq];exact Int.ofNat_lt.2 hk
  simp only [h3,if_true,aW hx,i9,QR r x hl]
  have hk':k<2:=hk
  rw [bA (a:=(k:Int)) (by omega) (by omega)]
  cases outs r.1 x <;> simp
 ·simp [lQ]
structure VS (s:aT):Prop where
 w:1≤s.dQ∧s.dQ≤1048576
 h:1≤s.cE∧s.cE≤1048576
 v:BI (s.bO++s.Used)
 i:∀ r ∈ s.bO++s.Used,0≤r.X∧r.X+r.W≤s.dQ∧0≤r.Y∧r.Y+r.H≤s.cE
 n1:s.bO.length≤4
 n2:s.Used.length≤48
theorem C5 {s:aT} (h2:1≤s.dQ∧s.dQ≤1048576) (h3:1≤s.cE∧s.cE≤1048576) (n1:s.bO.length≤4) (n2:s.Used.length≤48) (v1:(s.bO.any fun x=>!decide (vR x))=false) (v2:(s.Used.any fun x=>!decide (vR x))=false) (o1:outs ⟨0,0,s.dQ,s.cE⟩ s.bO=false) (o2:outs ⟨0,0,s.dQ,s.cE⟩ s.Used=false):VS s:=by
 have hv:∀ {l:List aF},(l.any fun x=>!decide (vR x))=false→BI l:=fun {l} h r hr=>by
  have:=s7.1 h r hr
  simpa using this
 have hi:∀ {l:List aF},outs ⟨0,0,s.dQ,s.cE⟩ l=false→∀ r ∈ l,0≤r.X∧r.X+r.W≤s.dQ∧0≤r.Y∧r.Y+r.H≤s.cE:=fun {l} h r hr=>by
  have:=s7.1 h r hr
  have h2:pS r ⟨0,0,s.dQ,s.cE⟩:=by simpa using this
  obtain ⟨_,_,a,b,c,d⟩:=h2
  simp only at a b c d
  omega
 refine ⟨h2,h3,fun r hr=>?_,fun r hr=>?_,n1,n2⟩
 ·rcases q9.1 hr with h | h
  ·exact hv v1 r h
  ·exact hv v2 r h
 ·rcases q9.1 hr with h | h
  ·exact hi o1 r h
  ·exact hi o2 r h
theorem Hq (s:aT):∃ b,eB s=some b∧(b=0→VS s):=by
 obtain ⟨a,ha⟩:=Uy s.Name
 obtain ⟨b,hb⟩:=Uy s.bH
 unfold eB
 rw [ha,hb]
 cases a with
 | false=>exact ⟨2,rfl,fun h=>absurd h (by decide)⟩
 | true =>
 cases b with
 | false=>exact ⟨2,rfl,fun h=>absurd h (by decide)⟩
 | true =>
 simp only [i9,Xx,Fj,if_true,u5,j9,if_false]
 cases decide ((1≤s.cX∧s.cX≤60)∧0≤s.cU∧s.cU≤2)
 ·exact ⟨1,rfl,fun h=>absurd h (by decide)⟩
 by_cases h2:1≤s.dQ∧s.dQ≤1048576
 case neg=>exact ⟨1,by simp [h2],fun h=>absurd h (by decide)⟩
 by_cases h3:1≤s.cE∧s.cE≤1048576
 case neg=>exact ⟨1,by simp [h2,h3],fun h=>absurd h (by decide)⟩
 by_cases h4:(s.bO.length:Int)>4
 ·exact ⟨4,by simp [h2,h3,h4],fun h=>absurd h (by decide)⟩
 by_cases h5:(s.Used.length:Int)>48
 ·exact ⟨4,by simp [h2,h3,h5],fun h=>absurd h (by decide)⟩
 have hi:sG s 0=some (⟨0,0,s.dQ,s.cE⟩,decide (vR ⟨0,0,s.dQ,s.cE⟩)):=by
  unfold sG
  rw [iT]
  have e0:gZ 2 0=0:=by rw [Fl (by omega) (by omega)];rfl
  rw [e0,bP (by omega) (by omega),bP (by omega) (by omega),Int.sub_zero,Int.sub_zero]
  rfl
 simp only [h2,h3,h4,h5,and_self,decide_true,decide_false,if_true,u5,j9,if_false,i9,lV s.bO (by omega),lV s.Used (by omega),hi,QS s _ (show s.bO.length≤_ by omega) (show s.Used.length≤_ by omega)]
 cases v1:(s.bO.any fun x=>!decide (vR x)) with
 | true=>exact ⟨1,rfl,fun h=>absurd h (by decide)⟩
 | false =>
 cases v2:(s.Used.any fun x=>!decide (vR x)) with
 | true=>exact ⟨1,rfl,fun h=>absurd h (by decide)⟩
 | false =>
 cases o1:outs ⟨0,0,s.dQ,s.cE⟩ s.bO with
 | true=>exact ⟨13,rfl,fun h=>absurd h (by decide)⟩
 | false =>
 cases o2:outs ⟨0,0,s.dQ,s.cE⟩ s.Used with
 | true=>exact ⟨13,rfl,fun h=>absurd h (by decide)⟩
 | false=>exact ⟨0,rfl,fun _=>C5 h2 h3 (by omega) (by omega) v1 v2 o1 o2⟩
def cnt (l:List Bool):Nat:=l.countP (·==true)
theorem JO {l:List Bool} {k:Nat} (h:l[k]?=some false):cnt (l.set k true)=cnt l+1:=by
 unfold cnt
 have hk:=(m9.1 h).1
 have hv:=(m9.1 h).2
 rw [List.countP_set hk]
 simp [hv]
theorem IZ (a b:aF):∃ t,sH a b=some t:=by
 unfold sH
 split
 ·split
  ·exact ⟨_,rfl⟩
  ·split <;> exact ⟨_,rfl⟩
 ·split <;> exact ⟨_,rfl⟩
theorem MB {l:List aF} (hl:l.length≤1000) {x:Int} {r:aF} (hx:idx l x=some r) (seen:List Bool) (hs:seen.length=l.length) (w:List Int) (hw:w.length≤1000) :
  ∃ seen' w',aM (iJ l x) (0,seen,w)=some (seen',w')∧seen'.length=l.length∧cnt seen'+w.length=cnt seen+w'.length∧∀ y ∈ w',y ∈ w∨(0≤y∧y<l.length):=by
 obtain ⟨a,q1,q2,q3,q4,_⟩:=lJ l (fun k (t:List Bool×List Int)=>((k:Int),t.1,t.2)) (iJ l x) (fun t=>t) (fun k t=>t.1.length=l.length∧cnt t.1+w.length=cnt seen+t.2.length∧(∀ y ∈ t.2,y ∈ w∨(0≤y∧y<l.length))∧t.2.length≤w.length+k) (seen,w) ⟨hs,rfl,fun y hy=>.inl hy,Nat.le_refl _⟩
  (fun k y t hy hI=>by
   obtain ⟨i1,i2,i3,i4⟩:=hI
   have hk:=aX hy
   have hd:decide ((k:Int)<(l.length:Int))=true:=by simp [hk]
   have hsn:t.1[k]?=some (t.1[k]'(by omega)):=l8 (by omega)
   obtain ⟨c,hc⟩:=IZ r y
   unfold iJ vV
   simp only [hd,if_true,aW hsn,aW hy,hx,hc,i9,bG k (by omega)]
   generalize t.1[k]'(by omega)=b at hsn
   cases b with
   | true=>exact ⟨t,by simp,i1,i2,i3,by omega⟩
   | false =>
     cases c with
     | false=>exact ⟨t,by simp,i1,i2,i3,by omega⟩
     | true =>
       have ap:app t.2 [(k:Int)]=some (t.2++[(k:Int)]):=iF (by unfold LIM;simp;omega)
       refine ⟨(t.1.set k true,t.2++[(k:Int)]),by simp [ap],by simp [i1], ?_,fun z hz=>?_,by simp;omega⟩
       ·rw [JO hsn];simp;omega
       ·rcases q9.1 hz with h | h
        ·exact i3 z h
        ·right;rw [List.mem_singleton.1 h];omega) (fun t _=>by simp [iJ])
 exact ⟨a.1,a.2,q1,q2,q3,q4⟩
theorem BU {l:List aF} (hl:l.length≤1000) (h0:0<l.length):∃ b,mT l=some b:=by
 have hmk:mk (l.length:Int) false=some (q8 l.length false):=by
  unfold mk;rw [if_pos (by unfold LIM;omega)];simp
 have hf:(q8 l.length false)[0]?=some false:=by simp [h0]
 have hc:cnt ((q8 l.length false).set 0 true)=1:=by
  rw [JO hf];unfold cnt;simp [List.countP_replicate]
 have i0:idx (q8 l.length false) 0=some false:=aW (k:=0) hf
 obtain ⟨s,p1,p2⟩:=mH (fun t:List Bool×List Int=>(l.length-cnt t.1)+t.2.length) (fun t=>t.1.length=l.length∧t.2.length≤cnt t.1∧∀ y ∈ t.2,0≤y∧y<l.length) (fun s=>s.length=l.length) (iK l) (by
  rintro ⟨seen,w⟩ ⟨i1,i2,i3⟩
  simp only at i1 i2 i3 ⊢
  have hcl:cnt seen≤seen.length:=S7
  cases w with
  | nil=>right;exact ⟨seen,by simp [iK],i1⟩
  | cons x w =>
    left
    have hxm:=i3 x F8
    simp only [H5] at i2
    have hr:idx l x=some (l[x.toNat]'(by omega)):=by
     unfold idx;rw [if_pos hxm.1];simp [show x.toNat<l.length by omega]
    obtain ⟨s',w',q1,q2,q3,q4⟩:=MB hl hr seen i1 w (by omega)
    have hcl':cnt s'≤s'.length:=S7
    refine ⟨(s',w'), ?_,⟨q2,show w'.length≤cnt s' by omega,fun y hy=>?_⟩,by simp only [H5];omega⟩
    ·unfold iK
     have e0:idx (x::w) 0=some x:=rfl
     have h1:decide (((x::w).length:Int)>0)=true:=by simp
     have h2:decide (1≤(x::w).length)=true:=by simp
     simp only [h1,if_true,e0,i9,h2,List.drop_succ_cons,List.drop_zero,q1]
    ·rcases q4 y hy with h | h
     ·exact i3 y (F7 _ h)
     ·exact h) ((q8 l.length false).set 0 true,[0]) ⟨by simp,by rw [hc];simp,by simp;omega⟩
 unfold mT
 have p1':aM (iK l) ((q8 l.length false).set (l4 0) true,[0])=some s:=p1
 obtain ⟨r,hr⟩:=CL s.length (vW s) (fun k hk=>by
  have hx:s[k]?=some s[k]:=l8 hk
  have hd:decide ((k:Int)<(s.length:Int))=true:=by simp [hk]
  unfold vW
  simp only [hd,if_true,aW hx,i9,bG k (by omega)]
  cases s[k] <;> simp) ⟨.inr (),by simp [vW]⟩
 simp only [hmk,i9,i0,p1',hr]
 cases r <;> exact ⟨_,rfl⟩
def Ev (h x:aF):Bool:=if h.X>x.X then (if h.Y>x.Y then (if aQ h.X h.W<aQ x.X x.W then decide (aQ h.Y h.H<aQ x.Y x.H) else false) else false) else false
theorem FY (h:aF) (l:List aF) (hl:l.length≤1000):yP h l=some (l.any (Ev h)):=by
 have key:aM (tO h l) 0=some (if l.any (Ev h) then .inl () else .inr ()):=by
  refine gD l (tO h l) (fun k=>(k:Int)) _ _ _ rfl (fun k x hx=>?_) ?_
  ·have hk:=(m9.1 hx).1
   unfold tO
   have h1:decide ((k:Int)<(l.length:Int))=true:=by simp;omega
   simp only [h1,if_true,aW hx,i9]
   rw [bA (a:=(k:Int)) (by omega) (by omega)]
   unfold Ev
   by_cases q1:h.X>x.X
   ·by_cases q2:h.Y>x.Y
    ·by_cases q3:aQ h.X h.W<aQ x.X x.W
     ·by_cases q4:aQ h.Y h.H<aQ x.Y x.H <;> simp [q1,q2,q3,q4]
     ·simp [q1,q2,q3]
    ·simp [q1,q2]
   ·simp [q1]
  ·simp [tO]
 unfold yP
 rw [key]
 cases l.any (Ev h) <;> rfl
def Ht (x0:aS) (l:List aF) (k:Nat):Bool:=match l[k]? with
 | some x=>!(x0.aD.any (Ev x)) || (decide ((k:Int)<(x0.bQ.length:Int))&&((x.W==1) || (x.H==1)))
 | none=>false
theorem AE (x0:aS) (l:List aF) (hl:l.length≤1000) (hr:x0.aD.length≤1000):aM (wZ x0 l) 0=some (if (s9 l.length).any (Ht x0 l) then .inl () else .inr ()):=by
 refine yB l.length (wZ x0 l) (fun k=>(k:Int)) _ _ _ rfl (fun k hk=>?_) ?_
 ·have hx:l[k]?=some l[k]:=by simp
  unfold wZ Ht
  have h1:decide ((k:Int)<(l.length:Int))=true:=by simp;omega
  simp only [h1,if_true,aW hx,hx,i9,FY _ _ hr]
  rw [bA (a:=(k:Int)) (by omega) (by omega)]
  by_cases q1:(k:Int)<(x0.bQ.length:Int)
  ·cases q2:(l[k].W==1)
   ·cases q3:(l[k].H==1)
    ·cases x0.aD.any (Ev l[k]) <;> simp [q1,q2,q3]
    ·cases x0.aD.any (Ev l[k]) <;> simp [q1,q2,q3]
   ·cases x0.aD.any (Ev l[k]) <;> simp [q1,q2]
  ·cases x0.aD.any (Ev l[k]) <;> simp [q1]
 ·simp [wZ]
def Mv (p:aF→aF→Bool) (l:List aF) (k:Nat):Bool:=match l[k]? with
 | some x=>(l.take k).any (p x)
 | none=>false
def Sb (x y:aF):Bool:=Gf x y==0
def iQ (x y:aF):Bool:=decide (ovR x y)
theorem FV {l:List aF} {k:Nat} (h:k≤l.length):slc l 0 (k:Int)=some (l.take k):=by
 unfold slc;rw [if_pos (by omega)];simp
theorem in2 (x:aF) (l:List aF) (hl:l.length≤1000):aM (xA x l) 0=some (if l.any (Sb x) then .inl () else .inr ()):=by
 refine gD l (xA x l) (fun k=>(k:Int)) _ _ _ rfl (fun k y hy=>?_) ?_
 ·have hk:=(m9.1 hy).1
  unfold xA
  have h1:decide ((k:Int)<(l.length:Int))=true:=by simp;omega
  simp only [h1,if_true,aW hy,i9,Tq]
  rw [bA (a:=(k:Int)) (by omega) (by omega)]
  rfl
 ·simp [xA]
theorem in3 (l:List aF) (hl:l.length≤1000):aM (xB l) 0=some (if (s9 l.length).any (Mv Sb l) then .inl () else .inr ()):=by
 refine yB l.length (xB l) (fun k=>(k:Int)) _ _ _ rfl (fun k hk=>?_) ?_
 ·have hx:l[k]?=some l[k]:=by simp
  unfold xB Mv
  have h1:decide ((k:Int)<(l.length:Int))=true:=by simp;omega
  simp only [h1,if_true,aW hx,hx,i9,FV (S8 hk),in2 _ (l.take k) (by simp;omega)]
  rw [bA (a:=(k:Int)) (by omega) (by omega)]
  cases (l.take k).any (Sb l[k]) <;> simp
 ·simp [xB]
theorem ov2 (x:aF) (l:List aF) (hl:l.length≤1000):aM (lM x l) 0=some (if l.any (iQ x) then .inl () else .inr ()):=by
 refine gD l (lM x l) (fun k=>(k:Int)) _ _ _ rfl (fun k y hy=>?_) ?_
 ·have hk:=(m9.1 hy).1
  unfold lM
  have h1:decide ((k:Int)<(l.length:Int))=true:=by simp;omega
  simp only [h1,if_true,aW hy,i9,Ko]
  rw [bA (a:=(k:Int)) (by omega) (by omega)]
  rfl
 ·simp [lM]
theorem ov3 (x0:aS) (hl:x0.aD.length≤1000):aM (lN x0) 0=some (if (s9 x0.aD.length).any (Mv iQ x0.aD) then .inl () else .inr ()):=by
 refine yB x0.aD.length (lN x0) (fun k=>(k:Int)) _ _ _ rfl (fun k hk=>?_) ?_
 ·have hx:x0.aD[k]?=some x0.aD[k]:=by simp
  unfold lN Mv
  have h1:decide ((k:Int)<(x0.aD.length:Int))=true:=by simp;omega
  simp only [h1,if_true,aW hx,hx,i9,FV (S8 hk),ov2 _ (x0.aD.take k) (by simp;omega)]
  rw [bA (a:=(k:Int)) (by omega) (by omega)]
  cases (x0.aD.take k).any (iQ x0.aD[k]) <;> simp
 ·simp [lN]
def uJ (l:List aF) (a:Int):Int:=l.foldl (fun s r=>min s r.X) a
def uK (l:List aF) (a:Int):Int:=l.foldl (fun s r=>min s r.Y) a
theorem EY (x0:aS) (hl:x0.aD.length≤1000) (a b:Int):aM (lL x0) (a,b,0)=some (uJ x0.aD a,uK x0.aD b):=by
 refine gN x0.aD (lL x0) (fun k=>(uJ (x0.aD.take k) a,uK (x0.aD.take k) b,(k:Int))) _ (fun k r hr=>?_) ?_
 ·have hk:=(m9.1 hr).1
  unfold lL
  have h1:decide ((k:Int)<(x0.aD.length:Int))=true:=by simp;omega
  have e:x0.aD.take (k+1)=x0.aD.take k++[r]:=by rw [G5,hr];rfl
  simp only [h1,if_true,aW hr,i9,e,Rc]
  rw [bA (a:=(k:Int)) (by omega) (by omega)]
  unfold uJ uK
  rw [K0,K0]
  rfl
 ·simp [lL]
theorem BC {α:Type} {l:List α} {k:Nat} (h:k≤l.length):slc l 0 (k:Int)=some (l.take k):=by
 unfold slc;rw [if_pos (by omega)];simp
theorem Qx {l:List aF} {g:aF→Int}:∀ {a:Int},l.foldl (fun s r=>min s (g r)) a≤a∧∀ r ∈ l,l.foldl (fun s r=>min s (g r)) a≤g r:=by
 induction l with
 | nil=>intro a;exact ⟨Int.le_refl _,fun r hr=>absurd hr (by simp)⟩
 | cons x l ih =>
   intro a
   obtain ⟨h1,h2⟩:=ih (a:=min a (g x))
   refine ⟨by simp only [y8];omega,fun r hr=>?_⟩
   simp only [y8]
   rcases H4.1 hr with rfl | hr
   ·omega
   ·exact h2 r hr
theorem AD {l:List aF} {g:aF→Int}:∀ {a:Int},l.foldl (fun s r=>min s (g r)) a=a∨∃ r ∈ l,l.foldl (fun s r=>min s (g r)) a=g r:=by
 induction l with
 | nil=>intro a;exact .inl rfl
 | cons x l ih =>
   intro a
   simp only [y8]
   rcases ih (a:=min a (g x)) with h | ⟨r,hr,h⟩
   ·rw [h]
    by_cases hx:a≤g x
    ·left;omega
    ·right;exact ⟨x,by simp,by omega⟩
   ·exact .inr ⟨r,by simp [hr],h⟩
theorem AM {α β:Type} (l:List α) (f:α→β) (body:Int×List β→Option ((Int×List β) ⊕ List β)) (hl:l.length≤1048576) (step:∀ (k:Nat) x acc,l[k]?=some x→body ((k:Int),acc)=(app acc [f x]).bind fun l'=>some (.inl (((k+1:Nat):Int),l'))) (fin:∀ acc,body ((l.length:Int),acc)=some (.inr acc)) :
  aM body (0,[])=some (l.map f):=by
 refine gN l body (fun k=>((k:Int),(l.take k).map f)) _ (fun k x hx=>?_) ?_
 ·have hk:=(m9.1 hx).1
  rw [step k x _ hx,iF (by unfold LIM;simp;omega)]
  simp only [i9]
  rw [G5,hx]
  simp
 ·rw [fin,E7]
def inB (a b:Int) (r:aF):Prop:=a≤r.X∧r.X+r.W≤a+1048576∧b≤r.Y∧r.Y+r.H≤b+1048576
structure VP (x:aS):Prop where
 n1:x.aD.length≤12
 n0:0<x.aD.length
 n2:x.bQ.length≤12
 n3:x.Forms.length≤12
 v1:∀ r ∈ x.aD,vR r∧inB 0 0 r
 v2:∀ r ∈ x.bQ,vR r∧inB 0 0 r
 v3:∀ r ∈ x.Forms,vR r∧inB 0 0 r
theorem It {l:List aF} (h:(l.any fun x=>!decide (vR x))=false):∀ r ∈ l,vR r:=by
 intro r hr
 have:=s7.1 h r hr
 simpa using this
theorem C4 {x:aS} {r0:aF} (k1:x.aD.length≤12) (k0:0<x.aD.length) (k2:x.bQ.length≤12) (k3:x.Forms.length≤12) (v1:(x.aD.any fun x=>!decide (vR x))=false) (v2:(x.bQ.any fun x=>!decide (vR x))=false) (v3:(x.Forms.any fun x=>!decide (vR x))=false)
  (v4:(s9 (x.bQ++x.Forms).length).any (Ht x (x.bQ++x.Forms))=false) (hr:x.aD[0]?=some r0) (m1:uJ x.aD r0.X=0) (m2:uK x.aD r0.Y=0):VP x:=by
 have b1:∀ r ∈ x.aD,inB 0 0 r:=fun r hr=>by
  have q:=It v1 r hr
  have h1:=(Qx (l:=x.aD) (g:=fun r=>r.X) (a:=r0.X)).2 r hr
  have h2:=(Qx (l:=x.aD) (g:=fun r=>r.Y) (a:=r0.Y)).2 r hr
  have e1:x.aD.foldl (fun s r=>min s r.X) r0.X=0:=m1
  have e2:x.aD.foldl (fun s r=>min s r.Y) r0.Y=0:=m2
  rw [e1] at h1;rw [e2] at h2
  unfold vR at q;unfold inB;omega
 have b4 : ∀ c ∈ x.bQ++x.Forms,vR c→inB 0 0 c:=fun c hc hv=>by
  obtain ⟨k,hk⟩:=u6.1 hc
  have hkl:=(m9.1 hk).1
  have h:=s7.1 v4 k (F5.2 hkl)
  unfold Ht at h
  rw [hk] at h
  simp only [F6,not_or] at h
  have h':x.aD.any (Ev c)=true:=by simpa using h.1
  obtain ⟨r,hr,hd⟩:=E2.1 h'
  have q:=It v1 r hr
  have q2:=b1 r hr
  unfold Ev at hd
  unfold vR at q hv
  rw [bA (by omega) (by omega),bA (by omega) (by omega),bA (by omega) (by omega),bA (by omega) (by omega)] at hd
  unfold inB at q2 ⊢
  by_cases t1:c.X>r.X
  ·by_cases t2:c.Y>r.Y
   ·by_cases t3:c.X+c.W<r.X+r.W
    ·simp only [t1,t2,t3,if_true,decide_eq_true_eq] at hd
     omega
    ·simp [t1,t2,t3] at hd
   ·simp [t1,t2] at hd
  ·simp [t1] at hd
 exact ⟨k1,k0,k2,k3,fun r hr=>⟨It v1 r hr,b1 r hr⟩,fun r hr=>⟨It v2 r hr,b4 r (q9.2 (.inl hr)) (It v2 r hr)⟩,fun r hr=>⟨It v3 r hr,b4 r (q9.2 (.inr hr)) (It v3 r hr)⟩⟩
structure VG (R C F:List aF):Prop where
 n1:R.length≤12
 n0:0<R.length
 n2:C.length≤12
 n3:F.length≤12
 v:∀ r ∈ R++(C++F),vR r
 ov:∀ k,k<R.length→Mv iQ R k=false
 co:mT R=some true
 ho:∀ k,k<(C++F).length→∃ x,(C++F)[k]?=some x∧R.any (Ev x)=true∧(k<C.length→((x.W==1) || (x.H==1))=false)
 ze:∀ k,k<(C++F).length→Mv Sb (C++F) k=false
theorem WM {n:Nat} {p:Nat→Bool} (hp:(s9 n).any p=false):∀ k,k<n→p k=false:=fun k hk=>by
 have:=s7.1 hp k (F5.2 hk);simpa using this
theorem tZ (x:aS):∃ b,bM x=some b∧(b=0→fI x.Name=some true∧fI x.bH=some true∧((1≤x.cX∧x.cX≤60)∧0≤x.cU∧x.cU≤2)∧VG x.aD x.bQ x.Forms)∧(b=0→VP x):=by
 obtain ⟨a,ha⟩:=Uy x.Name
 obtain ⟨b,hb⟩:=Uy x.bH
 have bad:∀ {A B:Prop} {k:Int},k≠0→((k=0→A)∧(k=0→B)):=fun h=>⟨fun q=>absurd q h,fun q=>absurd q h⟩
 unfold bM
 rw [ha,hb]
 cases a with
 | false=>exact ⟨2,rfl,bad (by decide)⟩
 | true =>
 cases b with
 | false=>exact ⟨2,rfl,bad (by decide)⟩
 | true =>
 simp only [i9,Xx,if_true,u5,j9,if_false]
 by_cases h1:(1≤x.cX∧x.cX≤60)∧0≤x.cU∧x.cU≤2
 case neg=>exact ⟨1,by simp only [h1,decide_false];rfl,bad (by decide)⟩
 by_cases l1:(x.aD.length:Int)>12
 ·exact ⟨4,by simp [h1,l1],bad (by decide)⟩
 by_cases l2:(x.bQ.length:Int)>12
 ·exact ⟨4,by simp [h1,l2],bad (by decide)⟩
 by_cases l3:(x.Forms.length:Int)>12
 ·exact ⟨4,by simp [h1,l3],bad (by decide)⟩
 by_cases h0:(x.aD.length:Int)=0
 ·exact ⟨1,by simp [h1,l1,l2,l3,h0],bad (by decide)⟩
 have h0':((x.aD.length:Int)==0)=false:=by rw [beq_eq_false_iff_ne];exact h0
 have hr:x.aD[0]?=some (x.aD[0]'(by omega)):=by simp [show 0<x.aD.length by omega]
 have i0:idx x.aD 0=some (x.aD[0]'(by omega)):=aW (k:=0) hr
 obtain ⟨cn,c1⟩:=BU (l:=x.aD) (by omega) (by omega)
 have ap1:app [] x.bQ=some x.bQ:=by rw [iF (by unfold LIM;simp;omega)];rfl
 have ap2:app x.bQ x.Forms=some (x.bQ++x.Forms):=iF (by unfold LIM;omega)
 have k4:(x.bQ++x.Forms).length≤1000:=by simp;omega
 simp only [h1,l1,l2,l3,h0',and_self,decide_true,decide_false,u5,j9,if_false,lV x.aD (by omega),lV x.bQ (by omega),lV x.Forms (by omega),i9,i0,EY x (by omega),ov3 x (by omega),c1,Io,ap1,ap2,AE x _ k4 (show x.aD.length≤1000 by omega),in3 _ k4]
 cases v1:(x.aD.any fun x=>!decide (vR x)) with
 | true=>exact ⟨1,rfl,bad (by decide)⟩
 | false =>
 cases v2:(x.bQ.any fun x=>!decide (vR x)) with
 | true=>exact ⟨1,rfl,bad (by decide)⟩
 | false =>
 cases v3:(x.Forms.any fun x=>!decide (vR x)) with
 | true=>exact ⟨1,rfl,bad (by decide)⟩
 | false =>
 generalize x.aD[0]'(by omega)=r0 at hr i0 ⊢
 by_cases m1:uJ x.aD r0.X=0
 case neg =>
  have m1':(uJ x.aD r0.X != 0)=true:=by rw [bne_iff_ne];exact m1
  exact ⟨1,by simp [m1'],bad (by decide)⟩
 by_cases m2:uK x.aD r0.Y=0
 case neg =>
  have m2':(uK x.aD r0.Y != 0)=true:=by rw [bne_iff_ne];exact m2
  exact ⟨1,by simp [m1,m2'],bad (by decide)⟩
 simp only [m1,m2,bne_self_eq_false,Bool.not_false,u5,if_true,j9,if_false,i9]
 cases v5:(s9 x.aD.length).any (Mv iQ x.aD) with
 | true=>exact ⟨7,rfl,bad (by decide)⟩
 | false =>
 cases cn with
 | false=>exact ⟨6,rfl,bad (by decide)⟩
 | true =>
 cases v4:(s9 (x.bQ++x.Forms).length).any (Ht x (x.bQ++x.Forms)) with
 | true=>exact ⟨13,rfl,bad (by decide)⟩
 | false =>
 cases v6:(s9 (x.bQ++x.Forms).length).any (Mv Sb (x.bQ++x.Forms)) with
 | true=>exact ⟨7,rfl,bad (by decide)⟩
 | false =>
   refine ⟨0,rfl,fun _=>⟨trivial,trivial,trivial,by omega,by omega,by omega,by omega,fun r hr=>?_,WM v5,c1,fun k hk=>?_,WM v6⟩,fun _=>C4 (by omega) (by omega) (by omega) (by omega) v1 v2 v3 v4 hr m1 m2⟩
   ·rcases q9.1 hr with hr | hr
    ·exact It v1 r hr
    ·rcases q9.1 hr with hr | hr
     ·exact It v2 r hr
     ·exact It v3 r hr
   ·have q:=WM v4 k hk
    unfold Ht at q
    have hx:(x.bQ++x.Forms)[k]?=some (x.bQ++x.Forms)[k]:=by simp
    rw [hx] at q
    simp only [I7] at q
    refine ⟨_,hx,by have:=q.1;simpa using this,fun hc=>?_⟩
    have hd:decide ((k:Int)<(x.bQ.length:Int))=true:=by simp;omega
    have:=q.2
    rw [hd,Bool.true_and] at this
    exact this
theorem Xq {x:aS} (h:bM x=some 0):fI x.Name=some true∧fI x.bH=some true∧((1≤x.cX∧x.cX≤60)∧0≤x.cU∧x.cU≤2)∧VG x.aD x.bQ x.Forms:=by
 obtain ⟨z,hz,hv,_⟩:=tZ x
 exact hv (w7 (hz.symm.trans h))
theorem Ss {α:Type} (l:List α) (f:α→Option Int) (body:Int→Option (Int ⊕ (Int ⊕ Unit))) (hf:∀ x ∈ l,∃ c,f x=some c) (step:∀ (k:Nat) x,l[k]?=some x→body (k:Int)=(f x).bind fun c=>if (c != 0) then some (.inr (.inl c)) else some (.inl ((k+1:Nat):Int))) (fin:body (l.length:Int)=some (.inr (.inr ()))) :
  (∃ c,c≠0∧aM body 0=some (.inl c))∨(aM body 0=some (.inr ())∧∀ x ∈ l,f x=some 0):=by
 have key:∀ (n k:Nat),k+n=l.length→(∀ x ∈ l.take k,f x=some 0)→(∃ c,c≠0∧aM body (k:Int)=some (.inl c))∨(aM body (k:Int)=some (.inr ())∧∀ x ∈ l,f x=some 0):=by
  intro n
  induction n with
  | zero =>
    intro k h hb;obtain rfl:k=l.length:=by omega
    rw [E7] at hb
    exact .inr ⟨dK fin,hb⟩
  | succ n ih =>
    intro k h hb
    have hx:l[k]?=some (l[k]'(by omega)):=l8 (by omega)
    obtain ⟨c,hc⟩:=hf (l[k]'(by omega)) (m5 hx)
    have hs:=step k _ hx
    rw [hc,i9] at hs
    by_cases h0:c=0
    ·subst h0
     rw [iY hs]
     refine ih (k+1) (by omega) fun x q=>?_
     rw [pN hx] at q
     rcases q9.1 q with q | q
     ·exact hb x q
     ·simp at q;subst q;exact hc
    ·have:(c != 0)=true:=by rw [bne_iff_ne];exact h0
     rw [if_pos this] at hs
     exact .inl ⟨c,h0,dK hs⟩
 exact key l.length 0 (by omega) (by simp)
def bkR (x y:Int) (r:aF):aF:=if r.X < -4194304∨r.X>4194304∨r.Y < -4194304∨r.Y>4194304 then ⟨r.X,r.Y,0,r.H⟩ else ⟨aK r.X x,aK r.Y y,r.W,r.H⟩
theorem back_eq {l:List aF} (hl:l.length≤1048576) (x y:Int):Jl l x y=some (l.map (bkR x y)):=by
 unfold Jl eD
 rw [iF (by unfold LIM;simp;omega)]
 simp only [List.nil_append,i9]
 have key:aM (Dy x y l) (0,l)=some (l.map (bkR x y)):=by
  refine gN l (Dy x y l) (fun k=>((k:Int),(l.take k).map (bkR x y)++l.drop k)) _ (fun k r hr=>?_) ?_
  ·have hk:=(m9.1 hr).1
   have h1:decide ((k:Int)<(l.length:Int))=true:=by simp;omega
   have ht:((l.take k).map (bkR x y)).length=k:=by simp;omega
   have ed:l.drop k=r::l.drop (k+1):=by rw [K7 hk];congr 1;exact (m9.1 hr).2
   have g1:∀ z:aF,((l.take k).map (bkR x y)++z::l.drop (k+1))[k]?=some z:=fun z=>by rw [List.getElem?_append_right (by omega),ht];simp
   have i1:∀ z:aF,idx ((l.take k).map (bkR x y)++z::l.drop (k+1)) (k:Int)=some z:=fun z=>aW (g1 z)
   have s1:∀ z z':aF,m7 ((l.take k).map (bkR x y)++z::l.drop (k+1)) k z'=(l.take k).map (bkR x y)++z'::l.drop (k+1):=fun z z'=>by rw [List.set_append_right _ _ (by omega),ht];simp
   have e:l.take (k+1)=l.take k++[r]:=by rw [G5,hr];rfl
   unfold Dy Hz
   simp only [h1,if_true,ed,i1,g1,s1,i9,y9]
   rw [bA (a:=(k:Int)) (by omega) (by omega),e,H3,List.append_assoc]
   by_cases q1:r.X < -4194304
   ·simp [q1,bkR]
   ·by_cases q2:r.X>4194304
    ·simp [q1,q2,bkR]
    ·by_cases q3:r.Y < -4194304
     ·simp [q1,q2,q3,bkR]
     ·by_cases q4:r.Y>4194304
      ·simp [q1,q2,q3,q4,bkR]
      ·simp [q1,q2,q3,q4,bkR]
  ·simp [Dy]
 rw [key]
 rfl
def Sm (x:aS):Prop:=(x.aD.length≤1048576∧∀ r ∈ x.aD,Vt r)∧(x.bQ.length≤1048576∧∀ r ∈ x.bQ,Vt r)∧(x.Forms.length≤1048576∧∀ r ∈ x.Forms,Vt r)
def LB (l:aV):Prop:=l.aB.length≤1048576∧∀ x ∈ l.aB,Sm x
theorem Zs (x0:aS) (hl:x0.aD.length≤1048576) (a b:Int):aM (rI x0) (a,b,0)=some (uJ x0.aD a,uK x0.aD b):=by
 refine gN x0.aD (rI x0) (fun k=>(uJ (x0.aD.take k) a,uK (x0.aD.take k) b,(k:Int))) _ (fun k r hr=>?_) ?_
 ·have hk:=(m9.1 hr).1
  unfold rI
  have h1:decide ((k:Int)<(x0.aD.length:Int))=true:=by simp;omega
  have e:x0.aD.take (k+1)=x0.aD.take k++[r]:=by rw [G5,hr];rfl
  simp only [h1,if_true,aW hr,i9,e,Rc]
  rw [bA (a:=(k:Int)) (by omega) (by omega)]
  unfold uJ uK
  rw [K0,K0]
  rfl
 ·simp [rI]
theorem Xm (r:aF) {l:List aF} (hl:l.length≤1000):Fx r l=some (l.any (iQ r)):=by
 have key:∃ z,aM (bT l r.X r.Y r.W r.H) 0=some z∧((∃ k:Nat,z=.inl (k:Int))∧l.any (iQ r)=true∨z=.inr ()∧l.any (iQ r)=false):=by
  have go : ∀ (m k:Nat),k+m=l.length→(∀ y ∈ l.take k,iQ r y=false)→∃ z,aM (bT l r.X r.Y r.W r.H) (k:Int)=some z∧((∃ k:Nat,z=.inl (k:Int))∧l.any (iQ r)=true∨z=.inr ()∧l.any (iQ r)=false):=by
   intro m
   induction m with
   | zero =>
     intro k h hb
     obtain rfl:k=l.length:=by omega
     rw [E7] at hb
     exact ⟨.inr (),dK (by simp [bT]),.inr ⟨rfl,s7.2 fun y hy=>by simp [hb y hy]⟩⟩
   | succ m ih =>
     intro k h hb
     have hx:l[k]?=some (l[k]'(by omega)):=by simp [show k<l.length by omega]
     have hd:decide ((k:Int)<(l.length:Int))=true:=by simp;omega
     have hm:Ih (l[k]'(by omega)) r.X r.Y r.W r.H=some (iQ r (l[k]'(by omega))):=by
      unfold Ih
      rw [Ko];rfl
     by_cases ho:iQ r (l[k]'(by omega))=true
     ·refine ⟨.inl (k:Int),dK ?_,.inl ⟨⟨k,rfl⟩,E2.2 ⟨_,m5 hx,ho⟩⟩⟩
      unfold bT
      simp only [hd,if_true,aW hx,i9,hm,ho]
     ·have ho':iQ r (l[k]'(by omega))=false:=by simpa using ho
      rw [iY (s':=((k+1:Nat):Int))]
      ·refine ih (k+1) (by omega) fun y hy=>?_
       rw [G5,hx] at hy
       rcases q9.1 hy with hy | hy
       ·exact hb y hy
       ·simp at hy;rw [hy];exact ho'
      ·unfold bT
       simp only [hd,if_true,aW hx,i9,hm,ho',j9,if_false]
       rw [bA (by omega) (by omega)];rfl
  exact go l.length 0 (by omega) (by simp)
 obtain ⟨z,hz,h⟩:=key
 unfold Fx eI eW
 rw [hz]
 rcases h with ⟨⟨k,rfl⟩,h⟩ | ⟨rfl,h⟩
 ·rw [h]
  have:decide ((k:Int) ≥ 0)=true:=by simp
  simp only [i9,this]
 ·rw [h];rfl
def CP (s:aT) (y:aF):Bool:=!(decide (pS y ⟨0,0,s.dQ,s.cE⟩)) || (s.bO.any (iQ y) || s.Used.any (iQ y))
theorem A1 (l:aV) (x:aS) (hx:x.aD.length≤12) (h1:l.aT.bO.length≤4) (h2:l.aT.Used.length≤48):aM (uP l x) 0=some (if x.aD.any (CP l.aT) then .inl () else .inr ()):=by
 refine gD x.aD (uP l x) (fun k=>(k:Int)) _ _ _ rfl (fun k y hy=>?_) ?_
 ·have hk:=(m9.1 hy).1
  unfold uP CP
  have hd:decide ((k:Int)<(x.aD.length:Int))=true:=by simp;omega
  simp only [hd,if_true,aW hy,i9,Nf,Xm y (show l.aT.bO.length≤1000 by omega),Xm y (show l.aT.Used.length≤1000 by omega)]
  rw [bA (a:=(k:Int)) (by omega) (by omega)]
  cases decide (pS y ⟨0,0,l.aT.dQ,l.aT.cE⟩) <;> cases l.aT.bO.any (iQ y) <;> cases l.aT.Used.any (iQ y) <;> rfl
 ·simp [uP]
theorem XJ (l:aV) (hp:l.aB.length≤8) (hx:∀ x ∈ l.aB,x.aD.length≤12) (h1:l.aT.bO.length≤4) (h2:l.aT.Used.length≤48):aM (uQ l) 0=some (if l.aB.any (fun x=>x.aD.any (CP l.aT)) then .inl () else .inr ()):=by
 refine gD l.aB (uQ l) (fun k=>(k:Int)) _ _ _ rfl (fun k y hy=>?_) ?_
 ·have hk:=(m9.1 hy).1
  unfold uQ
  have hd:decide ((k:Int)<(l.aB.length:Int))=true:=by simp;omega
  simp only [hd,if_true,aW hy,i9,A1 l y (hx y (m5 hy)) h1 h2]
  rw [bA (a:=(k:Int)) (by omega) (by omega)]
  cases y.aD.any (CP l.aT) <;> rfl
 ·simp [uQ]
def Yz (x y:aS):Bool:=x.aD.any fun r=>y.aD.any (iQ r)
def HB (l:List aS) (k:Nat):Bool:=match l[k]? with
 | some x=>(l.take k).any (Yz x)
 | none=>false
theorem A2 (x y:aS) (hx:x.aD.length≤12) (hy:y.aD.length≤12):aM (uR x y) 0=some (if Yz x y then .inl () else .inr ()):=by
 refine gD x.aD (uR x y) (fun k=>(k:Int)) _ _ _ rfl (fun k r hr=>?_) ?_
 ·have hk:=(m9.1 hr).1
  unfold uR
  have hd:decide ((k:Int)<(x.aD.length:Int))=true:=by simp;omega
  simp only [hd,if_true,aW hr,i9,Xm r (show y.aD.length≤1000 by omega)]
  rw [bA (a:=(k:Int)) (by omega) (by omega)]
  rfl
 ·simp [uR]
theorem XK (l:aV) (hp:l.aB.length≤8) (hx:∀ x ∈ l.aB,x.aD.length≤12):aM (uT l) 0=some (if (s9 l.aB.length).any (HB l.aB) then .inl () else .inr ()):=by
 refine yB l.aB.length (uT l) (fun k=>(k:Int)) _ _ _ rfl (fun k hk=>?_) ?_
 ·have he:l.aB[k]?=some l.aB[k]:=by simp
  have hin:aM (uS l.aB[k] (l.aB.take k)) 0=some (if (l.aB.take k).any (Yz l.aB[k]) then .inl () else .inr ()):=by
   refine gD (l.aB.take k) (uS l.aB[k] (l.aB.take k)) (fun k=>(k:Int)) _ _ _ rfl (fun j y hy=>?_) ?_
   ·have hj:=(m9.1 hy).1
    have hjl:(l.aB.take k).length≤8:=by rw [List.length_take];omega
    unfold uS
    have hd:decide ((j:Int)<((l.aB.take k).length:Int))=true:=by rw [decide_eq_true_eq];omega
    simp only [hd,if_true,aW hy,i9,A2 _ y (hx _ (F9 hk)) (hx y (List.mem_of_mem_take (m5 hy)))]
    rw [bA (a:=(j:Int)) (by omega) (by omega)]
    cases Yz l.aB[k] y <;> rfl
   ·simp [uS]
  unfold uT HB
  have hd:decide ((k:Int)<(l.aB.length:Int))=true:=by simp;omega
  simp only [hd,if_true,aW he,he,i9,BC (S8 hk),hin]
  rw [bA (a:=(k:Int)) (by omega) (by omega)]
  cases (l.aB.take k).any (Yz l.aB[k]) <;> rfl
 ·simp [uT]
def PE (x:aS):Prop:=0<x.aD.length∧x.bQ.length≤12∧(∀ c ∈ x.bQ,(-4194304≤c.X∧c.X≤4194304∧-4194304≤c.Y∧c.Y≤4194304)∧(2≤c.W∧c.W≤2097152)∧2≤c.H∧c.H≤2097152)∧x.aD.length≤12
theorem Pa {x:aS} (hs:Sm x):∃ e,pQ x=some e∧(e=0→PE x):=by
 obtain ⟨⟨s1,t1⟩,⟨s2,t2⟩,s3,t3⟩:=hs
 have k1:aM (gI x) 0=some (if (x.aD.any fun x=>!decide (vR x)) then .inl () else .inr ()):=by
  refine gD x.aD (gI x) (fun k=>(k:Int)) _ _ _ rfl (fun k y hx=>?_) (by simp [gI])
  have hk:=aX hx
  unfold gI
  have h1:decide ((k:Int)<(x.aD.length:Int))=true:=by simp [hk]
  simp only [h1,if_true,aW hx,i9,iT,bG k (by omega)]
 unfold pQ
 rw [k1]
 cases (x.aD.any fun x=>!decide (vR x)) with
 | true=>exact ⟨1,rfl,fun h=>absurd h (by decide)⟩
 | false =>
 simp only [j9,if_false,i9]
 by_cases h0:(x.aD.length:Int)=0
 ·obtain ⟨z,hz,_,hv⟩:=tZ x
  exact ⟨z,by simp [h0,hz],fun q=>by have:=(hv q).n0;omega⟩
 have h0':((x.aD.length:Int)==0)=false:=by rw [beq_eq_false_iff_ne];exact h0
 have hr:x.aD[0]?=some (x.aD[0]'(by omega)):=l8 (by omega)
 have i0:idx x.aD 0=some (x.aD[0]'(by omega)):=aW (k:=0) hr
 simp only [h0',j9,if_false,i0,i9,Zs x s1,back_eq s1,back_eq s2,back_eq s3]
 generalize uJ x.aD (x.aD[0]'(by omega)).X=a
 generalize uK x.aD (x.aD[0]'(by omega)).Y=b
 obtain ⟨z,hz,hg,_⟩:=tZ (aS.mk x.Name x.bH x.cX x.cU (x.aD.map (bkR a b)) (x.bQ.map (bkR a b)) (x.Forms.map (bkR a b)))
 refine ⟨z,by simp only [hz,i9],fun q=>?_⟩
 obtain ⟨_,_,_,g⟩:=hg q
 have g1:=g.n1;have g2:=g.n2
 simp only [p9] at g1 g2
 refine ⟨by omega,g2,fun c hc=>?_,g1⟩
 obtain ⟨k,hk⟩:=u6.1 hc
 have hkl:=aX hk
 have hk2:(x.bQ.map (bkR a b)++x.Forms.map (bkR a b))[k]?=some (bkR a b c):=by rw [List.getElem?_append_left (by simpa using hkl),List.getElem?_map,hk];rfl
 obtain ⟨y,y1,_,y3⟩:=g.ho k (aX hk2)
 have w1:=g.v y (List.mem_append_right _ (m5 y1))
 have w2:=y3 (by simpa using hkl)
 rw [hk2] at y1;injection y1 with y1;subst y1
 rw [I7,beq_eq_false_iff_ne,beq_eq_false_iff_ne] at w2
 unfold bkR at w1 w2
 by_cases far:c.X < -4194304∨c.X>4194304∨c.Y < -4194304∨c.Y>4194304
 ·rw [if_pos far] at w1
  have:=w1.2.2.1
  exact absurd this (by show ¬ (0:Int)<0;omega)
 ·rw [if_neg far] at w1 w2
  obtain ⟨a1,a2,a3,a4,a5,a6⟩:=w1
  simp only at a1 a2 a3 a4 a5 a6 w2
  exact ⟨by omega,by omega,by omega⟩
structure LV (l:aV):Prop where
 n:l.aB.length≤8
 sh:VS l.aT
 r12:∀ x ∈ l.aB,x.aD.length≤12
 pe:∀ x ∈ l.aB,PE x
 off:∀ x ∈ l.aB,∀ r ∈ x.aD,pS r ⟨0,0,l.aT.dQ,l.aT.cE⟩∧l.aT.bO.any (iQ r)=false∧l.aT.Used.any (iQ r)=false
 hit:∀ k,k<l.aB.length→HB l.aB k=false
theorem BK (l:aV) (hs:∀ x ∈ l.aB,Sm x):∃ b,mG l=some b∧(b=0→LV l):=by
 obtain ⟨c,c1,c2⟩:=Hq l.aT
 unfold mG
 rw [c1]
 simp only [i9]
 by_cases hc:c=0
 case neg =>
  have hb':(c != 0)=true:=by rw [bne_iff_ne];exact hc
  exact ⟨c,by simp [hb'],fun q=>absurd q hc⟩
 subst hc
 have vs:=c2 rfl
 have n1:=vs.n1;have n2:=vs.n2
 simp only [bne_self_eq_false,j9,if_false]
 by_cases h8:(l.aB.length:Int)>8
 ·exact ⟨4,by simp [h8],fun h=>absurd h (by decide)⟩
 have hp:l.aB.length≤8:=by omega
 simp only [h8,decide_false,j9,if_false]
 rcases Ss l.aB pQ (kV l) (fun x hx=>by obtain ⟨e,h,_⟩:=Pa (hs x hx);exact ⟨e,h⟩) (fun k x hx=>by
  have hk:=aX hx
  have hd:decide ((k:Int)<(l.aB.length:Int))=true:=by simp [hk]
  unfold kV
  simp only [hd,if_true,aW hx,i9,bG k (by omega)]) (by simp [kV]) with ⟨e,h1,h2⟩ | ⟨h1,h2⟩
 ·exact ⟨e,by rw [h2];rfl,fun h=>absurd h h1⟩
 have pe:∀ x ∈ l.aB,PE x:=fun x hx=>by
  obtain ⟨e,e1,e2⟩:=Pa (hs x hx)
  exact e2 (w7 (e1.symm.trans (h2 x hx)))
 have r12:=fun x hx=>(pe x hx).2.2.2
 simp only [h1,i9,XJ l hp r12 n1 n2,XK l hp r12]
 cases h3:l.aB.any (fun x=>x.aD.any (CP l.aT)) with
 | true=>exact ⟨13,rfl,fun h=>absurd h (by decide)⟩
 | false =>
 cases h6:(s9 l.aB.length).any (HB l.aB) with
 | true=>exact ⟨7,rfl,fun h=>absurd h (by decide)⟩
 | false =>
   refine ⟨0,rfl,fun _=>⟨hp,vs,r12,pe,fun x hx r hr=>?_,WM h6⟩⟩
   have q1:=s7.1 h3 x hx
   rw [U9,s7] at q1
   have q2:=q1 r hr
   unfold CP at q2
   simp only [F6,not_or,Bool.not_eq_true',Bool.not_eq_false,U9,decide_eq_true_eq] at q2
   exact q2
end Go.SM
end
