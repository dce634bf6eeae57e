/- What the functions compute, part 1. -/
import Derived.Test.YtgfjbgoehhnaeaaGreatVHC3
import Derived.Test.YtgfjbgoehhnaeaaGreatVHC4
import Derived.Lib.IndexMore
set_option linter.unusedVariables false
set_option linter.unusedSimpArgs false
set_option linter.unusedSectionVars false
noncomputable section
namespace Go.Cells
def Pa (f:Nat→Int):Nat→Int
 | 0=>0
 | n+1=>Pa f n+f n
def S (a b:Int) (f:Int→Int):Int:=Pa (fun k=>f (a+k)) (b-a).toNat
theorem Ka {f g:Nat→Int}:∀ {n:Nat},(∀ k,k<n→f k=g k)→Pa f n=Pa g n
 | 0,_=>rfl
 | n+1,h=>by simp only [Pa];rw [Ka fun k hk=>h k (by omega),h n (by omega)]
theorem Zc (f:Nat→Int) (m:Nat):∀ n,Pa f (m+n)=Pa f m+Pa (fun k=>f (m+k)) n
 | 0=>by simp [Pa]
 | n+1=>by rw [← Nat.add_assoc];simp only [Pa];rw [Zc f m n];omega
theorem Pd {a b:Int} (h:b≤a) (f:Int→Int):S a b f=0:=by
 unfold S;rw [show (b-a).toNat=0 from by omega];rfl
theorem Pc {a b:Int} {f g:Int→Int} (h:∀ x,a≤x→x<b→f x=g x):S a b f=S a b g:=
 Ka fun k hk=>h _ (by omega) (by omega)
theorem Ur {a m b:Int} (h1:a≤m) (h2:m≤b) (f:Int→Int):S a b f=S a m f+S m b f:=by
 unfold S
 rw [show (b-a).toNat=(m-a).toNat+(b-m).toNat from by omega,Zc]
 congr 1
 exact Ka fun k _=>by congr 1;omega
theorem QP (a:Int) (f:Int→Int):S a (a+1) f=f a:=by
 unfold S;rw [show (a+1-a).toNat=1 from by omega];simp [Pa]
theorem Us {a b:Int} (h:a≤b) (f:Int→Int):S a (b+1) f=S a b f+f b:=by
 rw [Ur h (by omega),QP]
theorem NY {a:Int} {P:Int→Prop} (h0:P a) (hs:∀ b,a≤b→P b→P (b+1)) (b:Int) (h:a≤b):P b:=by
 have:∀ n:Nat,P (a+n):=fun n=>by
  induction n with
  | zero=>simpa using h0
  | succ n ih=>have:=hs _ (by omega) ih;rwa [show a+((n+1:Nat):Int)=a+n+1 from by omega]
 have:=this (b-a).toNat
 rwa [show a+((b-a).toNat:Int)=b from by omega] at this
theorem QO {a b:Int} (f g:Int→Int):S a b (fun x=>f x+g x)=S a b f+S a b g:=by
 by_cases h:a≤b
 ·revert b
  intro b h
  refine NY (P:=fun b=>S a b (fun x=>f x+g x)=S a b f+S a b g) ?_ (fun b hb ih=>?_) b h
  ·simp [Pd]
  ·rw [Us hb,Us hb,Us hb,ih];omega
 ·simp [Pd (show b≤a by omega)]
theorem BL {a b:Int} (h:a≤b) {f:Int→Int} {c:Int} (hc:∀ x,a≤x→x<b→f x=c):S a b f=(b-a)*c:=by
 rw [Pc hc]
 refine NY (P:=fun b=>S a b (fun _=>c)=(b-a)*c) ?_ (fun b hb ih=>?_) b h
 ·simp [Pd]
 ·rw [Us hb,ih,show b+1-a=(b-a)+1 from by omega,Int.add_mul];omega
theorem Zh {a b:Int} {f:Int→Int} (hc:∀ x,a≤x→x<b→f x=0):S a b f=0:=by
 by_cases h:a≤b
 ·rw [BL h hc,Int.mul_zero]
 ·exact Pd (by omega) f
def sA {β:Type} (g:Int→β):List Int→Prop
 | []=>True
 | [_]=>True
 | x::y::t=>x<y∧(∀ z,x≤z→z<y→g z=g x)∧sA g (y::t)
def one (b:Bool):Int:=if b then 1 else 0
end Go.Cells
namespace Go.SM
open Go Go.VI
structure aM where
 X:Int
 Y:Int
 W:Int
 H:Int
def aO (x:aM):List PV:=[(vI x.X),(vI x.Y),(vI x.W),(vI x.H)]
abbrev bD (l:List aM):PV:=.sl (List.map aO l)
abbrev yD (e:Nat) (l:List aM):HO:=.row e [] (List.map aO l)
structure bA where
 Name:ByteArray
 cA:ByteArray
 iS:Int
 iT:Int
 gY:Int
 dK:Int
 cG:(List aM)
 Used:(List aM)
def vA (x:bA):List PV:=[(vS x.Name),(vS x.cA),(vI x.iS),(vI x.iT),(vI x.gY),(vI x.dK),(.sl (List.map aO x.cG)),(.sl (List.map aO x.Used))]
structure aW where
 Name:ByteArray
 cA:ByteArray
 iS:Int
 iT:Int
 aD:(List aM)
 fD:(List aM)
 Forms:(List aM)
def bG (x:aW):List PV:=[(vS x.Name),(vS x.cA),(vI x.iS),(vI x.iT),(.sl (List.map aO x.aD)),(.sl (List.map aO x.fD)),(.sl (List.map aO x.Forms))]
abbrev cY (l:List aW):PV:=.sl (List.map bG l)
structure bB where
 bA:bA
 aB:(List aW)
def bE (x:bB):List PV:=[(vS x.bA.Name),(vS x.bA.cA),(vI x.bA.iS),(vI x.bA.iT),(vI x.bA.gY),(vI x.bA.dK),(.sl (List.map aO x.bA.cG)),(.sl (List.map aO x.bA.Used)),(.sl (List.map bG x.aB))]
structure aF where
 X1:Int
 Y1:Int
 X2:Int
 Y2:Int
def bJ (x:aF):List PV:=[(vI x.X1),(vI x.Y1),(vI x.X2),(vI x.Y2)]
abbrev Nc (l:List aF):PV:=.sl (List.map bJ l)
abbrev aY (e:Nat) (l:List aF):HO:=.row e [] (List.map bJ l)
structure aZ where
 Line:aF
 A:Int
 B:Int
def cQ (x:aZ):List PV:=[(vI x.Line.X1),(vI x.Line.Y1),(vI x.Line.X2),(vI x.Line.Y2),(vI x.A),(vI x.B)]
abbrev iN (l:List aZ):PV:=.sl (List.map cQ l)
abbrev fM (e:Nat) (l:List aZ):HO:=.row e [] (List.map cQ l)
structure lX where
structure Kg where
 X:Int
 Y:Int
structure oY where
 aW:Int
 pR:Int
 bN:Int
 kV:Kg
def rL (x:oY):List PV:=[(vI x.aW),(vI x.pR),(vI x.bN),(vI x.kV.X),(vI x.kV.Y)]
abbrev NK (l:List oY):PV:=.sl (List.map rL l)
structure bP where
 Cut:(List Bool)
 fX:(List (List Bool))
 tK:(List Bool)
 bN:(List Int)
 fE:(List Bool)
def bL (x:bP):List PV:=[(.sl (List.map cB x.Cut)),(.sl (List.map (cS cB) x.fX)),(.sl (List.map cB x.tK)),(.sl (List.map cI x.bN)),(.sl (List.map cB x.fE))]
structure aU where
 At:aF
 Low:Int
 sC:Int
structure bF where
 Cut:(List Bool)
 fX:(List (List Bool))
 tK:(List Bool)
 bN:(List Int)
 fE:(List Bool)
structure uS where
 x:(List Int)
 y:(List Int)
def Py (x:aM):Prop:=R64 x.X∧R64 x.Y∧R64 x.W∧R64 x.H
def Es (x:aM):Prop:=R64 x.X∧R64 x.Y∧R64 x.W∧R64 x.H
def Wp (x:bA):Prop:=RT x.Name∧RT x.cA∧R64 x.iS∧R64 x.iT∧R64 x.gY∧R64 x.dK∧(RLN 1048576 Es) x.cG∧(RLN 1048576 Es) x.Used
def Px (x:aW):Prop:=RT x.Name∧RT x.cA∧R64 x.iS∧R64 x.iT∧(RLN 1048576 Es) x.aD∧(RLN 1048576 Es) x.fD∧(RLN 1048576 Es) x.Forms
def Er (x:bB):Prop:=Wp x.bA∧(RLN 1048576 Px) x.aB
def strings_Contains (s sub:ByteArray):Option Bool:=if s.size<4294967281 then some (Go.Lib.contains s.data.toList sub.data.toList) else none
def nS (s0:ByteArray):Int→Option (Int ⊕ (Unit ⊕ Unit)):=fun a1 =>
 if (decide (a1<(s0.size:Int))) then ((Hj s0 a1).bind fun a0=>(if (decide (a0<97)) then (if (decide (a0<48)) then (some true) else (some (decide (a0>57)))) else (if (decide (a0>122)) then (if (decide (a0<48)) then (some true) else (some (decide (a0>57)))) else (some false))).bind fun a2=>if a2 then (some (.inr (.inl ()))) else (some (.inl (aJ a1 1)))) else (some (.inr (.inr (()))))
def jK (s0:ByteArray):Option (Bool):=
 (if (decide ((s0.size:Int)<1)) then (some true) else (if (decide ((s0.size:Int)>8)) then (some true) else ((Hj s0 0).bind fun x9=>if (decide (x9<97)) then (some true) else ((Hj s0 0).bind fun a3=>some (decide (a3>122)))))).bind fun j8=>if j8 then (some false) else ((aH (nS s0) 0).bind fun a4=>match a4 with | .inl a5=>some false | .inr a6=>(Oz (ByteArray.mk #[32]) s0).bind fun a1=>(Oz a1 (ByteArray.mk #[32])).bind fun a2=>(strings_Contains (ByteArray.mk #[32,112,97,114,116,32,109,97,116,101,114,105,97,108,32,98,97,115,101,32,102,108,97,110,103,101,32,104,111,108,101,32,99,117,116,32,102,111,114,109,32,101,97,115,116,32,115,111,117,116,104,32,119,101,115,116,32,110,111,114,116,104,32,117,112,32,100,111,119,110,32,99,108,111,115,101,117,112,32,99,108,111,115,101,100,111,119,110,32,103,114,97,105,110,32,120,32,121,32,116,97,98,108,101,32,97,110,103,108,101,32,109,97,99,104,105,110,101,32,112,117,110,99,104,32,100,105,101,32,102,114,97,109,101,32,103,97,117,103,101,32,112,111,108,121,32,115,116,97,116,105,111,110,115,32]) a2).bind fun a0=>some (!a0))
def wN (n:Int) (lo:Int) (hi:Int):Option (Bool):=
 (if (decide (lo≤n)) then (some (decide (n≤hi))) else (some false)).bind fun j1=>some j1
def Ap (gauge:Int) (grain:Int):Option (Bool):=
 ((wN gauge 1 60).bind fun r4=>if r4 then ((wN grain 0 2).bind fun r5=>some r5) else (some false)).bind fun j3=>some j3
def Bv (n:Int) (most:Int):Option (Bool):=
 (if (decide ((pV most)≤n)) then (some (decide (n≤most))) else (some false)).bind fun j1=>some j1
def oZ (x0:Int) (w:Int):Option (Bool):=
 ((Bv x0 1048576).bind fun r3=>if r3 then (if (decide (w>0)) then (if (decide (w≤2097152)) then (some (decide ((aJ x0 w)≤1048576))) else (some false)) else (some false)) else (some false)).bind fun j2=>some j2
def dM (r0:aM):Option (Bool):=
 ((oZ r0.X r0.W).bind fun r4=>if r4 then ((oZ r0.Y r0.H).bind fun r5=>some r5) else (some false)).bind fun j3=>some j3
def tY (l:(List aM)):Int→Option (Int ⊕ (Unit ⊕ Unit)):=fun a0 =>
 if (decide (a0<(l.length:Int))) then ((idx l a0).bind fun a2=>(dM a2).bind fun a1=>if (!a1) then (some (.inr (.inl ()))) else (some (.inl (aJ a0 1)))) else (some (.inr (.inr (()))))
def sX (l:(List aM)):Option (Bool):=
 (aH (tY l) 0).bind fun a0=>match a0 with | .inl a1=>some false | .inr a2=>some true
def Fj (s0:bA) (margin:Int):Option (aM×Bool):=
 (dM (aM.mk margin margin (aK s0.gY (kM 2 margin)) (aK s0.dK (kM 2 margin)))).bind fun r3=>some ((aM.mk margin margin (aK s0.gY (kM 2 margin)) (aK s0.dK (kM 2 margin))),r3)
def uR (a:aM) (b:aM):Option (Bool):=
 ((dM a).bind fun r4=>if r4 then ((dM b).bind fun r5=>if r5 then (if (decide (b.X≤a.X)) then (if (decide ((aJ a.X a.W)≤(aJ b.X b.W))) then (if (decide (b.Y≤a.Y)) then (some (decide ((aJ a.Y a.H)≤(aJ b.Y b.H)))) else (some false)) else (some false)) else (some false)) else (some false)) else (some false)).bind fun j3=>some j3
def kA (a4:aM×Bool) (a1:(List aM)):Int→Option (Int ⊕ (Unit ⊕ Unit)):=fun a0 =>
 if (decide (a0<(a1.length:Int))) then ((idx a1 a0).bind fun a3=>(uR a3 a4.1).bind fun a2=>if (!a2) then (some (.inr (.inl ()))) else (some (.inl (aJ a0 1)))) else (some (.inr (.inr (()))))
def kB (s0:bA) (a5:aM×Bool):Int→Option (Int ⊕ (Unit ⊕ Unit)):=fun a0 =>
 if (decide (a0<([s0.cG,s0.Used].length:Int))) then ((idx [s0.cG,s0.Used] a0).bind fun a1=>(aH (kA a5 a1) 0).bind fun a2=>match a2 with | .inl a3=>some (.inr (.inl ())) | .inr a4=>some (.inl (aJ a0 1))) else (some (.inr (.inr (()))))
def iR (s0:bA):Option (Int):=
 ((jK s0.Name).bind fun a7=>if a7 then ((jK s0.cA).bind fun a8=>some (!a8)) else (some true)).bind fun a1=>if a1 then (some 2) else (((Ap s0.iS s0.iT).bind fun a9=>if a9 then ((wN s0.gY 1 1048576).bind fun b0=>if b0 then ((wN s0.dK 1 1048576).bind fun b1=>some (!b1)) else (some true)) else (some true)).bind fun a2=>if a2 then (some 1) else ((if (decide ((s0.cG.length:Int)>4)) then (some true) else (some (decide ((s0.Used.length:Int)>48)))).bind fun a3=>if a3 then (some 4) else (((sX s0.cG).bind fun b2=>if b2 then ((sX s0.Used).bind fun b3=>some (!b3)) else (some true)).bind fun a4=>if a4 then (some 1) else ((Fj s0 0).bind fun b4=>(aH (kB s0 b4) 0).bind fun a0=>match a0 with | .inl a5=>some 13 | .inr a6=>some 0))))
def tG (a:aM) (b:aM):Option (Bool):=
 ((dM a).bind fun r4=>if r4 then ((dM b).bind fun r5=>if r5 then (if (decide (a.X<(aJ b.X b.W))) then (if (decide (b.X<(aJ a.X a.W))) then (if (decide (a.Y<(aJ b.Y b.H))) then (some (decide (b.Y<(aJ a.Y a.H)))) else (some false)) else (some false)) else (some false)) else (some false)) else (some false)).bind fun j3=>some j3
def Aq (a:aM) (b:aM):Option (Bool):=
 (if ((aK (iL (aJ a.X a.W) (aJ b.X b.W)) (imax a.X b.X))==0) then (if (decide ((aK (iL (aJ a.Y a.H) (aJ b.Y b.H)) (imax a.Y b.Y))>0)) then (some true) else (if ((aK (iL (aJ a.Y a.H) (aJ b.Y b.H)) (imax a.Y b.Y))==0) then (some (decide ((aK (iL (aJ a.X a.W) (aJ b.X b.W)) (imax a.X b.X))>0))) else (some false))) else (if ((aK (iL (aJ a.Y a.H) (aJ b.Y b.H)) (imax a.Y b.Y))==0) then (some (decide ((aK (iL (aJ a.X a.W) (aJ b.X b.W)) (imax a.X b.X))>0))) else (some false))).bind fun j1=>some j1
def lC (a1:Int×(List Bool)×(List Int)):((List Bool)×(List Int))→Option ((Int×(List Bool)×(List Int)) ⊕ ((List Bool)×(List Int))):=fun a0 =>
 some (.inl ((aJ a1.1 1),a0.1,a0.2))
def jJ (l:(List aM)) (a4:Int):(Int×(List Bool)×(List Int))→Option ((Int×(List Bool)×(List Int)) ⊕ ((List Bool)×(List Int))):=fun a0 =>
 if (decide (a0.1<(l.length:Int))) then (((idx a0.2.1 a0.1).bind fun a5=>if a5 then (some false) else ((idx l a4).bind fun a6=>(idx l a0.1).bind fun a7=>(Aq a6 a7).bind fun a3=>some a3)).bind fun a1=>if a1 then ((idx a0.2.1 a0.1).bind fun a8=>(app a0.2.2 [a0.1]).bind fun a2=>lC a0 ((List.set a0.2.1 (Int.toNat a0.1) true),a2)) else (lC a0 (a0.2.1,a0.2.2))) else (some (.inr (a0.2.1,a0.2.2)))
def lD (l:(List aM)):((List Bool)×(List Int))→Option (((List Bool)×(List Int)) ⊕ (List Bool)):=fun a0 =>
 if (decide ((a0.2.length:Int)>0)) then ((idx a0.2 0).bind fun a2=>if (decide (1≤a0.2.length)) then ((aH (jJ l a2) (0,a0.1,(List.drop 1 a0.2))).bind fun a1=>some (.inl (a1.1,a1.2))) else none) else (some (.inr a0.1))
def nR (a1:(List Bool)):Int→Option (Int ⊕ (Unit ⊕ Unit)):=fun a0 =>
 if (decide (a0<(a1.length:Int))) then ((idx a1 a0).bind fun a2=>if (!a2) then (some (.inr (.inl ()))) else (some (.inl (aJ a0 1)))) else (some (.inr (.inr (()))))
def vO (l:(List aM)):Option (Bool):=
 (mk (l.length:Int) false).bind fun l2=>(idx l2 0).bind fun x4=>(aH (lD l) ((List.set l2 (Int.toNat 0) true),[0])).bind fun a0=>(aH (nR a0) 0).bind fun a1=>match a1 with | .inl a2=>some false | .inr a3=>some true
def pP (h0:aM) (l:(List aM)):Int→Option (Int ⊕ (Unit ⊕ Unit)):=fun a1 =>
 if (decide (a1<(l.length:Int))) then ((idx l a1).bind fun a0=>(if (decide (h0.X>a0.X)) then (if (decide (h0.Y>a0.Y)) then (if (decide ((aJ h0.X h0.W)<(aJ a0.X a0.W))) then (some (decide ((aJ h0.Y h0.H)<(aJ a0.Y a0.H)))) else (some false)) else (some false)) else (some false)).bind fun a2=>if a2 then (some (.inr (.inl ()))) else (some (.inl (aJ a1 1)))) else (some (.inr (.inr (()))))
def tX (h0:aM) (l:(List aM)):Option (Bool):=
 (aH (pP h0 l) 0).bind fun a0=>match a0 with | .inl a1=>some true | .inr a2=>some false
def xA (a:aM) (b:aM):Option (Int):=
 ((dM a).bind fun r9=>if r9 then ((dM b).bind fun a0=>some (!a0)) else (some true)).bind fun j8=>if j8 then (some 0) else (some (imax (imax (imax (imax 0 (aK (aK b.X a.X) a.W)) (aK (aK a.X b.X) b.W)) (aK (aK b.Y a.Y) a.H)) (aK (aK a.Y b.Y) b.H)))
def sU (x0:aW) (l6:(List aM)):Int→Option (Int ⊕ (Unit ⊕ Unit)):=fun a0 =>
 if (decide (a0<(l6.length:Int))) then ((idx l6 a0).bind fun a1=>(if (decide (a0<(x0.fD.length:Int))) then (if (a1.W==1) then (some true) else (if (a1.H==1) then (some true) else ((tX a1 x0.aD).bind fun a3=>some (!a3)))) else ((tX a1 x0.aD).bind fun a4=>some (!a4))).bind fun a2=>if a2 then (some (.inr (.inl ()))) else (some (.inl (aJ a0 1)))) else (some (.inr (.inr (()))))
def sV (a3:aM) (a1:(List aM)):Int→Option (Int ⊕ (Unit ⊕ Unit)):=fun a0 =>
 if (decide (a0<(a1.length:Int))) then ((idx a1 a0).bind fun a4=>(xA a3 a4).bind fun a2=>if (a2==0) then (some (.inr (.inl ()))) else (some (.inl (aJ a0 1)))) else (some (.inr (.inr (()))))
def sW (l6:(List aM)):Int→Option (Int ⊕ (Unit ⊕ Unit)):=fun a0 =>
 if (decide (a0<(l6.length:Int))) then ((idx l6 a0).bind fun a2=>(slc l6 0 a0).bind fun a1=>(aH (sV a2 a1) 0).bind fun a3=>match a3 with | .inl a4=>some (.inr (.inl ())) | .inr a5=>some (.inl (aJ a0 1))) else (some (.inr (.inr (()))))
def Gz (x0:aW):Option (Int):=
 (app [] x0.fD).bind fun l5=>(app l5 x0.Forms).bind fun l6=>(aH (sU x0 l6) 0).bind fun a4=>match a4 with | .inl a5=>some 13 | .inr a1=>(aH (sW l6) 0).bind fun a0=>match a0 with | .inl a2=>some 7 | .inr a3=>some 0
def cJ (x0:aW):(Int×Int×Int)→Option ((Int×Int×Int) ⊕ (Int×Int)):=fun a0 =>
 if (decide (a0.2.2<(x0.aD.length:Int))) then ((idx x0.aD a0.2.2).bind fun a1=>some (.inl ((iL a0.1 a1.X),(iL a0.2.1 a1.Y),(aJ a0.2.2 1)))) else (some (.inr (a0.1,a0.2.1)))
def jY (a3:aM) (a1:(List aM)):Int→Option (Int ⊕ (Unit ⊕ Unit)):=fun a0 =>
 if (decide (a0<(a1.length:Int))) then ((idx a1 a0).bind fun a4=>(tG a3 a4).bind fun a2=>if a2 then (some (.inr (.inl ()))) else (some (.inl (aJ a0 1)))) else (some (.inr (.inr (()))))
def jZ (x0:aW):Int→Option (Int ⊕ (Unit ⊕ Unit)):=fun a0 =>
 if (decide (a0<(x0.aD.length:Int))) then ((idx x0.aD a0).bind fun a2=>(slc x0.aD 0 a0).bind fun a1=>(aH (jY a2 a1) 0).bind fun a3=>match a3 with | .inl a4=>some (.inr (.inl ())) | .inr a5=>some (.inl (aJ a0 1))) else (some (.inr (.inr (()))))
def dZ (x0:aW):Option (Int):=
 ((jK x0.Name).bind fun b0=>if b0 then ((jK x0.cA).bind fun b1=>some (!b1)) else (some true)).bind fun a4=>if a4 then (some 2) else ((Ap x0.iS x0.iT).bind fun b2=>if (!b2) then (some 1) else ((if (decide ((x0.aD.length:Int)>12)) then (some true) else (if (decide ((x0.fD.length:Int)>12)) then (some true) else (some (decide ((x0.Forms.length:Int)>12))))).bind fun a5=>if a5 then (some 4) else ((if ((x0.aD.length:Int)==0) then (some true) else ((sX x0.aD).bind fun b3=>if b3 then ((sX x0.fD).bind fun b4=>if b4 then ((sX x0.Forms).bind fun b5=>some (!b5)) else (some true)) else (some true))).bind fun a6=>if a6 then (some 1) else ((idx x0.aD 0).bind fun b6=>(idx x0.aD 0).bind fun b7=>(aH (cJ x0) (b6.X,b7.Y,0)).bind fun a3=>(if (a3.1 != 0) then (some true) else (some (a3.2 != 0))).bind fun a9=>if a9 then (some 1) else ((aH (jZ x0) 0).bind fun a2=>match a2 with | .inl a7=>some 7 | .inr a8=>(vO x0.aD).bind fun a0=>if (!a0) then (some 6) else ((Gz x0).bind fun a1=>some a1))))))
def jR (s:(List aM)):Option (List aM):=app [] s
def Bk (a1:Int×(List aM)):(List aM)→Option (Int×(List aM) ⊕ (List aM)):=fun a0 =>
 some (.inl ((aJ a1.1 1),a0))
def xL (x1:Int) (y:Int) (r2:(List aM)):Int×(List aM)→Option (Int×(List aM) ⊕ (List aM)):=fun a0 =>
 if (decide (a0.1<(r2.length:Int))) then ((idx a0.2 a0.1).bind fun a3=>(if (decide (a3.X<(-4194304))) then (some true) else (if (decide (a3.X>4194304)) then (some true) else (if (decide (a3.Y<(-4194304))) then (some true) else (some (decide (a3.Y>4194304)))))).bind fun a5=>if a5 then ((a0.2[Int.toNat a0.1]?).bind fun a4=>Bk a0 (List.set a0.2 (Int.toNat a0.1) (aM.mk a4.X a4.Y 0 a4.H))) else ((a0.2[Int.toNat a0.1]?).bind fun a2=>(a0.2[Int.toNat a0.1]?).bind fun a1=>Bk a0 (List.set (List.set a0.2 (Int.toNat a0.1) (aM.mk (aK a2.X x1) a1.Y a1.W a1.H)) (Int.toNat a0.1) (aM.mk (((aM.mk (aK a2.X x1) a1.Y a1.W a1.H)).X) (aK (((aM.mk (aK a2.X x1) a1.Y a1.W a1.H)).Y) y) (((aM.mk (aK a2.X x1) a1.Y a1.W a1.H)).W) (((aM.mk (aK a2.X x1) a1.Y a1.W a1.H)).H))))) else (some (.inr a0.2))
def Df (l:(List aM)) (x1:Int) (y:Int):Option ((List aM)):=
 (jR l).bind fun r2=>(aH (xL x1 y r2) (0,r2)).bind fun a0=>some a0
def nI (x0:aW):Int→Option (Int ⊕ (Unit ⊕ Unit)):=fun a0 =>
 if (decide (a0<(x0.aD.length:Int))) then ((idx x0.aD a0).bind fun a2=>(dM a2).bind fun a1=>if (!a1) then (some (.inr (.inl ()))) else (some (.inl (aJ a0 1)))) else (some (.inr (.inr (()))))
def eW (x0:aW):(Int×Int×Int)→Option ((Int×Int×Int) ⊕ (Int×Int)):=fun a0 =>
 if (decide (a0.2.2<(x0.aD.length:Int))) then ((idx x0.aD a0.2.2).bind fun a1=>some (.inl ((iL a0.1 a1.X),(iL a0.2.1 a1.Y),(aJ a0.2.2 1)))) else (some (.inr (a0.1,a0.2.1)))
def mH (x0:aW):Option (Int):=
 (aH (nI x0) 0).bind fun a6=>match a6 with | .inl a9=>some 1 | .inr b0=>if ((x0.aD.length:Int)==0) then ((dZ x0).bind fun a5=>some a5) else ((idx x0.aD 0).bind fun a7=>(idx x0.aD 0).bind fun a8=>(aH (eW x0) (a7.X,a8.Y,0)).bind fun a0=>(Df x0.aD a0.1 a0.2).bind fun a1=>(Df x0.fD a0.1 a0.2).bind fun a2=>(Df x0.Forms a0.1 a0.2).bind fun a3=>(dZ (aW.mk x0.Name x0.cA x0.iS x0.iT a1 a2 a3)).bind fun a4=>some a4)
def Bq (x0:aM) (a_0:Int) (a_1:Int) (a_2:Int) (a_3:Int):Option (Bool):=
 (tG (aM.mk a_0 a_1 a_2 a_3) x0).bind fun r2=>some r2
def bI (s0:(List aM)) (f_0_0:Int) (f_0_1:Int) (f_0_2:Int) (f_0_3:Int):Int→Option (Int ⊕ (Int ⊕ Unit)):=fun a0 =>
 if (decide (a0<(s0.length:Int))) then ((idx s0 a0).bind fun a2=>(Bq a2 f_0_0 f_0_1 f_0_2 f_0_3).bind fun a1=>if a1 then (some (.inr (.inl a0))) else (some (.inl (aJ a0 1)))) else (some (.inr (.inr (()))))
def dH (s0:(List aM)) (f_0_0:Int) (f_0_1:Int) (f_0_2:Int) (f_0_3:Int):Option (Int):=
 (aH (bI s0 f_0_0 f_0_1 f_0_2 f_0_3) 0).bind fun a1=>match a1 with | .inl a0=>some a0 | .inr a2=>some (-1)
def cU (s0:(List aM)) (f_0_0:Int) (f_0_1:Int) (f_0_2:Int) (f_0_3:Int):Option (Bool):=
 (dH s0 f_0_0 f_0_1 f_0_2 f_0_3).bind fun r2=>some (decide (r2 ≥ 0))
def zJ (r0:aM) (l:(List aM)):Option (Bool):=
 (cU l r0.X r0.Y r0.W r0.H).bind fun r2=>some r2
def bZ (l:bB):Int→Option (Int ⊕ (Int ⊕ Unit)):=fun a0 =>
 if (decide (a0<(l.aB.length:Int))) then ((idx l.aB a0).bind fun a2=>(mH a2).bind fun a1=>if (a1 != 0) then (some (.inr (.inl a1))) else (some (.inl (aJ a0 1)))) else (some (.inr (.inr (()))))
def qG (l:bB) (a2:aW):Int→Option (Int ⊕ (Unit ⊕ Unit)):=fun a0 =>
 if (decide (a0<(a2.aD.length:Int))) then ((idx a2.aD a0).bind fun a1=>((uR a1 (aM.mk 0 0 l.bA.gY l.bA.dK)).bind fun a4=>if a4 then ((zJ a1 l.bA.cG).bind fun a5=>if a5 then (some true) else ((zJ a1 l.bA.Used).bind fun a6=>some a6)) else (some true)).bind fun a3=>if a3 then (some (.inr (.inl ()))) else (some (.inl (aJ a0 1)))) else (some (.inr (.inr (()))))
def qJ (l:bB):Int→Option (Int ⊕ (Unit ⊕ Unit)):=fun a0 =>
 if (decide (a0<(l.aB.length:Int))) then ((idx l.aB a0).bind fun a1=>(aH (qG l a1) 0).bind fun a2=>match a2 with | .inl a3=>some (.inr (.inl ())) | .inr a4=>some (.inl (aJ a0 1))) else (some (.inr (.inr (()))))
def qK (a1:aW) (a3:aW):Int→Option (Int ⊕ (Unit ⊕ Unit)):=fun a0 =>
 if (decide (a0<(a1.aD.length:Int))) then ((idx a1.aD a0).bind fun a4=>(zJ a4 a3.aD).bind fun a2=>if a2 then (some (.inr (.inl ()))) else (some (.inl (aJ a0 1)))) else (some (.inr (.inr (()))))
def qO (a2:aW) (a1:(List aW)):Int→Option (Int ⊕ (Unit ⊕ Unit)):=fun a0 =>
 if (decide (a0<(a1.length:Int))) then ((idx a1 a0).bind fun a3=>(aH (qK a2 a3) 0).bind fun a4=>match a4 with | .inl a5=>some (.inr (.inl ())) | .inr a6=>some (.inl (aJ a0 1))) else (some (.inr (.inr (()))))
def qQ (l:bB):Int→Option (Int ⊕ (Unit ⊕ Unit)):=fun a0 =>
 if (decide (a0<(l.aB.length:Int))) then ((idx l.aB a0).bind fun a2=>(slc l.aB 0 a0).bind fun a1=>(aH (qO a2 a1) 0).bind fun a3=>match a3 with | .inl a4=>some (.inr (.inl ())) | .inr a5=>some (.inl (aJ a0 1))) else (some (.inr (.inr (()))))
def pU (l:bB):Option (Int):=
 (iR l.bA).bind fun r4=>if (r4 != 0) then (some r4) else (if (decide ((l.aB.length:Int)>8)) then (some 4) else ((aH (bZ l) 0).bind fun a7=>match a7 with | .inl a4=>some a4 | .inr a8=>(aH (qJ l) 0).bind fun a1=>match a1 with | .inl a5=>some 13 | .inr a6=>(aH (qQ l) 0).bind fun a0=>match a0 with | .inl a2=>some 7 | .inr a3=>some 0))
def vQ (n:Int) (lo:Int) (hi:Int):Option (Bool):=
 (if (decide (n ≥ lo)) then (some (decide (n≤hi))) else (some false)).bind fun j1=>some j1
def uC:Option (ByteArray):=
 some (ByteArray.mk #[32,112,97,114,116,32,109,97,116,101,114,105,97,108,32,98,97,115,101,32,102,108,97,110,103,101,32,104,111,108,101,32,99,117,116,32,102,111,114,109,32,101,97,115,116,32,115,111,117,116,104,32,119,101,115,116,32,110,111,114,116,104,32,117,112,32,100,111,119,110,32,99,108,111,115,101,117,112,32,99,108,111,115,101,100,111,119,110,32,103,114,97,105,110,32,120,32,121,32,116,97,98,108,101,32,97,110,103,108,101,32,109,97,99,104,105,110,101,32,112,117,110,99,104,32,100,105,101,32,102,114,97,109,101,32,103,97,117,103,101,32,112,111,108,121,32,115,116,97,116,105,111,110,115,32])
def gQ (text:ByteArray) (s1:ByteArray):Int→Option (Int ⊕ (Unit ⊕ Unit)):=fun a0 =>
 if (decide ((aJ (aJ a0 (s1.size:Int)) 2)≤(text.size:Int))) then ((QJ text a0 (aJ (aJ a0 (s1.size:Int)) 2)).bind fun a1=>(Oz (ByteArray.mk #[32]) s1).bind fun a2=>(Oz a2 (ByteArray.mk #[32])).bind fun a3=>if (a1.toList==a3.toList) then (some (.inr (.inl ()))) else (some (.inl (aJ a0 1)))) else (some (.inr (.inr (()))))
def pY (text:ByteArray) (s1:ByteArray):Option (Bool):=
 (aH (gQ text s1) 0).bind fun a0=>match a0 with | .inl a1=>some true | .inr a2=>some false
def fI (s0:ByteArray):Int→Option (Int ⊕ (Unit ⊕ Unit)):=fun a0 =>
 if (decide (a0<(s0.size:Int))) then (((Hj s0 a0).bind fun a3=>if (decide (a3 ≥ 97)) then ((Hj s0 a0).bind fun a4=>some (decide (a4≤122))) else (some false)).bind fun a1=>(if a1 then (some false) else ((Hj s0 a0).bind fun a5=>if (decide (a5<48)) then (some true) else ((Hj s0 a0).bind fun a6=>some (decide (a6>57))))).bind fun a2=>if a2 then (some (.inr (.inl ()))) else (some (.inl (aJ a0 1)))) else (some (.inr (.inr (()))))
def fB (s0:ByteArray):Option (Bool):=
 ((vQ (s0.size:Int) 1 8).bind fun a6=>if a6 then ((Hj s0 0).bind fun a7=>if (decide (a7<97)) then (some true) else ((Hj s0 0).bind fun a8=>some (decide (a8>122)))) else (some true)).bind fun a3=>if a3 then (some false) else ((aH (fI s0) 0).bind fun a2=>match a2 with | .inl a4=>some false | .inr a5=>(uC).bind fun a0=>(pY a0 s0).bind fun a1=>some (!a1))
def mV (name:ByteArray) (material:ByteArray) (gauge:Int) (grain:Int):Option (Int):=
 ((fB name).bind fun r9=>if r9 then ((fB material).bind fun a1=>some (!a1)) else (some true)).bind fun j8=>if j8 then (some 2) else ((if (decide (gauge<1)) then (some true) else (if (decide (gauge>60)) then (some true) else (if (decide (grain<0)) then (some true) else (some (decide (grain>2)))))).bind fun a0=>if a0 then (some 1) else (some 0))
def iX (n:Int):Option (Bool):=
 (if (decide (n ≥ (-1048576))) then (some (decide (n≤1048576))) else (some false)).bind fun j1=>some j1
def cK (r0:aM):Option (Bool):=
 ((iX r0.X).bind fun r9=>if r9 then ((iX r0.Y).bind fun a1=>if a1 then (if (decide (r0.W<1)) then (some true) else (if (decide (r0.H<1)) then (some true) else (if (decide (r0.W>2097152)) then (some true) else (some (decide (r0.H>2097152)))))) else (some true)) else (some true)).bind fun j8=>if j8 then (some false) else (((iX (aJ r0.X r0.W)).bind fun a2=>if a2 then ((iX (aJ r0.Y r0.H)).bind fun a3=>some a3) else (some false)).bind fun a0=>some a0)
def gR (l:(List aM)):Int→Option (Int ⊕ (Unit ⊕ Unit)):=fun a0 =>
 if (decide (a0<(l.length:Int))) then ((idx l a0).bind fun a2=>(cK a2).bind fun a1=>if (!a1) then (some (.inr (.inl ()))) else (some (.inl (aJ a0 1)))) else (some (.inr (.inr (()))))
def dQ (l:(List aM)):Option (Bool):=
 (aH (gR l) 0).bind fun a0=>match a0 with | .inl a1=>some false | .inr a2=>some true
def jM (a:aM) (b:aM):Option (Bool):=
 ((cK a).bind fun r4=>if r4 then ((cK b).bind fun r5=>if r5 then (if (decide (a.X ≥ b.X)) then (if (decide (a.Y ≥ b.Y)) then (if (decide ((aJ a.X a.W)≤(aJ b.X b.W))) then (some (decide ((aJ a.Y a.H)≤(aJ b.Y b.H)))) else (some false)) else (some false)) else (some false)) else (some false)) else (some false)).bind fun j3=>some j3
def gS (s0:bA) (l:(List aM)):Int→Option (Int ⊕ (Unit ⊕ Unit)):=fun a0 =>
 if (decide (a0<(l.length:Int))) then ((idx l a0).bind fun a2=>(jM a2 (aM.mk 0 0 s0.gY s0.dK)).bind fun a1=>if (!a1) then (some (.inr (.inl ()))) else (some (.inl (aJ a0 1)))) else (some (.inr (.inr (()))))
def lR (s0:bA) (l:(List aM)):Option (Bool):=
 (aH (gS s0 l) 0).bind fun a0=>match a0 with | .inl a1=>some false | .inr a2=>some true
def lA (s0:bA):Option (Int):=
 (mV s0.Name s0.cA s0.iS s0.iT).bind fun r2=>if (r2 != 0) then (some r2) else ((if (decide (s0.gY<1)) then (some true) else (if (decide (s0.gY>1048576)) then (some true) else (if (decide (s0.dK<1)) then (some true) else (some (decide (s0.dK>1048576)))))).bind fun j4=>if j4 then (some 1) else ((if (decide ((s0.cG.length:Int)>4)) then (some true) else (some (decide ((s0.Used.length:Int)>48)))).bind fun j6=>if j6 then (some 4) else (((dQ s0.cG).bind fun a2=>if a2 then ((dQ s0.Used).bind fun a3=>some (!a3)) else (some true)).bind fun a0=>if a0 then (some 1) else (((lR s0 s0.cG).bind fun a4=>if a4 then ((lR s0 s0.Used).bind fun a5=>some (!a5)) else (some true)).bind fun a1=>if a1 then (some 13) else (some 0)))))
def oJ (a1:Int×(List aM)) (a2:aM):(Int×Int)→Option (Int×(List aM) ⊕ (List aM)):=fun a0 =>
 (app a1.2 [(aM.mk a0.1 a0.2 a2.W a2.H)]).bind fun a3=>some (.inl ((aJ a1.1 1),a3))
def kO (l:(List aM)) (x1:Int) (y:Int):Int×(List aM)→Option (Int×(List aM) ⊕ (List aM)):=fun a1 =>
 if (decide (a1.1<(l.length:Int))) then ((idx l a1.1).bind fun a0=>(if (decide (a0.X>(-2147483648))) then (if (decide (a0.X<2147483648)) then (if (decide (a0.Y>(-2147483648))) then (some (decide (a0.Y<2147483648))) else (some false)) else (some false)) else (some false)).bind fun a2=>if a2 then (oJ a1 a0 ((aJ a0.X x1),(aJ a0.Y y))) else (oJ a1 a0 (a0.X,a0.Y))) else (some (.inr a1.2))
def kD (l:(List aM)) (x1:Int) (y:Int):Option ((List aM)):=
 (aH (kO l x1 y) (0,[])).bind fun a0=>some a0
def xT (x0:aW) (dx:Int) (dy:Int):Option (aW):=
 (kD x0.aD dx dy).bind fun r2=>(kD x0.fD dx dy).bind fun r4=>(kD x0.Forms dx dy).bind fun r6=>some (aW.mk x0.Name x0.cA x0.iS x0.iT r2 r4 r6)
def lI (x0:aW):(Int×Int×Int)→Option ((Int×Int×Int) ⊕ (Int×Int)):=fun a0 =>
 if (decide (a0.2.2<(x0.aD.length:Int))) then ((idx x0.aD a0.2.2).bind fun a1=>(idx x0.aD a0.2.2).bind fun a2=>some (.inl ((iL a0.1 a1.X),(iL a0.2.1 a2.Y),(aJ a0.2.2 1)))) else (some (.inr (a0.1,a0.2.1)))
def tC (x0:aW):Option (aW×Bool×ByteArray×ByteArray×Int×Int×(List aM)×(List aM)×(List aM)):=
 (dQ x0.aD).bind fun r4=>if (!r4) then (some (x0,false,x0.Name,x0.cA,x0.iS,x0.iT,x0.aD,x0.fD,x0.Forms)) else (if ((x0.aD.length:Int)==0) then (some (x0,true,x0.Name,x0.cA,x0.iS,x0.iT,x0.aD,x0.fD,x0.Forms)) else ((idx x0.aD 0).bind fun x9=>(idx x0.aD 0).bind fun a2=>(aH (lI x0) (x9.X,a2.Y,1)).bind fun a1=>(xT x0 (pV a1.1) (pV a1.2)).bind fun a0=>some (a0,true,a0.Name,a0.cA,a0.iS,a0.iT,a0.aD,a0.fD,a0.Forms)))
def oK (l:(List aM)):(Int×Int×Int)→Option ((Int×Int×Int) ⊕ (Int×Int)):=fun a0 =>
 if (decide (a0.2.2<(l.length:Int))) then ((idx l a0.2.2).bind fun a1=>(idx l a0.2.2).bind fun a2=>some (.inl ((iL a0.1 a1.X),(iL a0.2.1 a2.Y),(aJ a0.2.2 1)))) else (some (.inr (a0.1,a0.2.1)))
def rK (l:(List aM)):Option (Int×Int):=
 (idx l 0).bind fun x5=>(idx l 0).bind fun x6=>(aH (oK l) (x5.X,x6.Y,1)).bind fun a0=>some (a0.1,a0.2)
def oG (a:aM) (b:aM):Option (Bool):=
 ((cK a).bind fun r4=>if r4 then ((cK b).bind fun r5=>if r5 then (if (decide (a.X<(aJ b.X b.W))) then (if (decide (b.X<(aJ a.X a.W))) then (if (decide (a.Y<(aJ b.Y b.H))) then (some (decide (b.Y<(aJ a.Y a.H)))) else (some false)) else (some false)) else (some false)) else (some false)) else (some false)).bind fun j3=>some j3
def iH (r0:aM) (l:(List aM)):Int→Option (Int ⊕ (Unit ⊕ Unit)):=fun a0 =>
 if (decide (a0<(l.length:Int))) then ((idx l a0).bind fun a2=>(oG r0 a2).bind fun a1=>if a1 then (some (.inr (.inl ()))) else (some (.inl (aJ a0 1)))) else (some (.inr (.inr (()))))
def iE (r0:aM) (l:(List aM)):Option (Bool):=
 (aH (iH r0 l) 0).bind fun a0=>match a0 with | .inl a1=>some true | .inr a2=>some false
def uD (a:aM) (b:aM):Option (Bool):=
 (if ((aK (iL (aJ a.X a.W) (aJ b.X b.W)) (imax a.X b.X))==0) then (if (decide ((aK (iL (aJ a.Y a.H) (aJ b.Y b.H)) (imax a.Y b.Y))>0)) then (some true) else (if ((aK (iL (aJ a.Y a.H) (aJ b.Y b.H)) (imax a.Y b.Y))==0) then (some (decide ((aK (iL (aJ a.X a.W) (aJ b.X b.W)) (imax a.X b.X))>0))) else (some false))) else (if ((aK (iL (aJ a.Y a.H) (aJ b.Y b.H)) (imax a.Y b.Y))==0) then (some (decide ((aK (iL (aJ a.X a.W) (aJ b.X b.W)) (imax a.X b.X))>0))) else (some false))).bind fun j1=>some j1
def fJ (a1:Int×(List Bool)×(List Int)):((List Bool)×(List Int))→Option ((Int×(List Bool)×(List Int)) ⊕ ((List Bool)×(List Int))):=fun a0 =>
 some (.inl ((aJ a1.1 1),a0.1,a0.2))
def cM (l:(List aM)) (a4:Int×(List Bool)×(List Int)):(Int×(List Bool)×(List Int))→Option ((Int×(List Bool)×(List Int)) ⊕ ((List Bool)×(List Int))):=fun a0 =>
 if (decide (a0.1<(l.length:Int))) then (((idx a0.2.1 a0.1).bind fun a5=>if a5 then (some false) else ((idx a0.2.2 a4.1).bind fun a6=>(idx l a6).bind fun a7=>(idx l a0.1).bind fun a8=>(uD a7 a8).bind fun a3=>some a3)).bind fun a1=>if a1 then ((idx a0.2.1 a0.1).bind fun a9=>(app a0.2.2 [a0.1]).bind fun a2=>fJ a0 ((List.set a0.2.1 (Int.toNat a0.1) true),a2)) else (fJ a0 (a0.2.1,a0.2.2))) else (some (.inr (a0.2.1,a0.2.2)))
def dJ (l:(List aM)):(Int×(List Bool)×(List Int))→Option ((Int×(List Bool)×(List Int)) ⊕ (List Int)):=fun a0 =>
 if (decide (a0.1<(a0.2.2.length:Int))) then ((aH (cM l a0) (0,a0.2.1,a0.2.2)).bind fun a1=>some (.inl ((aJ a0.1 1),a1.1,a1.2))) else (some (.inr a0.2.2))
def nA (l:(List aM)):Option (Bool):=
 (mk (l.length:Int) false).bind fun l2=>(idx l2 0).bind fun x4=>(aH (dJ l) (0,(List.set l2 (Int.toNat 0) true),[0])).bind fun a0=>some ((a0.length:Int)==(l.length:Int))
def iW (r0:aM) (l:(List aM)):Int→Option (Int ⊕ (Unit ⊕ Unit)):=fun a0 =>
 if (decide (a0<(l.length:Int))) then (((idx l a0).bind fun a2=>if (decide (r0.X>a2.X)) then ((idx l a0).bind fun a3=>if (decide (r0.Y>a3.Y)) then ((idx l a0).bind fun a4=>(idx l a0).bind fun a5=>if (decide ((aJ r0.X r0.W)<(aJ a4.X a5.W))) then ((idx l a0).bind fun a6=>(idx l a0).bind fun a7=>some (decide ((aJ r0.Y r0.H)<(aJ a6.Y a7.H)))) else (some false)) else (some false)) else (some false)).bind fun a1=>if a1 then (some (.inr (.inl ()))) else (some (.inl (aJ a0 1)))) else (some (.inr (.inr (()))))
def tB (r0:aM) (l:(List aM)):Option (Bool):=
 (aH (iW r0 l) 0).bind fun a0=>match a0 with | .inl a1=>some true | .inr a2=>some false
def rI (a:aM) (b:aM):Option (Int):=
 ((cK a).bind fun r9=>if r9 then ((cK b).bind fun a0=>some (!a0)) else (some true)).bind fun j8=>if j8 then (some 0) else (some (imax (imax (imax 0 (aK (aK a.X b.X) b.W)) (aK (aK b.X a.X) a.W)) (imax (imax 0 (aK (aK a.Y b.Y) b.H)) (aK (aK b.Y a.Y) a.H))))
def dU (x0:aW):Int→Option (Int ⊕ (Unit ⊕ Unit)):=fun a0 =>
 if (decide (a0<(x0.aD.length:Int))) then ((idx x0.aD a0).bind fun a3=>(slc x0.aD 0 a0).bind fun a1=>(iE a3 a1).bind fun a2=>if a2 then (some (.inr (.inl ()))) else (some (.inl (aJ a0 1)))) else (some (.inr (.inr (()))))
def dV (x0:aW) (a1:(List aM)):Int→Option (Int ⊕ (Unit ⊕ Unit)):=fun a0 =>
 if (decide (a0<(a1.length:Int))) then (((idx a1 a0).bind fun a4=>(tB a4 x0.aD).bind fun a3=>if a3 then (if (decide (a0<(x0.fD.length:Int))) then ((idx a1 a0).bind fun a5=>if (a5.W==1) then (some true) else ((idx a1 a0).bind fun a6=>some (a6.H==1))) else (some false)) else (some true)).bind fun a2=>if a2 then (some (.inr (.inl ()))) else (some (.inl (aJ a0 1)))) else (some (.inr (.inr (()))))
def dW (a1:(List aM)) (a2:Int):Int→Option (Int ⊕ (Unit ⊕ Unit)):=fun a0 =>
 if (decide (a0<a2)) then ((idx a1 a2).bind fun a4=>(idx a1 a0).bind fun a5=>(rI a4 a5).bind fun a3=>if (a3==0) then (some (.inr (.inl ()))) else (some (.inl (aJ a0 1)))) else (some (.inr (.inr (()))))
def dY (a1:(List aM)):Int→Option (Int ⊕ (Unit ⊕ Unit)):=fun a0 =>
 if (decide (a0<(a1.length:Int))) then ((aH (dW a1 a0) 0).bind fun a2=>match a2 with | .inl a3=>some (.inr (.inl ())) | .inr a4=>some (.inl (aJ a0 1))) else (some (.inr (.inr (()))))
def dB (x0:aW):Option (Int):=
 (mV x0.Name x0.cA x0.iS x0.iT).bind fun r2=>if (r2 != 0) then (some r2) else ((if (decide ((x0.aD.length:Int)>12)) then (some true) else (if (decide ((x0.fD.length:Int)>12)) then (some true) else (some (decide ((x0.Forms.length:Int)>12))))).bind fun j4=>if j4 then (some 4) else ((if ((x0.aD.length:Int)==0) then (some true) else ((dQ x0.aD).bind fun b5=>if b5 then ((dQ x0.fD).bind fun b6=>if b6 then ((dQ x0.Forms).bind fun b7=>some (!b7)) else (some true)) else (some true))).bind fun a9=>if a9 then (some 1) else ((rK x0.aD).bind fun a6=>(if (a6.1 != 0) then (some true) else (some (a6.2 != 0))).bind fun b0=>if b0 then (some 1) else ((aH (dU x0) 0).bind fun a3=>match a3 with | .inl a7=>some 7 | .inr a8=>(nA x0.aD).bind fun a2=>if (!a2) then (some 6) else ((app [] x0.fD).bind fun a1=>(app a1 x0.Forms).bind fun a0=>(aH (dV x0 a0) 0).bind fun a4=>match a4 with | .inl b1=>some 13 | .inr b2=>(aH (dY a0) 0).bind fun a5=>match a5 with | .inl b3=>some 7 | .inr b4=>some 0)))))
def bV (l:bB):Int→Option (Int ⊕ (Int ⊕ Unit)):=fun a1 =>
 if (decide (a1<(l.aB.length:Int))) then ((idx l.aB a1).bind fun a3=>(tC a3).bind fun a0=>if (!a0.2.1) then (some (.inr (.inl 1))) else ((dB (aW.mk a0.1.Name a0.1.cA a0.1.iS a0.1.iT a0.1.aD a0.1.fD a0.1.Forms)).bind fun a2=>if (a2 != 0) then (some (.inr (.inl a2))) else (some (.inl (aJ a1 1))))) else (some (.inr (.inr (()))))
def fR (l:bB) (a1:aW):Int→Option (Int ⊕ (Unit ⊕ Unit)):=fun a0 =>
 if (decide (a0<(a1.aD.length:Int))) then (((idx a1.aD a0).bind fun a6=>(jM a6 (aM.mk 0 0 l.bA.gY l.bA.dK)).bind fun a3=>if a3 then ((idx a1.aD a0).bind fun a7=>(iE a7 l.bA.cG).bind fun a4=>if a4 then (some true) else ((idx a1.aD a0).bind fun a8=>(iE a8 l.bA.Used).bind fun a5=>some a5)) else (some true)).bind fun a2=>if a2 then (some (.inr (.inl ()))) else (some (.inl (aJ a0 1)))) else (some (.inr (.inr (()))))
def fS (l:bB):Int→Option (Int ⊕ (Unit ⊕ Unit)):=fun a0 =>
 if (decide (a0<(l.aB.length:Int))) then ((idx l.aB a0).bind fun a1=>(aH (fR l a1) 0).bind fun a2=>match a2 with | .inl a3=>some (.inr (.inl ())) | .inr a4=>some (.inl (aJ a0 1))) else (some (.inr (.inr (()))))
def fT (l:bB) (a1:Int) (a3:Int):Int→Option (Int ⊕ (Unit ⊕ Unit)):=fun a0 =>
 (idx l.aB a1).bind fun a4=>if (decide (a0<(a4.aD.length:Int))) then ((idx l.aB a1).bind fun a5=>(idx a5.aD a0).bind fun a6=>(idx l.aB a3).bind fun a7=>(iE a6 a7.aD).bind fun a2=>if a2 then (some (.inr (.inl ()))) else (some (.inl (aJ a0 1)))) else (some (.inr (.inr (()))))
def fU (l:bB) (a1:Int):Int→Option (Int ⊕ (Unit ⊕ Unit)):=fun a0 =>
 if (decide (a0<a1)) then ((aH (fT l a1 a0) 0).bind fun a2=>match a2 with | .inl a3=>some (.inr (.inl ())) | .inr a4=>some (.inl (aJ a0 1))) else (some (.inr (.inr (()))))
def fV (l:bB):Int→Option (Int ⊕ (Unit ⊕ Unit)):=fun a0 =>
 if (decide (a0<(l.aB.length:Int))) then ((aH (fU l a0) 0).bind fun a1=>match a1 with | .inl a2=>some (.inr (.inl ())) | .inr a3=>some (.inl (aJ a0 1))) else (some (.inr (.inr (()))))
def iI (l:bB):Option (Int):=
 (lA l.bA).bind fun r2=>if (r2 != 0) then (some r2) else (if (decide ((l.aB.length:Int)>8)) then (some 4) else ((aH (bV l) 0).bind fun a7=>match a7 with | .inl a6=>some a6 | .inr a8=>(aH (fS l) 0).bind fun a0=>match a0 with | .inl a2=>some 13 | .inr a3=>(aH (fV l) 0).bind fun a1=>match a1 with | .inl a4=>some 7 | .inr a5=>some 0))
def wb (m n:Int):Bool:=decide (-m≤n)&&decide (n≤m)
theorem Cw {m n:Int}:wb m n=true↔-m≤n∧n≤m:=by unfold wb;simp only [Bool.and_eq_true,decide_eq_true_eq]
theorem GA (n m:Int) (h : -1000000000≤m∧m≤1000000000):Bv n m=some (wb m n):=by
 unfold Bv wb
 rw [Vo (by omega) (by omega)]
 by_cases h1 : -m≤n <;> simp [h1]
def vR (r:aM):Prop:=(-1048576≤r.X∧r.X≤1048576)∧(-1048576≤r.Y∧r.Y≤1048576)∧0<r.W∧0<r.H∧r.X+r.W≤1048576∧r.Y+r.H≤1048576
instance (r:aM):Decidable (vR r):=by unfold vR;infer_instance
theorem NN (x w:Int):oZ x w=some (decide ((-1048576≤x∧x≤1048576)∧0<w∧x+w≤1048576)):=by
 unfold oZ
 simp only [GA _ 1048576 (by omega),Option.bind_some]
 by_cases h1:wb 1048576 x=true
 ·have h1':=Cw.1 h1
  by_cases h2:0<w
  ·by_cases h3:w≤2097152
   ·rw [aP (by omega) (by omega)]
    simp [h1,h2,h3,h1']
   ·have:¬ x+w≤1048576:=by omega
    simp [h1,h2,h3,this]
  ·simp [h1,h2]
 ·have h1':¬ (-1048576≤x∧x≤1048576):=fun q=>h1 (Cw.2 q)
  simp [h1];intro a b;exact absurd ⟨a,b⟩ h1'
theorem pT (r:aM):dM r=some (decide (vR r)):=by
 unfold dM
 simp only [NN,Option.bind_some]
 by_cases h1:(-1048576≤r.X∧r.X≤1048576)∧0<r.W∧r.X+r.W≤1048576
 ·by_cases h2:(-1048576≤r.Y∧r.Y≤1048576)∧0<r.H∧r.Y+r.H≤1048576
  ·have:vR r:=by unfold vR;omega
   simp [h1,h2,this]
  ·have:¬ vR r:=by unfold vR;omega
   simp only [h1,h2,this,decide_true,decide_false,and_self];rfl
 ·have:¬ vR r:=by unfold vR;omega
  simp only [h1,this,decide_false];rfl
def Ak (a b:aM):Prop:=vR a∧vR b∧b.X≤a.X∧a.X+a.W≤b.X+b.W∧b.Y≤a.Y∧a.Y+a.H≤b.Y+b.H
instance (a b:aM):Decidable (Ak a b):=by unfold Ak;infer_instance
theorem Tg (a b:aM):uR a b=some (decide (Ak a b)):=by
 unfold uR Ak
 simp only [pT,Option.bind_some]
 by_cases h1:vR a
 ·by_cases h2:vR b
  ·have h1':=h1;have h2':=h2
   unfold vR at h1' h2'
   rw [aP (by omega) (by omega),aP (by omega) (by omega),aP (by omega) (by omega),aP (by omega) (by omega)]
   by_cases h3:b.X≤a.X <;> by_cases h4:a.X+a.W≤b.X+b.W <;> by_cases h5:b.Y≤a.Y <;> simp [h1,h2,h3,h4,h5]
  ·simp [h1,h2]
 ·simp [h1]
theorem MU (n:Int):iX n=some (wb 1048576 n):=by
 unfold iX wb
 by_cases h1 : -1048576≤n <;> simp [h1]
theorem Kf (r:aM):cK r=some (decide (vR r)):=by
 unfold cK
 simp only [MU,Option.bind_some]
 by_cases h1:wb 1048576 r.X=true
 ·by_cases h2 : wb 1048576 r.Y=true
  ·have h1':=Cw.1 h1
   have h2':=Cw.1 h2
   by_cases h3:r.W<1
   ·have:¬ vR r:=by unfold vR;omega
    simp [h1,h2,h3,this]
   ·by_cases h4:r.H<1
    ·have:¬ vR r:=by unfold vR;omega
     simp [h1,h2,h3,h4,this]
    ·by_cases h5:r.W>2097152
     ·have:¬ vR r:=by unfold vR;omega
      simp [h1,h2,h3,h4,h5,this]
     ·by_cases h6:r.H>2097152
      ·have:¬ vR r:=by unfold vR;omega
       simp [h1,h2,h3,h4,h5,h6,this]
      ·rw [aP (by omega) (by omega),aP (by omega) (by omega)]
       simp only [h1,h2,h3,h4,h5,h6,if_true,decide_false,Bool.false_eq_true,if_false,Option.bind_some]
       by_cases h7:wb 1048576 (r.X+r.W)=true
       ·have h7':=Cw.1 h7
        by_cases h8:wb 1048576 (r.Y+r.H)=true
        ·have h8':=Cw.1 h8
         have:vR r:=by unfold vR;omega
         simp [h7,h8,this]
        ·have h8':¬ (-1048576≤r.Y+r.H∧r.Y+r.H≤1048576):=fun q=>h8 (Cw.2 q)
         have:¬ vR r:=by unfold vR;omega
         simp [h7,h8,this]
       ·have h7':¬ (-1048576≤r.X+r.W∧r.X+r.W≤1048576):=fun q=>h7 (Cw.2 q)
        have:¬ vR r:=by unfold vR;omega
        simp [h7,this]
  ·have h2':¬ (-1048576≤r.Y∧r.Y≤1048576):=fun q=>h2 (Cw.2 q)
   have:¬ vR r:=fun q=>h2' q.2.1
   simp [h1,h2,this]
 ·have h1':¬ (-1048576≤r.X∧r.X≤1048576):=fun q=>h1 (Cw.2 q)
  have:¬ vR r:=fun q=>h1' q.1
  simp [h1,this]
theorem Ti (a b:aM):jM a b=some (decide (Ak a b)):=by
 unfold jM Ak
 simp only [Kf,Option.bind_some]
 by_cases h1:vR a
 ·by_cases h2:vR b
  ·have h1':=h1;have h2':=h2
   unfold vR at h1' h2'
   rw [aP (by omega) (by omega),aP (by omega) (by omega),aP (by omega) (by omega),aP (by omega) (by omega)]
   by_cases h3:b.X≤a.X <;> by_cases h4:a.X+a.W≤b.X+b.W <;> by_cases h5:b.Y≤a.Y <;> simp [h1,h2,h3,h4,h5]
  ·simp [h1,h2]
 ·simp [h1]
theorem rA {S R:Type} (n:Nat) (body:S→Option (S ⊕ R)) (st:Nat→S) (q:Nat→Bool) (no yes:R) {s0:S} (h0:st 0=s0) (step:∀ k:Nat,k<n→body (st k)=if q k then some (.inr yes) else some (.inl (st (k+1)))) (fin:body (st n)=some (.inr no)) :
  aH body s0=some (if (List.range n).any q then yes else no):=by
 have key:∀ (m k:Nat),k+m=n→(∀ j,j<k→q j=false)→aH body (st k)=some (if (List.range n).any q then yes else no):=by
  intro m
  induction m with
  | zero =>
    intro k h hb
    obtain rfl:k=n:=by omega
    have:(List.range k).any q=false:=by
     rw [List.any_eq_false];intro j hj;rw [hb j (List.mem_range.1 hj)];simp
    rw [fQ fin,this];rfl
  | succ m ih =>
    intro k h hb
    have hs:=step k (by omega)
    by_cases hq:q k=true
    ·rw [if_pos hq] at hs
     have:(List.range n).any q=true:=List.any_eq_true.2 ⟨k,List.mem_range.2 (by omega),hq⟩
     rw [fQ hs,this];rfl
    ·rw [if_neg hq] at hs
     rw [jS hs]
     refine ih (k+1) (by omega) fun j hj=>?_
     by_cases hjk:j=k
     ·subst hjk;simpa using hq
     ·exact hb j (by omega)
 rw [← h0]
 exact key n 0 (by omega) (fun j hj=>absurd hj (by omega))
theorem DP {α:Type} (l:List α) (q:α→Bool) (p:Nat→Bool) (h:∀ k x,l[k]?=some x→p k=q x):(List.range l.length).any p=l.any q:=by
 rw [Bool.eq_iff_iff,List.any_eq_true,List.any_eq_true]
 constructor
 ·rintro ⟨k,hk,hp⟩
  have hk':=List.mem_range.1 hk
  have hx:l[k]?=some l[k]:=by simp
  exact ⟨l[k],List.getElem_mem hk',by rw [← h k _ hx];exact hp⟩
 ·rintro ⟨x,hx,hq⟩
  obtain ⟨k,hk⟩:=List.mem_iff_getElem?.1 hx
  exact ⟨k,List.mem_range.2 (List.getElem?_eq_some_iff.1 hk).1,by rw [h k _ hk];exact hq⟩
theorem eC {α S R:Type} (l:List α) (body:S→Option (S ⊕ R)) (st:Nat→S) (q:α→Bool) (no yes:R) {s0:S} (h0:st 0=s0) (step:∀ (k:Nat) (x:α),l[k]?=some x→body (st k)=if q x then some (.inr yes) else some (.inl (st (k+1)))) (fin:body (st l.length)=some (.inr no)) :
  aH body s0=some (if l.any q then yes else no):=by
 rw [rA l.length body st (fun k=>match l[k]? with | some x=>q x | none=>false) no yes h0 (fun k hk=>?_) fin]
 ·rw [DP l q _ (fun k x h=>by rw [h])]
 ·have hx:l[k]?=some l[k]:=by simp
  rw [step k _ hx,hx]
def ovR (a b:aM):Prop:=vR a∧vR b∧a.X<b.X+b.W∧b.X<a.X+a.W∧a.Y<b.Y+b.H∧b.Y<a.Y+a.H
instance (a b:aM):Decidable (ovR a b):=by unfold ovR;infer_instance
theorem Jf (a b:aM):tG a b=some (decide (ovR a b)):=by
 unfold tG ovR
 simp only [pT,Option.bind_some]
 by_cases h1:vR a
 ·by_cases h2:vR b
  ·have h1':=h1;have h2':=h2
   unfold vR at h1' h2'
   rw [aP (by omega) (by omega),aP (by omega) (by omega),aP (by omega) (by omega),aP (by omega) (by omega)]
   by_cases h3:a.X<b.X+b.W <;> by_cases h4:b.X<a.X+a.W <;> by_cases h5:a.Y<b.Y+b.H <;> simp [h1,h2,h3,h4,h5]
  ·simp [h1,h2]
 ·simp [h1]
theorem Wn (a b:aM):oG a b=some (decide (ovR a b)):=by
 unfold oG ovR
 simp only [Kf,Option.bind_some]
 by_cases h1:vR a
 ·by_cases h2:vR b
  ·have h1':=h1;have h2':=h2
   unfold vR at h1' h2'
   rw [aP (by omega) (by omega),aP (by omega) (by omega),aP (by omega) (by omega),aP (by omega) (by omega)]
   by_cases h3:a.X<b.X+b.W <;> by_cases h4:b.X<a.X+a.W <;> by_cases h5:a.Y<b.Y+b.H <;> simp [h1,h2,h3,h4,h5]
  ·simp [h1,h2]
 ·simp [h1]
def Xe (a b:aM):Int:=if vR a∧vR b then max 0 (max (max (b.X-(a.X+a.W)) (a.X-(b.X+b.W))) (max (b.Y-(a.Y+a.H)) (a.Y-(b.Y+b.H)))) else 0
theorem Ff (a b:Int):imax a b=max a b:=by unfold imax;split <;> omega
theorem Bz (a b:Int):iL a b=min a b:=by unfold iL;split <;> omega
theorem Wl (a b:aM):xA a b=some (Xe a b):=by
 unfold xA Xe
 simp only [pT,Option.bind_some]
 by_cases h1:vR a
 ·by_cases h2:vR b
  ·have h1':=h1;have h2':=h2
   unfold vR at h1' h2'
   rw [bC (a:=b.X) (by omega) (by omega),bC (a:=a.X) (by omega) (by omega),bC (a:=b.Y) (by omega) (by omega),bC (a:=a.Y) (by omega) (by omega),bC (by omega) (by omega),bC (by omega) (by omega),bC (by omega) (by omega),bC (by omega) (by omega)]
   simp only [h1,h2,Ff,decide_true,and_self,if_true,Bool.not_true,Option.bind_some,Bool.false_eq_true,if_false]
   congr 1
   omega
  ·simp [h1,h2]
 ·simp [h1]
theorem GD (a b:aM):rI a b=some (Xe a b):=by
 unfold rI Xe
 simp only [Kf,Option.bind_some]
 by_cases h1:vR a
 ·by_cases h2:vR b
  ·have h1':=h1;have h2':=h2
   unfold vR at h1' h2'
   rw [bC (a:=b.X) (by omega) (by omega),bC (a:=a.X) (by omega) (by omega),bC (a:=b.Y) (by omega) (by omega),bC (a:=a.Y) (by omega) (by omega),bC (by omega) (by omega),bC (by omega) (by omega),bC (by omega) (by omega),bC (by omega) (by omega)]
   simp only [h1,h2,Ff,decide_true,and_self,if_true,Bool.not_true,Option.bind_some,Bool.false_eq_true,if_false]
   congr 1
   omega
  ·simp [h1,h2]
 ·simp [h1]
end Go.SM
namespace Go.SM
open Go Go.VI Go.Cells
def inC (r:aM) (x y:Int):Bool:=(decide (r.X≤x)&&decide (x<r.X+r.W))&&(decide (r.Y≤y)&&decide (y<r.Y+r.H))
def cov (l:List aM) (x y:Int):Bool:=l.any fun r=>inC r x y
def Ep (l:List aM):Prop:=∀ r ∈ l,vR r
theorem Ca {r:aM} {x y:Int}:inC r x y=true↔r.X≤x∧x<r.X+r.W∧r.Y≤y∧y<r.Y+r.H:=by
 unfold inC;simp only [Bool.and_eq_true,decide_eq_true_eq];omega
theorem Bi {l:List aM} {x y:Int}:cov l x y=true↔∃ r ∈ l,inC r x y=true:=List.any_eq_true
theorem JQ {r s:aM} (hr:vR r) (hs:vR s):ovR r s↔∃ x y,inC r x y=true∧inC s x y=true:=by
 constructor
 ·rintro ⟨_,_,h1,h2,h3,h4⟩
  refine ⟨max r.X s.X,max r.Y s.Y, ?_, ?_⟩
  ·rw [Ca];unfold vR at *;omega
  ·rw [Ca];unfold vR at *;omega
 ·rintro ⟨x,y,h1,h2⟩
  rw [Ca] at h1 h2
  exact ⟨hr,hs,by omega,by omega,by omega,by omega⟩
end Go.SM
namespace Go.Cells
def Bc (s:Int→Int) (a b:Int):Prop:=a<b∧s a≠0∧(∀ z,a≤z→z<b→s z=s a)∧s (a-1)≠s a∧s b≠s a
def eF (s:Int→Int) (l:List (Int×Int)):Prop:=l.Pairwise (fun p q=>p.1<q.1)∧∀ a b,(a,b) ∈ l↔Bc s a b
theorem xJ {α:Type} {lt:α→α→Prop} (irr:∀ x,¬ lt x x) (tr:∀ x y z,lt x y→lt y z→lt x z):∀ {l l':List α},l.Pairwise lt→l'.Pairwise lt→(∀ x,x ∈ l↔x ∈ l')→l=l'
 | [],[],_,_,_=>rfl
 | [],y::t,_,_,h=>absurd ((h y).2 List.mem_cons_self) (by simp)
 | x::t,[],_,_,h=>absurd ((h x).1 List.mem_cons_self) (by simp)
 | x::t,y::t',h1,h2,h=>by
   rw [List.pairwise_cons] at h1 h2
   have e:x=y:=by
    rcases List.mem_cons.1 ((h x).1 List.mem_cons_self) with e | m
    ·exact e
    ·rcases List.mem_cons.1 ((h y).2 List.mem_cons_self) with e | m'
     ·exact e.symm
     ·exact absurd (tr _ _ _ (h1.1 y m') (h2.1 x m)) (irr x)
   subst e
   congr 1
   refine xJ irr tr h1.2 h2.2 fun z=>?_
   constructor
   ·intro m
    rcases List.mem_cons.1 ((h z).1 (List.mem_cons_of_mem _ m)) with e | m'
    ·subst e;exact absurd (h1.1 _ m) (irr _)
    ·exact m'
   ·intro m
    rcases List.mem_cons.1 ((h z).2 (List.mem_cons_of_mem _ m)) with e | m'
    ·subst e;exact absurd (h2.1 _ m) (irr _)
    ·exact m'
theorem Yq {s:Int→Int} {l l':List (Int×Int)} (h:eF s l) (h':eF s l'):l=l':=
 xJ (lt:=fun p q=>p.1<q.1) (fun _=>Int.lt_irrefl _) (fun _ _ _=>Int.lt_trans) h.1 h'.1 fun x=>(h.2 x.1 x.2).trans (h'.2 x.1 x.2).symm
def cut (s:Int→Int) (e:Int):Int→Int:=fun z=>if z<e then s z else 0
theorem Fa {s:Int→Int} {e z:Int} (h:z<e):cut s e z=s z:=if_pos h
theorem Qp {s:Int→Int} {e z:Int} (h:e≤z):cut s e z=0:=if_neg (by omega)
theorem pX {s:Int→Int} {e a b:Int}:Bc (cut s e) a b↔a<b∧b≤e∧s a≠0∧(∀ z,a≤z→z<b→s z=s a)∧s (a-1)≠s a∧(b=e∨s b≠s a):=by
 unfold Bc
 constructor
 ·rintro ⟨h1,h2,h3,h4,h5⟩
  have ha:a<e:=by
   rcases Int.lt_or_le a e with q | q
   ·exact q
   ·exact absurd (Qp q) h2
  have hb:b≤e:=by
   rcases Int.lt_or_le e b with q | q
   ·have:=h3 e (by omega) q
    rw [Qp (Int.le_refl e)] at this
    exact absurd this.symm h2
   ·exact q
  rw [Fa ha] at h2 h3 h4 h5
  rw [Fa (by omega)] at h4
  refine ⟨h1,hb,h2,fun z p q=>?_,h4, ?_⟩
  ·have:=h3 z p q;rwa [Fa (by omega)] at this
  ·rcases Int.lt_or_le b e with q | q
   ·right;rwa [Fa q] at h5
   ·left;omega
 ·rintro ⟨h1,hb,h2,h3,h4,h5⟩
  have ha:a<e:=by omega
  rw [Fa ha,Fa (show a-1<e by omega)]
  refine ⟨h1,h2,fun z p q=>?_,h4, ?_⟩
  ·rw [Fa (by omega)];exact h3 z p q
  ·rcases h5 with rfl | h5
   ·rw [Qp (Int.le_refl _)];exact fun q=>h2 q.symm
   ·rcases Int.lt_or_le b e with q | q
    ·rwa [Fa q]
    ·rw [Qp q];exact fun q=>h2 q.symm
theorem Ju {s:Int→Int} {e:Int} (h:∀ z,z<e→s z=0):eF (cut s e) []:=by
 refine ⟨.nil,fun a b=>⟨fun m=>by simp at m,fun m=>?_⟩⟩
 rw [pX] at m
 exact absurd (h a (by omega)) m.2.2.1
theorem Ma {s:Int→Int} {e:Int} {l:List (Int×Int)} (h:eF (cut s e) l) (h0:∀ z,e≤z→s z=0):eF s l:=by
 have:cut s e=s:=funext fun z=>by
  rcases Int.lt_or_le z e with q | q
  ·exact Fa q
  ·rw [Qp q,h0 z q]
 rwa [this] at h
theorem NJ {s:Int→Int} {e:Int} {l:List (Int×Int)} (h:eF (cut s e) l):∀ p ∈ l,p.1<e∧p.2≤e:=fun p hp=>by
 have:=pX.1 ((h.2 p.1 p.2).1 hp)
 omega
section
variable {s:Int→Int} {e e':Int} {l:List (Int×Int)} (h:eF (cut s e) l) (he:e<e') (hs:∀ z,e≤z→z<e'→s z=s e)
include h he hs
theorem Ij (h0:s e=0):eF (cut s e') l:=by
 refine ⟨h.1,fun a b=>(h.2 a b).trans ?_⟩
 rw [pX,pX]
 constructor
 ·rintro ⟨h1,hb,h2,h3,h4,h5⟩
  refine ⟨h1,by omega,h2,h3,h4, ?_⟩
  rcases h5 with rfl | h5
  ·right;rw [h0];exact fun q=>h2 q.symm
  ·exact .inr h5
 ·rintro ⟨h1,hb,h2,h3,h4,h5⟩
  have ha:a<e:=by
   rcases Int.lt_or_le a e with q | q
   ·exact q
   ·have:=hs a q (by omega);rw [h0] at this;exact absurd this h2
  have hbe:b≤e:=by
   rcases Int.lt_or_le e b with q | q
   ·have:=h3 e (by omega) q;rw [h0] at this;exact absurd this.symm h2
   ·exact q
  refine ⟨h1,hbe,h2,h3,h4, ?_⟩
  rcases h5 with rfl | h5
  ·left;omega
  ·exact .inr h5
theorem Sa (h0:s e≠0) (hd:s (e-1)≠s e):eF (cut s e') (l++[(e,e')]):=by
 have hl:=NJ h
 refine ⟨?_,fun a b=>?_⟩
 ·rw [List.pairwise_append]
  refine ⟨h.1,by simp,fun p hp q hq=>?_⟩
  simp at hq
  subst hq
  exact (hl p hp).1
 ·rw [List.mem_append,List.mem_singleton,h.2 a b,pX,pX]
  constructor
  ·rintro (⟨h1,hb,h2,h3,h4,h5⟩ | q)
   ·refine ⟨h1,by omega,h2,h3,h4, ?_⟩
    rcases h5 with rfl | h5
    ·right;rw [← h3 (b-1) (by omega) (by omega)];exact fun q=>hd q.symm
    ·exact .inr h5
   ·injection q with q1 q2
    subst q1 q2
    exact ⟨he,Int.le_refl _,h0,hs,hd,.inl rfl⟩
  ·rintro ⟨h1,hb,h2,h3,h4,h5⟩
   rcases Int.lt_or_le a e with q | q
   ·left
    have hbe:b≤e:=by
     rcases Int.lt_or_le e b with q' | q'
     ·have e1:=h3 e (by omega) q'
      have e2:=h3 (e-1) (by omega) (by omega)
      exact absurd (e2.trans e1.symm) hd
     ·exact q'
    refine ⟨h1,hbe,h2,h3,h4, ?_⟩
    rcases h5 with rfl | h5
    ·left;omega
    ·exact .inr h5
   ·right
    have ea:a=e:=by
     rcases Int.lt_or_le e a with q' | q'
     ·have e1:=hs a q (by omega)
      have e2:=hs (a-1) (by omega) (by omega)
      exact absurd (e2.trans e1.symm) h4
     ·omega
    subst ea
    have eb:b=e':=by
     rcases h5 with q' | q'
     ·exact q'
     ·rcases Int.lt_or_le b e' with w | w
      ·exact absurd (hs b (by omega) w) q'
      ·omega
    rw [eb]
theorem Nb {lo:Int} (hlo:∀ z,z<lo→s z=0) (h0:s e≠0) (hd:s (e-1)=s e):∃ l0 a,l=l0++[(a,e)]∧eF (cut s e') (l0++[(a,e')]):=by
 -- the run that ends at e
 have open_:∃ a,Bc (cut s e) a e:=by
  rcases Classical.em (∃ a,Bc (cut s e) a e) with q | q
  ·exact q
  ·exfalso
   have key:∀ n:Nat,∀ z,e-1-n≤z→z<e→s z=s e:=by
    intro n
    induction n with
    | zero => intro z p1 p2;obtain rfl:z = e-1 := by omega
              exact hd
    | succ n ih =>
      intro z p1 p2
      rcases Int.lt_or_le z (e-1-n) with w | w
      ·obtain rfl:z=e-1-n-1:=by omega
       rcases Classical.em (s (e-1-n-1)=s e) with r | r
       ·exact r
       ·refine absurd ⟨e-1-n, ?_⟩ q
        have ea:=ih (e-1-n) (by omega) (by omega)
        rw [pX]
        exact ⟨by omega,Int.le_refl _,by rw [ea];exact h0,fun z a b=>by rw [ea];exact ih z a b,by rw [ea];exact r,.inl rfl⟩
      ·exact ih z w p2
   have hz:=key (e-1-(min (lo-1) (e-1))).toNat (min (lo-1) (e-1)) (by omega) (by omega)
   rw [hlo _ (by omega)] at hz
   exact h0 hz.symm
 obtain ⟨a,ha⟩:=open_
 obtain ⟨a1,_,a2,a3,a4,_⟩:=pX.1 ha
 have sa:∀ z,a≤z→z<e'→s z=s a:=fun z p q=>by
  rcases Int.lt_or_le z e with w | w
  ·exact a3 z p w
  ·rw [hs z w q,← hd];exact a3 _ (by omega) (by omega)
 obtain ⟨l1,l2,rfl⟩:=List.append_of_mem ((h.2 a e).2 ha)
 have hp:=h.1
 rw [List.pairwise_append,List.pairwise_cons] at hp
 obtain ⟨p1,⟨p2,p3⟩,p4⟩:=hp
 have l2n:l2=[]:=by
  cases l2 with
  | nil=>rfl
  | cons q t =>
    exfalso
    have hq:=p2 q List.mem_cons_self
    have hr:=pX.1 ((h.2 q.1 q.2).1 (by simp))
    obtain ⟨r1,r2,r3,r4,r5,_⟩:=hr
    have hq:a<q.1:=hq
    refine r5 ?_
    rw [sa (q.1-1) (by omega) (by omega),sa q.1 (by omega) (by omega)]
 subst l2n
 refine ⟨l1,a,rfl, ?_,fun x y=>?_⟩
 ·rw [List.pairwise_append]
  refine ⟨p1,by simp,fun q hq r hr=>?_⟩
  simp at hr
  subst hr
  exact p4 q hq (a,e) List.mem_cons_self
 ·rw [List.mem_append,List.mem_singleton,pX]
  constructor
  ·rintro (m | m)
   ·have hx:x<a:=p4 (x,y) m (a,e) List.mem_cons_self
    obtain ⟨r1,r2,r3,r4,r5,r6⟩:=pX.1 ((h.2 x y).1 (List.mem_append_left _ m))
    have hy:y≤a:=by
     rcases Int.lt_or_le a y with q | q
     ·exact absurd ((r4 (a-1) (by omega) (by omega)).trans (r4 a (by omega) q).symm) a4
     ·exact q
    refine ⟨r1,by omega,r3,r4,r5, ?_⟩
    rcases r6 with r6 | r6
    ·omega
    ·exact .inr r6
   ·injection m with m1 m2
    subst m1 m2
    exact ⟨by omega,Int.le_refl _,a2,sa,a4,.inl rfl⟩
  ·rintro ⟨r1,r2,r3,r4,r5,r6⟩
   have hxe:x<e:=by
    rcases Int.lt_or_le x e with q | q
    ·exact q
    ·refine absurd ?_ r5
     rw [sa (x-1) (by omega) (by omega),sa x (by omega) (by omega)]
   rcases Int.lt_or_le y e with q | q
   ·left
    have:(x,y) ∈ l1++[(a,e)]:=(h.2 x y).2 (pX.2 ⟨r1,by omega,r3,r4,r5,by
     rcases r6 with r6 | r6
     ·omega
     ·exact .inr r6⟩)
    rcases List.mem_append.1 this with m | m
    ·exact m
    ·simp at m;omega
   ·right
    have ex:x=a:=by
     rcases Int.lt_or_le x a with w | w
     ·exact absurd ((r4 (a-1) (by omega) (by omega)).trans (r4 a (by omega) (by omega)).symm) a4
     ·rcases Int.lt_or_le a x with w' | w'
      ·refine absurd ?_ r5
       rw [sa (x-1) (by omega) (by omega),sa x (by omega) (by omega)]
      ·omega
    subst ex
    have ey:y=e':=by
     rcases r6 with r6 | r6
     ·exact r6
     ·rcases Int.lt_or_le y e' with w | w
      ·exact absurd (sa y (by omega) w) r6
      ·omega
    rw [ey]
end
theorem Wa {s:Int→Int} {lo hi:Int} (hlo:∀ z,z<lo→s z=0) (hhi:∀ z,hi≤z→s z=0) {x:Int} (hx:s x≠0):∃ a b,Bc s a b∧a≤x∧x<b:=by
 have left_:∀ n:Nat,(∃ a,a≤x∧(∀ z,a≤z→z≤x→s z=s x)∧s (a-1)≠s x)∨∀ z,x-n≤z→z≤x→s z=s x:=by
  intro n
  induction n with
  | zero=>right;intro z p q;rw [show z=x from by omega]
  | succ n ih =>
    rcases ih with q | q
    ·exact .inl q
    ·rcases Classical.em (s (x-n-1)=s x) with r | r
     ·right
      intro z p1 p2
      rcases Int.lt_or_le z (x-n) with w | w
      ·rw [show z=x-n-1 from by omega];exact r
      ·exact q z w p2
     ·left;exact ⟨x-n,by omega,fun z a b=>q z a b,r⟩
 have right_:∀ n:Nat,(∃ b,x<b∧(∀ z,x≤z→z<b→s z=s x)∧s b≠s x)∨∀ z,x≤z→z≤x+n→s z=s x:=by
  intro n
  induction n with
  | zero=>right;intro z p q;rw [show z=x from by omega]
  | succ n ih =>
    rcases ih with q | q
    ·exact .inl q
    ·rcases Classical.em (s (x+n+1)=s x) with r | r
     ·right
      intro z p1 p2
      rcases Int.lt_or_le (x+n) z with w | w
      ·rw [show z=x+n+1 from by omega];exact r
      ·exact q z p1 w
     ·left;exact ⟨x+n+1,by omega,fun z a b=>q z a (by omega),r⟩
 obtain ⟨a,a1,a2,a3⟩:∃ a,a≤x∧(∀ z,a≤z→z≤x→s z=s x)∧s (a-1)≠s x:=by
  rcases left_ (x-min (lo-1) x).toNat with q | q
  ·exact q
  ·have:=q (min (lo-1) x) (by omega) (by omega)
   rw [hlo _ (by omega)] at this
   exact absurd this.symm hx
 obtain ⟨b,b1,b2,b3⟩:∃ b,x<b∧(∀ z,x≤z→z<b→s z=s x)∧s b≠s x:=by
  rcases right_ (max hi x-x).toNat with q | q
  ·exact q
  ·have:=q (max hi x) (by omega) (by omega)
   rw [hhi _ (by omega)] at this
   exact absurd this.symm hx
 have ha:=a2 a (Int.le_refl a) a1
 refine ⟨a,b,⟨by omega,by rw [ha];exact hx,fun z p q=>?_,by rw [ha];exact a3,by rw [ha];exact b3⟩,a1,b1⟩
 rw [ha]
 rcases Int.lt_or_le z x with w | w
 ·exact a2 z p (by omega)
 ·exact b2 z w q
end Go.Cells
namespace Go.SM
open Go Go.VI Go.Cells
def xsL (l:List aM):List Int:=l.flatMap fun r=>[r.X,r.X+r.W]
def ysL (l:List aM):List Int:=l.flatMap fun r=>[r.Y,r.Y+r.H]
def jB (g l:List Int):Prop:=g.Pairwise (fun x y=>x<y)∧∀ x,x ∈ g↔x ∈ l
theorem Nt {g g' l:List Int} (h:jB g l) (h':jB g' l):g=g':=
 xJ (lt:=fun x y=>x<y) (fun _=>Int.lt_irrefl _) (fun _ _ _=>Int.lt_trans) h.1 h'.1 fun x=>(h.2 x).trans (h'.2 x).symm
theorem Fz (a b:List aM):xsL (a++b)=xsL a++xsL b:=by simp [xsL]
theorem Ga (a b:List aM):ysL (a++b)=ysL a++ysL b:=by simp [ysL]
theorem Cg (l:List aM):(xsL l).length=2*l.length:=by
 induction l with
 | nil=>rfl
 | cons r l ih=>rw [show xsL (r::l)=[r.X,r.X+r.W]++xsL l from rfl,List.length_append,ih];simp;omega
theorem Ch (l:List aM):(ysL l).length=2*l.length:=by
 induction l with
 | nil=>rfl
 | cons r l ih=>rw [show ysL (r::l)=[r.Y,r.Y+r.H]++ysL l from rfl,List.length_append,ih];simp;omega
theorem Nk {r:aM} (h:vR r):aJ r.X r.W=r.X+r.W∧aJ r.Y r.H=r.Y+r.H:=by
 unfold vR at h
 exact ⟨aP (by omega) (by omega),aP (by omega) (by omega)⟩
theorem eD {α:Type} {l:List α} {k:Nat} {x:α} (h:l[k]?=some x):l.take (k+1)=l.take k++[x]:=by rw [List.take_add_one,h];rfl
theorem Bx {α:Type} {l:List α} {k:Nat} {x d:α} (h:l[k]?=some x):l.getD k d=x:=by rw [List.getD_eq_getElem?_getD,h];rfl
def ps (g:Int→Int) (xs:List Int) (k:Nat):Int:=Pa (fun i=>(xs.getD (i+1) 0-xs.getD i 0)*g (xs.getD i 0)) k
theorem Bg {xs:List Int} (h:xs.Pairwise fun x y=>x<y) {i j:Nat} {x y:Int} (hij:i<j) (hx:xs[i]?=some x) (hy:xs[j]?=some y):x<y:=by
 obtain ⟨a,rfl⟩:=List.getElem?_eq_some_iff.1 hx
 obtain ⟨b,rfl⟩:=List.getElem?_eq_some_iff.1 hy
 exact List.pairwise_iff_getElem.1 h i j a b hij
structure Th (xs:List Int):Prop where
 asc:xs.Pairwise fun x y=>x<y
 within:∀ x ∈ xs,-1048576≤x∧x≤1048576
 len:xs.length≤1000
theorem Em {β:Type} {f:Int→β} {C:Int→Prop} (hf:∀ x z,x≤z→(∀ c,C c→(c≤z↔c≤x))→f z=f x):∀ g:List Int,g.Pairwise (fun x y=>x<y)→(∀ c,C c→(∀ x,g.head?=some x→c<x)∨c ∈ g)→sA f g
 | [],_,_=>trivial
 | [_],_,_=>trivial
 | x::y::t,h,hc=>by
   have hxy:=(List.pairwise_cons.1 h).1 y List.mem_cons_self
   have ht:=(List.pairwise_cons.1 h).2
   refine ⟨hxy,fun z h1 h2=>hf x z h1 fun c hC=>?_,Em hf (y::t) ht fun c hC=>?_⟩
   ·rcases hc c hC with q | q
    ·have:=q x rfl;omega
    ·rcases List.mem_cons.1 q with rfl | q
     ·omega
     ·rcases List.mem_cons.1 q with rfl | q
      ·omega
      ·have:=(List.pairwise_cons.1 ht).1 c q;omega
   ·rcases hc c hC with q | q
    ·left;intro w hw;simp at hw;subst hw;have:=q x rfl;omega
    ·rcases List.mem_cons.1 q with rfl | q
     ·left;intro w hw;simp at hw;subst hw;exact hxy
     ·exact .inr q
theorem Kc {l:List aM} {r:aM} (h:r ∈ l):r.X ∈ xsL l∧r.X+r.W ∈ xsL l:=by
 unfold xsL
 exact ⟨List.mem_flatMap.2 ⟨r,h,by simp⟩,List.mem_flatMap.2 ⟨r,h,by simp⟩⟩
theorem Hk {l:List aM} {r:aM} (h:r ∈ l):r.Y ∈ ysL l∧r.Y+r.H ∈ ysL l:=by
 unfold ysL
 exact ⟨List.mem_flatMap.2 ⟨r,h,by simp⟩,List.mem_flatMap.2 ⟨r,h,by simp⟩⟩
theorem Et {α:Type} {l:List α} {f g:α→Bool} (h:∀ x ∈ l,f x=g x):l.any f=l.any g:=by
 induction l with
 | nil=>rfl
 | cons x l ih=>simp only [List.any_cons];rw [h x List.mem_cons_self,ih fun y hy=>h y (List.mem_cons_of_mem _ hy)]
structure Has (xs ys:List Int) (l:List aM):Prop where
 X:Th xs
 Y:Th ys
 x:∀ c ∈ xsL l,c ∈ xs
 y:∀ c ∈ ysL l,c ∈ ys
 v:Ep l
section
variable {xs ys:List Int} {l:List aM} (h:Has xs ys l)
include h
theorem DE:sA (fun x=>cov l x) xs:=Em (C:=fun c=>c ∈ xsL l) (fun x z hxz hC=>funext fun y=>Et fun r hr=>by
 have h1:=hC _ (Kc hr).1
 have h2:=hC _ (Kc hr).2
 show ((decide (r.X≤z)&&decide (z<r.X+r.W))&&_)=((decide (r.X≤x)&&decide (x<r.X+r.W))&&_)
 rw [show decide (r.X≤z)=decide (r.X≤x) from by simp only [h1],show decide (z<r.X+r.W)=decide (x<r.X+r.W) from by
  have:(z<r.X+r.W)=(x<r.X+r.W):=by apply propext;omega
  simp only [this]]) xs h.X.asc fun c hc=>.inr (h.x c hc)
theorem Wh (x:Int):sA (fun y=>cov l x y) ys:=Em (C:=fun c=>c ∈ ysL l) (fun y z hyz hC=>Et fun r hr=>by
 have h1:=hC _ (Hk hr).1
 have h2:=hC _ (Hk hr).2
 show (_&&(decide (r.Y≤z)&&decide (z<r.Y+r.H)))=(_&&(decide (r.Y≤y)&&decide (y<r.Y+r.H)))
 rw [show decide (r.Y≤z)=decide (r.Y≤y) from by simp only [h1],show decide (z<r.Y+r.H)=decide (y<r.Y+r.H) from by
  have:(z<r.Y+r.H)=(y<r.Y+r.H):=by apply propext;omega
  simp only [this]]) ys h.Y.asc fun c hc=>.inr (h.y c hc)
theorem BR {x y:Int} (hc:cov l x y=true):(∃ a ∈ xs,a≤x)∧(∃ a ∈ xs,x<a)∧(∃ a ∈ ys,a≤y)∧(∃ a ∈ ys,y<a):=by
 obtain ⟨r,hr,hb⟩:=List.any_eq_true.1 hc
 rw [Ca] at hb
 exact ⟨⟨_,h.x _ (Kc hr).1,hb.1⟩,⟨_,h.x _ (Kc hr).2,hb.2.1⟩,⟨_,h.y _ (Hk hr).1,hb.2.2.1⟩,⟨_,h.y _ (Hk hr).2,hb.2.2.2⟩⟩
omit h in
theorem ends {x0:Int} {t:List Int} (ha:(x0::t).Pairwise fun x y=>x<y):∀ a ∈ x0::t,x0≤a∧a≤(x0::t).getLast (by simp):=fun a m=>by
 constructor
 ·rcases List.mem_cons.1 m with rfl | m
  ·exact Int.le_refl _
  ·exact Int.le_of_lt ((List.pairwise_cons.1 ha).1 a m)
 ·have e:x0::t=(x0::t).dropLast++[(x0::t).getLast (by simp)]:=(List.dropLast_concat_getLast (by simp)).symm
  rw [e,List.pairwise_append] at ha
  rw [e] at m
  rcases List.mem_append.1 m with m | m
  ·exact Int.le_of_lt (ha.2.2 a m _ (by simp))
  ·simp at m;omega
end
theorem Vs {l:List aM} (hv:Ep l):(∀ c ∈ xsL l,-1048576≤c∧c≤1048576)∧∀ c ∈ ysL l,-1048576≤c∧c≤1048576:=by
 constructor
 ·intro c hc
  obtain ⟨r,hr,hm⟩:=List.mem_flatMap.1 hc
  have:=hv r hr
  unfold vR at this
  simp at hm
  omega
 ·intro c hc
  obtain ⟨r,hr,hm⟩:=List.mem_flatMap.1 hc
  have:=hv r hr
  unfold vR at this
  simp at hm
  omega
theorem Uf {α:Type} [BEq α] [LawfulBEq α]:∀ {g l:List α},g.Nodup→(∀ x ∈ g,x ∈ l)→g.length≤l.length
 | [],_,_,_=>by simp
 | x::g,l,hn,h=>by
   rw [List.nodup_cons] at hn
   have:=Uf (g:=g) (l:=l.erase x) hn.2 fun y hy=>(List.mem_erase_of_ne (fun e=>hn.1 (by rw [← e];exact hy))).2 (h y (List.mem_cons_of_mem _ hy))
   rw [List.length_erase_of_mem (h x List.mem_cons_self)] at this
   have hp:=List.length_pos_of_mem (h x List.mem_cons_self)
   simp only [List.length_cons];omega
theorem nD {g l:List Int} (hg:g.Pairwise fun x y=>x<y) (h:∀ x ∈ g,x ∈ l):g.length≤l.length:=by
 have hn:g.Nodup:=hg.imp fun q=>by omega
 exact Uf hn h
theorem Ra {xs ys:List Int} {lines l:List aM} (hv:Ep lines) (hl:lines.length≤400) (hx:jB xs (xsL lines)) (hy:jB ys (ysL lines)) (hs:∀ r ∈ l,r ∈ lines):Has xs ys l:=by
 have w:=Vs hv
 have lx:=nD hx.1 fun x m=>(hx.2 x).1 m
 have ly:=nD hy.1 fun x m=>(hy.2 x).1 m
 rw [Cg] at lx
 rw [Ch] at ly
 refine ⟨⟨hx.1,fun x m=>w.1 x ((hx.2 x).1 m),by omega⟩,⟨hy.1,fun x m=>w.2 x ((hy.2 x).1 m),by omega⟩,fun c hc=>?_,fun c hc=>?_,fun r hr=>hv r (hs r hr)⟩
 ·obtain ⟨r,hr,hm⟩:=List.mem_flatMap.1 hc
  exact (hx.2 c).2 (List.mem_flatMap.2 ⟨r,hs r hr,hm⟩)
 ·obtain ⟨r,hr,hm⟩:=List.mem_flatMap.1 hc
  exact (hy.2 c).2 (List.mem_flatMap.2 ⟨r,hs r hr,hm⟩)
def pW (R:List (List aM)) (x y:Int):Option Nat:=R.findIdx? fun l=>cov l x y
def Gj (o:Option Nat):Option Int:=o.map fun i=>(i:Int)
def bW (R:List (List aM)) (x y:Int):Option Int:=Gj (pW R x y)
def AB (R:List (List aM)) (x y:Int):Int:=match pW R x y with
 | some i=>(i:Int)
 | none=>-1
theorem PQ (R:List (List aM)) (x y:Int):AB R x y=match bW R x y with | some i=>i | none=>-1:=by
 unfold AB bW Gj
 cases pW R x y <;> rfl
theorem MQ {R:List (List aM)} {x y:Int} {i:Nat} (h:pW R x y=some i):i<R.length:=by
 unfold pW at h
 exact (List.findIdx?_eq_some_iff_getElem.1 h).1
theorem Rh {R:List (List aM)} {x y x' y':Int} (h:∀ l ∈ R,cov l x y=cov l x' y'):pW R x y=pW R x' y':=by
 unfold pW
 have:∀ R:List (List aM),(∀ l ∈ R,cov l x y=cov l x' y')→R.findIdx? (fun l=>cov l x y)=R.findIdx? fun l=>cov l x' y':=by
  intro R
  induction R with
  | nil=>intro _;rfl
  | cons l R ih =>
    intro h
    rw [List.findIdx?_cons,List.findIdx?_cons,h l List.mem_cons_self,ih fun k hk=>h k (List.mem_cons_of_mem _ hk)]
 exact this R h
theorem Ud {α R:Type} (l:List α) (body:Int→Option (Int ⊕ R)) (q:α→Bool) (yes:Nat→R) (no:R) (step:∀ (k:Nat) (x:α),l[k]?=some x→body k=if q x then some (.inr (yes k)) else some (.inl ((k+1:Nat):Int))) (fin:body (l.length:Int)=some (.inr no)) :
  aH body 0=some (match l.findIdx? q with | some i=>yes i | none=>no):=by
 have key:∀ (m k:Nat),k+m=l.length→aH body (k:Int)=some (match (l.drop k).findIdx? q with | some i=>yes (k+i) | none=>no):=by
  intro m
  induction m with
  | zero =>
    intro k h;obtain rfl:k=l.length:=by omega
    rw [List.drop_length,fQ fin];rfl
  | succ m ih =>
    intro k h
    have hk:k<l.length:=by omega
    have hx:l[k]?=some l[k]:=by simp
    have hs:=step k _ hx
    rw [List.drop_eq_getElem_cons hk,List.findIdx?_cons]
    cases hq:q l[k] with
    | true=>rw [hq] at hs;rw [fQ hs];simp
    | false =>
      rw [hq] at hs
      rw [jS hs,ih (k+1) (by omega)]
      cases (l.drop (k+1)).findIdx? q with
      | none=>rfl
      | some i=>simp;congr 1;omega
 have:=key l.length 0 (by omega)
 simpa using this
structure Lay (R:List (List aM)) (xs ys:List Int):Prop where
 x:jB xs (xsL R.flatten)
 y:jB ys (ysL R.flatten)
 v:Ep R.flatten
 n:R.flatten.length≤400
 m:R.length≤900
section
variable {R:List (List aM)} {xs ys:List Int} (h:Lay R xs ys)
include h
theorem Lay.has {l:List aM} (hl:l ∈ R):Has xs ys l:=Ra h.v h.n h.x h.y fun r hr=>List.mem_flatten.2 ⟨l,hl,hr⟩
theorem Lay.QX:Has xs ys R.flatten:=Ra h.v h.n h.x h.y fun r hr=>hr
theorem Lay.X:Th xs:=h.QX.X
theorem Lay.Y:Th ys:=h.QX.Y
theorem PR {x y:Int} {i:Nat} (hc:pW R x y=some i):(∃ a ∈ xs,a≤x)∧(∃ a ∈ xs,x<a)∧(∃ a ∈ ys,a≤y)∧(∃ a ∈ ys,y<a):=by
 unfold pW at hc
 obtain ⟨hi,h1,_⟩:=List.findIdx?_eq_some_iff_getElem.1 hc
 exact BR (h.has (List.getElem_mem hi)) h1
theorem Vr:sA (fun x=>pW R x) xs:=Em (C:=fun c=>c ∈ xsL R.flatten) (fun x z hxz hC=>funext fun y=>Rh fun l hl=>Et fun r hr=>by
 have hrm:r ∈ R.flatten:=List.mem_flatten.2 ⟨l,hl,hr⟩
 have h1:=hC _ (Kc hrm).1
 have h2:=hC _ (Kc hrm).2
 show ((decide (r.X≤z)&&decide (z<r.X+r.W))&&_)=((decide (r.X≤x)&&decide (x<r.X+r.W))&&_)
 rw [show decide (r.X≤z)=decide (r.X≤x) from by simp only [h1],show decide (z<r.X+r.W)=decide (x<r.X+r.W) from by
  have:(z<r.X+r.W)=(x<r.X+r.W):=by apply propext;omega
  simp only [this]]) xs h.X.asc fun c hc=>.inr ((h.x.2 c).2 hc)
theorem CF:sA (fun y=>fun x=>pW R x y) ys:=Em (C:=fun c=>c ∈ ysL R.flatten) (fun y z hyz hC=>funext fun x=>Rh fun l hl=>Et fun r hr=>by
 have hrm:r ∈ R.flatten:=List.mem_flatten.2 ⟨l,hl,hr⟩
 have h1:=hC _ (Hk hrm).1
 have h2:=hC _ (Hk hrm).2
 show (_&&(decide (r.Y≤z)&&decide (z<r.Y+r.H)))=(_&&(decide (r.Y≤y)&&decide (y<r.Y+r.H)))
 rw [show decide (r.Y≤z)=decide (r.Y≤y) from by simp only [h1],show decide (z<r.Y+r.H)=decide (y<r.Y+r.H) from by
  have:(z<r.Y+r.H)=(y<r.Y+r.H):=by apply propext;omega
  simp only [this]]) ys h.Y.asc fun c hc=>.inr ((h.y.2 c).2 hc)
end
def num:Option Int→Int
 | none=>0
 | some i=>i+1
def cod (a b:Option Int):Int:=if a=b then 0 else num a*1000+num b
theorem Vw {a b:Option Int} (ha:∀ i,a=some i→0≤i) (hb:∀ i,b=some i→0≤i) (h:num a=num b):a=b:=by
 cases a with
 | none=>cases b with
   | none=>rfl
   | some j=>have:=hb j rfl;simp only [num] at h;omega
 | some i=>cases b with
   | none=>have:=ha i rfl;simp only [num] at h;omega
   | some j=>simp only [num] at h;rw [show i=j by omega]
def SmO (a:Option Int):Prop:=∀ i,a=some i→0≤i∧i<900
theorem Mv {a:Option Int} (h:SmO a):0≤num a∧num a≤900:=by
 cases a with
 | none=>simp [num]
 | some i=>have:=h i rfl;simp only [num];omega
theorem Xa {a b:Option Int} (ha:SmO a) (hb:SmO b):cod a b=0↔a=b:=by
 unfold cod
 constructor
 ·intro h
  split at h
  ·assumption
  ·have:=Mv ha;have:=Mv hb
   exact Vw (fun i e=>(ha i e).1) (fun i e=>(hb i e).1) (by omega)
 ·intro h;rw [if_pos h]
theorem LS {a b a' b':Option Int} (ha:SmO a) (hb:SmO b) (ha':SmO a') (hb':SmO b') (h0:cod a b≠0) (h:cod a b=cod a' b'):a=a'∧b=b':=by
 have h0':cod a' b'≠0:=by rw [← h];exact h0
 unfold cod at h h0 h0'
 split at h
 ·rename_i e;rw [if_pos e] at h0;exact absurd rfl h0
 ·split at h
  ·rename_i e;rw [if_pos e] at h0';exact absurd rfl h0'
  ·have:=Mv ha;have:=Mv hb;have:=Mv ha';have:=Mv hb'
   exact ⟨Vw (fun i e=>(ha i e).1) (fun i e=>(ha' i e).1) (by omega),Vw (fun i e=>(hb i e).1) (fun i e=>(hb' i e).1) (by omega)⟩
theorem yQ {R:List (List aM)} (hm:R.length≤900) (x y:Int):SmO (bW R x y):=fun i h=>by
 unfold bW Gj at h
 cases e:pW R x y with
 | none=>rw [e] at h;cases h
 | some j=>rw [e] at h;have:=MQ e;simp at h;omega
def hS (R:List (List aM)) (y:Int) (z:Int):Int:=cod (bW R z y) (bW R z (y-1))
def vS (R:List (List aM)) (x:Int) (z:Int):Int:=cod (bW R x z) (bW R (x-1) z)
def cD (s:Int→Int):List (Int×Int):=open Classical in if h:∃ L,eF s L then Classical.choose h else []
theorem pQ {s:Int→Int} {L:List (Int×Int)} (h:eF s L):cD s=L:=by
 unfold cD
 have hx:∃ L,eF s L:=⟨L,h⟩
 rw [dif_pos hx]
 exact Yq (Classical.choose_spec hx) h
theorem uZ {β γ:Type} (f:β→γ) {g:Int→β}:∀ {l:List Int},sA g l→sA (fun x=>f (g x)) l
 | [],_=>trivial
 | [_],_=>trivial
 | _::_::_,h=>⟨h.1,fun z a b=>congrArg f (h.2.1 z a b),uZ f h.2.2⟩
theorem mO {β:Type} {f:Int→β}:∀ {xs:List Int},sA f xs→∀ {k:Nat} {x x':Int},xs[k]?=some x→xs[k+1]?=some x'→x<x'∧∀ z,x≤z→z<x'→f z=f x
 | [],_,k,x,x',h,_=>by simp at h
 | [_],_,k,x,x',_,h=>by simp at h
 | a::b::t,hs,0,x,x',h,h'=>by
   simp at h h'
   subst h h'
   exact ⟨hs.1,hs.2.1⟩
 | a::b::t,hs,k+1,x,x',h,h'=>by
   simp only [List.getElem?_cons_succ] at h h'
   exact mO hs.2.2 h h'
structure Al (A B:Int→Option Int) (xs:List Int):Prop where
 st:sA (fun z=>(A z,B z)) xs
 len:xs.length≤1000
 sa:∀ z,SmO (A z)
 sb:∀ z,SmO (B z)
 low:∀ x0,xs[0]?=some x0→∀ z,z<x0→A z=none∧B z=none
 high:∀ x1,xs[xs.length-1]?=some x1→∀ z,x1≤z→A z=none∧B z=none
 emp:xs=[]→∀ z,A z=none∧B z=none
theorem Tl {g:List Int} {a b:Int} (hg:g.Pairwise fun x y=>x<y) (ha:g[0]?=some a) (hb:b ∈ g):a≤b:=by
 obtain ⟨i,hi⟩:=List.mem_iff_getElem?.1 hb
 rcases Nat.eq_zero_or_pos i with q | q
 ·subst q;rw [ha] at hi;injection hi with hi;omega
 ·have:=Bg hg q ha hi;omega
theorem Wv {g:List Int} {a b:Int} (hg:g.Pairwise fun x y=>x<y) (ha:g[g.length-1]?=some a) (hb:b ∈ g):b≤a:=by
 obtain ⟨i,hi⟩:=List.mem_iff_getElem?.1 hb
 have:=aV hi
 by_cases q:i=g.length-1
 ·subst q;rw [ha] at hi;injection hi with hi;omega
 ·have:=Bg hg (show i<g.length-1 by omega) hi ha;omega
section
variable {R:List (List aM)} {xs ys:List Int} (h:Lay R xs ys)
include h
theorem Lk:(∀ x0,xs[0]?=some x0→∀ x y,x<x0→pW R x y=none)∧(∀ x1,xs[xs.length-1]?=some x1→∀ x y,x1≤x→pW R x y=none)∧(xs=[]→∀ x y,pW R x y=none) ∧
  (∀ y0,ys[0]?=some y0→∀ x y,y<y0→pW R x y=none)∧(∀ y1,ys[ys.length-1]?=some y1→∀ x y,y1≤y→pW R x y=none)∧(ys=[]→∀ x y,pW R x y=none):=by
 have no:∀ {x y:Int},(∀ i,pW R x y≠some i)→pW R x y=none:=fun {x y} hn=>by
  cases e:pW R x y with
  | none=>rfl
  | some i=>exact absurd e (hn i)
 refine ⟨fun x0 h0 x y hx=>no fun i e=>?_,fun x0 h0 x y hx=>no fun i e=>?_,fun h0 x y=>no fun i e=>?_,fun x0 h0 x y hx=>no fun i e=>?_,fun x0 h0 x y hx=>no fun i e=>?_,fun h0 x y=>no fun i e=>?_⟩ <;> obtain ⟨⟨a,ha,a1⟩,⟨b,hb,b1⟩,⟨c,hc,c1⟩,⟨d,hd,d1⟩⟩:=PR h e
 ·have:=Tl h.X.asc h0 ha;omega
 ·have:=Wv h.X.asc h0 hb;omega
 ·rw [h0] at ha;cases ha
 ·have:=Tl h.Y.asc h0 hc;omega
 ·have:=Wv h.Y.asc h0 hd;omega
 ·rw [h0] at hc;cases hc
omit h in
theorem rQ {x y:Int} (e:pW R x y=none):bW R x y=none:=by unfold bW Gj;rw [e];rfl
theorem DH (y:Int):Al (fun z=>bW R z y) (fun z=>bW R z (y-1)) xs:=by
 obtain ⟨o1,o2,o3,_⟩:=Lk h
 exact ⟨uZ (fun f:Int→Option Nat=>(Gj (f y),Gj (f (y-1)))) (g:=fun x=>pW R x) (Vr h),h.X.len,fun z=>yQ h.m _ _,fun z=>yQ h.m _ _,
  fun x0 h0 z hz=>⟨rQ (o1 x0 h0 z _ hz),rQ (o1 x0 h0 z _ hz)⟩,fun x0 h0 z hz=>⟨rQ (o2 x0 h0 z _ hz),rQ (o2 x0 h0 z _ hz)⟩,fun h0 z=>⟨rQ (o3 h0 z _),rQ (o3 h0 z _)⟩⟩
theorem DI (x:Int):Al (fun z=>bW R x z) (fun z=>bW R (x-1) z) ys:=by
 obtain ⟨_,_,_,o1,o2,o3⟩:=Lk h
 exact ⟨uZ (fun f:Int→Option Nat=>(Gj (f x),Gj (f (x-1)))) (g:=fun y=>fun x=>pW R x y) (CF h),h.Y.len,fun z=>yQ h.m _ _,fun z=>yQ h.m _ _,
  fun x0 h0 z hz=>⟨rQ (o1 x0 h0 _ z hz),rQ (o1 x0 h0 _ z hz)⟩,fun x0 h0 z hz=>⟨rQ (o2 x0 h0 _ z hz),rQ (o2 x0 h0 _ z hz)⟩,fun h0 z=>⟨rQ (o3 h0 _ z),rQ (o3 h0 _ z)⟩⟩
end
section
variable {A B:Int→Option Int} {xs:List Int} (h:Al A B xs)
include h
theorem Al.s0 (z:Int):cod (A z) (B z)=0↔A z=B z:=Xa (h.sa z) (h.sb z)
theorem Al.inj {z w:Int} (h0:cod (A z) (B z)≠0) (e:cod (A z) (B z)=cod (A w) (B w)):A z=A w∧B z=B w:=LS (h.sa z) (h.sb z) (h.sa w) (h.sb w) h0 e
theorem Al.lo:∃ lo,∀ z,z<lo→cod (A z) (B z)=0:=by
 have e0:∀ z,A z=none∧B z=none→cod (A z) (B z)=0:=fun z q=>by rw [q.1,q.2];rfl
 cases hx:xs[0]? with
 | none=>exact ⟨0,fun z _=>e0 z (h.emp (by simpa using hx) z)⟩
 | some x0=>exact ⟨x0,fun z hz=>e0 z (h.low x0 hx z hz)⟩
theorem Al.before {k:Nat} {x e:Int} (hx:xs[k]?=some x) (he:xs[k+1]?=some e):A (e-1)=A x∧B (e-1)=B x:=by
 obtain ⟨h1,h2⟩:=mO h.st hx he
 have:=h2 (e-1) (by omega) (by omega)
 injection this with q1 q2
 exact ⟨q1,q2⟩
end
end Go.SM
namespace Go.VI
theorem jT {S R:Type} (μ:S→Nat) (I:S→Prop) (Q:R→Prop) (body:S→Option (S ⊕ R))
  (step:∀ s,I s→(∃ s',body s=some (.inl s')∧I s'∧μ s'<μ s)∨(∃ r,body s=some (.inr r)∧Q r)):∀ s,I s→∃ r,aH body s=some r∧Q r:=by
 have key:∀ (n:Nat) s,μ s<n→I s→∃ r,aH body s=some r∧Q r:=by
  intro n
  induction n with
  | zero=>intro s h;exact absurd h (Nat.not_lt_zero _)
  | succ n ih =>
    intro s h hs
    rcases step s hs with ⟨s',e,hs',hm⟩ | ⟨r,e,hr⟩
    ·rw [jS e];exact ih s' (by omega) hs'
    ·exact ⟨r,fQ e,hr⟩
 exact fun s hs=>key (μ s+1) s (Nat.lt_succ_self _) hs
section
variable {α:Type} (d:α)
def gz (l:List α) (i:Int):α:=l.getD i.toNat d
theorem gX {l:List α} {i:Int} (h:0≤i) (h2:i<l.length):idx l i=some (gz d l i):=by
 unfold idx gz
 rw [if_pos h,List.getD_eq_getElem?_getD,List.getElem?_eq_getElem (by omega)]
 rfl
theorem IE {l:List α} {i k:Int} (hi:0≤i) (hk:0≤k) (h:i<l.length) (v:α):gz d (l.set i.toNat v) k=if k=i then v else gz d l k:=by
 unfold gz
 rw [List.getD_eq_getElem?_getD,List.getD_eq_getElem?_getD,List.getElem?_set]
 by_cases e:k=i
 ·subst e
  rw [if_pos rfl,if_pos (by omega),if_pos rfl];rfl
 ·rw [if_neg (by omega),if_neg e]
def sw (l:List α) (i j:Int):List α:=(l.set i.toNat (gz d l j)).set j.toNat (gz d l i)
theorem Sh (l:List α) (i j:Int):(sw d l i j).length=l.length:=by simp [sw]
theorem nP {l:List α} {i j k:Int} (hi:0≤i) (hj:0≤j) (hk:0≤k) (h1:i<l.length) (h2:j<l.length):gz d (sw d l i j) k=if k=j then gz d l i else if k=i then gz d l j else gz d l k:=by
 unfold sw
 rw [IE d hj hk (by rw [List.length_set];exact h2),IE d hi hk h1]
inductive On (a b:Int):List α→List α→Prop
 | refl (l:List α):On a b l l
 | step {l l':List α} (h:On a b l l') (i j:Int) (hi:a≤i) (hi':i<b) (hj:a≤j) (hj':j<b) (ha:0≤a) (hb:b≤l'.length):On a b l (sw d l' i j)
theorem On.len {a b:Int} {l l':List α} (h:On d a b l l'):l'.length=l.length:=by
 induction h with
 | refl=>rfl
 | step h i j _ _ _ _ _ _ ih=>rw [Sh,ih]
theorem On.trans {a b:Int} {l l' l'':List α} (h:On d a b l l') (h':On d a b l' l''):On d a b l l'':=by
 induction h' with
 | refl=>exact h
 | step _ i j hi hi' hj hj' ha hb ih=>exact .step ih i j hi hi' hj hj' ha hb
theorem On.mono {a b a' b':Int} {l l':List α} (h:On d a b l l') (h0:0≤a') (h1:a'≤a) (h2:b≤b') (h3:b'≤l.length):On d a' b' l l':=by
 induction h with
 | refl=>exact .refl _
 | step h i j hi hi' hj hj' ha hb ih=>exact .step ih i j (by omega) (by omega) (by omega) (by omega) h0 (by rw [h.len];exact h3)
theorem On.out {a b:Int} {l l':List α} (h:On d a b l l') {k:Int} (hk:0≤k) (hk':k<a∨b≤k):gz d l' k=gz d l k:=by
 induction h with
 | refl=>rfl
 | step h i j hi hi' hj hj' ha hb ih =>
   rw [nP d (by omega) (by omega) hk (by omega) (by omega),if_neg (by omega),if_neg (by omega),ih]
theorem On.all {a b:Int} {l l':List α} (h:On d a b l l') (Q:α→Prop) (hq:∀ k,a≤k→k<b→Q (gz d l k)):∀ k,a≤k→k<b→Q (gz d l' k):=by
 induction h with
 | refl=>exact hq
 | step h i j hi hi' hj hj' ha hb ih =>
   intro k h1 h2
   rw [nP d (by omega) (by omega) (by omega) (by omega) (by omega)]
   split
   ·exact ih i hi hi'
   ·split
    ·exact ih j hj hj'
    ·exact ih k h1 h2
theorem NR {l:List α} {i j:Int} (hi:0≤i) (hj:0≤j) (h1:i<l.length) (h2:j<l.length):(sw d l i j).Perm l:=by
 unfold sw gz
 have e1:l.getD i.toNat d=l[i.toNat]'(by omega):=by rw [List.getD_eq_getElem?_getD,List.getElem?_eq_getElem (by omega)];rfl
 have e2:l.getD j.toNat d=l[j.toNat]'(by omega):=by rw [List.getD_eq_getElem?_getD,List.getElem?_eq_getElem (by omega)];rfl
 rw [e1,e2]
 exact List.set_set_perm (by omega) (by omega)
theorem On.perm {a b:Int} {l l':List α} (h:On d a b l l'):l'.Perm l:=by
 induction h with
 | refl=>exact .refl _
 | step h i j hi hi' hj hj' ha hb ih=>exact (NR d (by omega) (by omega) (by omega) (by omega)).trans ih
def Asc (lt:α→α→Bool) (a b:Int) (l:List α):Prop:=∀ i j,a≤i→i<j→j<b→lt (gz d l j) (gz d l i)=false
structure Oh (lt:α→α→Bool):Prop where
 asymm:∀ x y,lt x y=true→lt y x=false
 neg:∀ x y z,lt x z=true→lt x y=true∨lt y z=true
theorem Oh.le_trans {lt:α→α→Bool} (w:Oh lt) {x y z:α} (h1:lt y x=false) (h2:lt z y=false):lt z x=false:=by
 cases h:lt z x with
 | false=>rfl
 | true=>rcases w.neg z y x h with q | q <;> simp_all
theorem Oh.irrefl {lt:α→α→Bool} (w:Oh lt) (x:α):lt x x=false:=by
 cases h:lt x x with
 | false=>rfl
 | true=>have:=w.asymm x x h;simp_all
end
end Go.VI
namespace Go.SM
open Go Go.VI
abbrev Br (α:Type):Type 1:=∀ (β:Type),α→α→(Bool→Option β)→Option β
def brC {α:Type} (cmp:α→α→Option Int):Br α:=fun _ x y k=>(cmp x y).bind fun r=>k (decide (r<0))
def pK:(Int×Int)→Option (Int):=fun j3 =>
 (Hj (ByteArray.mk #[0,1,2,2,3,3,3,3,4,4,4,4,4,4,4,4,5,5,5,5,5,5,5,5,5,5,5,5,5,5,5,5,6,6,6,6,6,6,6,6,6,6,6,6,6,6,6,6,6,6,6,6,6,6,6,6,6,6,6,6,6,6,6,6,7,7,7,7,7,7,7,7,7,7,7,7,7,7,7,7,7,7,7,7,7,7,7,7,7,7,7,7,7,7,7,7,7,7,7,7,7,7,7,7,7,7,7,7,7,7,7,7,7,7,7,7,7,7,7,7,7,7,7,7,7,7,7,7,8,8,8,8,8,8,8,8,8,8,8,8,8,8,8,8,8,8,8,8,8,8,8,8,8,8,8,8,8,8,8,8,8,8,8,8,8,8,8,8,8,8,8,8,8,8,8,8,8,8,8,8,8,8,8,8,8,8,8,8,8,8,8,8,8,8,8,8,8,8,8,8,8,8,8,8,8,8,8,8,8,8,8,8,8,8,8,8,8,8,8,8,8,8,8,8,8,8,8,8,8,8,8,8,8,8,8,8,8,8,8,8,8,8,8,8,8,8,8,8,8,8,8,8,8,8,8,8]) (IntKind.wrap .u8 j3.1)).bind fun x5=>some (aJ j3.2 (IntKind.wrap .i64 x5))
def tH:(Int×Int)→Option (Int):=fun j2 =>
 if (decide (j2.1 ≥ 256)) then (pK ((Int.fdiv j2.1 (2^(min (Int.toNat 8) 64))),(aJ j2.2 8))) else (pK (j2.1,j2.2))
def wH:(Int×Int)→Option (Int):=fun j1 =>
 if (decide (j1.1 ≥ 65536)) then (tH ((Int.fdiv j1.1 (2^(min (Int.toNat 16) 64))),(aJ j1.2 16))) else (tH (j1.1,j1.2))
def Iv (x0:Int):Option (Int):=
 if (decide (x0 ≥ 4294967296)) then (wH ((Int.fdiv x0 (2^(min (Int.toNat 32) 64))),32)) else (wH (x0,0))
def By (x0:Int):Option (Int):=
 (Iv x0).bind fun r2=>some r2
def vE (length:Int):Option (Int):=
 (By (IntKind.wrap .u64 length)).bind fun r2=>if (decide (0≤r2)) then (some (IntKind.wrap .u64 (1*2^(min (Int.toNat r2) 64)))) else none
def Du (h0_0:Int):Option (Int):=
 some (iM .u64 (iM .u64 (iM .u64 h0_0 (IntKind.wrap .u64 (h0_0*2^(min (Int.toNat 13) 64)))) (Int.fdiv (iM .u64 h0_0 (IntKind.wrap .u64 (h0_0*2^(min (Int.toNat 13) 64)))) (2^(min (Int.toNat 7) 64)))) (IntKind.wrap .u64 ((iM .u64 (iM .u64 h0_0 (IntKind.wrap .u64 (h0_0*2^(min (Int.toNat 13) 64)))) (Int.fdiv (iM .u64 h0_0 (IntKind.wrap .u64 (h0_0*2^(min (Int.toNat 13) 64)))) (2^(min (Int.toNat 7) 64))))*2^(min (Int.toNat 17) 64))))
def oW {α:Type} (br:Br α) (a:Int):Int×(List α)→Option (Int×(List α) ⊕ (List α)):=fun a0 =>
 (if (decide (a0.1>a)) then ((idx a0.2 a0.1).bind fun a4=>(idx a0.2 (aK a0.1 1)).bind fun a5=>br _ a4 a5 fun a3=>some a3) else (some false)).bind fun a2=>if a2 then ((idx a0.2 (aK a0.1 1)).bind fun a1=>(idx a0.2 a0.1).bind fun a6=>(idx a0.2 a0.1).bind fun a7=>(idx (List.set a0.2 (Int.toNat a0.1) a1) (aK a0.1 1)).bind fun a8=>some (.inl ((aK a0.1 1),(List.set (List.set a0.2 (Int.toNat a0.1) a1) (Int.toNat (aK a0.1 1)) a6)))) else (some (.inr a0.2))
def tM {α:Type} (br:Br α) (a:Int) (b:Int):Int×(List α)→Option (Int×(List α) ⊕ (List α)):=fun a0 =>
 if (decide (a0.1<b)) then ((aH (oW br a) (a0.1,a0.2)).bind fun a1=>some (.inl ((aJ a0.1 1),a1))) else (some (.inr a0.2))
def wK {α:Type} (br:Br α) (a:Int) (b:Int) (h0:(List α)):Option ((List α)):=
 (aH (tM br a b) ((aJ a 1),h0)).bind fun a0=>some a0
def sO {α:Type} (br:Br α) (first:Int) (a0:Int×(List α)):Int→Option (Int×(List α) ⊕ ((List α) ⊕ (List α))):=fun a1 =>
 (idx a0.2 (aJ first a0.1)).bind fun a4=>(idx a0.2 (aJ first a1)).bind fun a5=>br _ a4 a5 fun a3=>if (!a3) then (some (.inr (.inr a0.2))) else ((idx a0.2 (aJ first a1)).bind fun a2=>(idx a0.2 (aJ first a0.1)).bind fun a6=>(idx a0.2 (aJ first a0.1)).bind fun a7=>(idx (List.set a0.2 (Int.toNat (aJ first a0.1)) a2) (aJ first a1)).bind fun a8=>some (.inl (a1,(List.set (List.set a0.2 (Int.toNat (aJ first a0.1)) a2) (Int.toNat (aJ first a1)) a6))))
def Af {α:Type} (br:Br α) (hi:Int) (first:Int):Int×(List α)→Option (Int×(List α) ⊕ ((List α) ⊕ (List α))):=fun a0 =>
 if (decide ((aJ (kM 2 a0.1) 1) ≥ hi)) then (some (.inr (.inl a0.2))) else ((if (decide ((aJ (aJ (kM 2 a0.1) 1) 1)<hi)) then ((idx a0.2 (aJ first (aJ (kM 2 a0.1) 1))).bind fun a3=>(idx a0.2 (aJ (aJ first (aJ (kM 2 a0.1) 1)) 1)).bind fun a4=>br _ a3 a4 fun a2=>some a2) else (some false)).bind fun a1=>if a1 then (sO br first a0 (aJ (aJ (kM 2 a0.1) 1) 1)) else (sO br first a0 (aJ (kM 2 a0.1) 1)))
def xO {α:Type} (br:Br α) (lo:Int) (hi:Int) (first:Int) (h0:(List α)):Option ((List α)):=
 (aH (Af br hi first) (lo,h0)).bind fun a2=>match a2 with | .inl a0=>some a0 | .inr a1=>some a1
def Ad {α:Type} (br:Br α) (a:Int) (b:Int):Int×(List α)→Option (Int×(List α) ⊕ (List α)):=fun a0 =>
 if (decide (a0.1 ≥ 0)) then ((xO br a0.1 (aK b a) a a0.2).bind fun a1=>some (.inl ((aK a0.1 1),a1))) else (some (.inr a0.2))
def Ae {α:Type} (br:Br α) (a:Int):Int×(List α)→Option (Int×(List α) ⊕ (List α)):=fun a0 =>
 if (decide (a0.1 ≥ 0)) then ((idx a0.2 (aJ a a0.1)).bind fun a1=>(idx a0.2 a).bind fun a3=>(idx a0.2 a).bind fun a4=>(idx (List.set a0.2 (Int.toNat a) a1) (aJ a a0.1)).bind fun a5=>(xO br 0 a0.1 a (List.set (List.set a0.2 (Int.toNat a) a1) (Int.toNat (aJ a a0.1)) a3)).bind fun a2=>some (.inl ((aK a0.1 1),a2))) else (some (.inr a0.2))
def Gu {α:Type} (br:Br α) (a:Int) (b:Int) (h0:(List α)):Option ((List α)):=
 (aH (Ad br a b) ((tO (aK (aK b a) 1) 2),h0)).bind fun a1=>(aH (Ae br a) ((aK (aK b a) 1),a1)).bind fun a0=>some a0
def oV {α:Type} (br:Br α) (a:Int) (a0:Int×Int×(List α)):Int→Option (Int×Int×(List α) ⊕ (List α)):=fun a1 =>
 (idx a0.2.2 (aJ a a1)).bind fun a2=>(idx a0.2.2 a0.1).bind fun a3=>(idx a0.2.2 a0.1).bind fun a4=>(idx (List.set a0.2.2 (Int.toNat a0.1) a2) (aJ a a1)).bind fun a5=>some (.inl ((aJ a0.1 1),(iM .u64 (iM .u64 (iM .u64 a0.2.1 (IntKind.wrap .u64 (a0.2.1*2^(min (Int.toNat 13) 64)))) (Int.fdiv (iM .u64 a0.2.1 (IntKind.wrap .u64 (a0.2.1*2^(min (Int.toNat 13) 64)))) (2^(min (Int.toNat 7) 64)))) (IntKind.wrap .u64 ((iM .u64 (iM .u64 a0.2.1 (IntKind.wrap .u64 (a0.2.1*2^(min (Int.toNat 13) 64)))) (Int.fdiv (iM .u64 a0.2.1 (IntKind.wrap .u64 (a0.2.1*2^(min (Int.toNat 13) 64)))) (2^(min (Int.toNat 7) 64))))*2^(min (Int.toNat 17) 64)))),(List.set (List.set a0.2.2 (Int.toNat a0.1) a2) (Int.toNat (aJ a a1)) a3)))
def tL {α:Type} (br:Br α) (a:Int) (b:Int) (r2:Int):Int×Int×(List α)→Option (Int×Int×(List α) ⊕ (List α)):=fun a0 =>
 if (decide (a0.1≤(aJ (aJ a (kM (tO (aK b a) 4) 2)) 1))) then ((Du a0.2.1).bind fun a1=>if (decide ((IntKind.wrap .i64 (Lj .u64 a1 (IntKind.wrap .u64 (r2-1)))) ≥ (aK b a))) then (oV br a a0 (aK (IntKind.wrap .i64 (Lj .u64 a1 (IntKind.wrap .u64 (r2-1)))) (aK b a))) else (oV br a a0 (IntKind.wrap .i64 (Lj .u64 a1 (IntKind.wrap .u64 (r2-1)))))) else (some (.inr a0.2.2))
def wJ {α:Type} (br:Br α) (a:Int) (b:Int) (h0:(List α)):Option ((List α)):=
 if (decide ((aK b a) ≥ 8)) then ((vE (aK b a)).bind fun r2=>(aH (tL br a b r2) ((aK (aJ a (kM (tO (aK b a) 4) 2)) 1),(IntKind.wrap .u64 (aK b a)),h0)).bind fun a0=>some a0) else (some h0)
def Dt {α:Type} (br:Br α) (data:(List α)) (a:Int) (b:Int) (h0_0:Int):Option (Int×Int×Int):=
 (idx data b).bind fun a1=>(idx data a).bind fun a2=>br _ a1 a2 fun a0=>if a0 then (some (b,a,(aJ h0_0 1))) else (some (a,b,h0_0))
def Hu {α:Type} (br:Br α) (data:(List α)) (a:Int) (b:Int) (c:Int) (h0_0:Int):Option (Int×Int):=
 (Dt br data a b h0_0).bind fun r2=>(Dt br data r2.2.1 c r2.2.2).bind fun r4=>(Dt br data r2.1 r4.1 r4.2.2).bind fun r6=>some (r6.2.1,r6.2.2)
def nL {α:Type} (br:Br α) (data:(List α)) (a:Int) (h0_0:Int):Option (Int×Int):=
 (Hu br data (aK a 1) a (aJ a 1) h0_0).bind fun r2=>some (r2.1,r2.2)
def rO {α:Type} (br:Br α):(Int×Int)→Option (Int×Int):=fun a0 =>
 if (a0.2==0) then (some (a0.1,1)) else (if (a0.2==12) then (some (a0.1,2)) else (some (a0.1,0)))
def rP {α:Type} (br:Br α) (data:(List α)):(Int×Int×Int×Int)→Option (Int×Int):=fun a0 =>
 (Hu br data a0.1 a0.2.1 a0.2.2.1 a0.2.2.2).bind fun a1=>rO br (a1.1,a1.2)
def Ac {α:Type} (br:Br α) (data:(List α)) (a:Int) (b:Int):Option (Int×Int):=
 if (decide ((aK b a) ≥ 8)) then (if (decide ((aK b a) ≥ 50)) then ((nL br data (aJ a (kM (tO (aK b a) 4) 1)) 0).bind fun a0=>(nL br data (aJ a (kM (tO (aK b a) 4) 2)) a0.2).bind fun a1=>(nL br data (aJ a (kM (tO (aK b a) 4) 3)) a1.2).bind fun a2=>rP br data (a0.1,a1.1,a2.1,a2.2)) else (rP br data ((aJ a (kM (tO (aK b a) 4) 1)),(aJ a (kM (tO (aK b a) 4) 2)),(aJ a (kM (tO (aK b a) 4) 3)),0))) else (rO br ((aJ a (kM (tO (aK b a) 4) 2)),0))
def uP {α:Type} (br:Br α):Int×Int×(List α)→Option (Int×Int×(List α) ⊕ (List α)):=fun a0 =>
 if (decide (a0.1<a0.2.1)) then ((idx a0.2.2 a0.2.1).bind fun a1=>(idx a0.2.2 a0.1).bind fun a2=>(idx a0.2.2 a0.1).bind fun a3=>(idx (List.set a0.2.2 (Int.toNat a0.1) a1) a0.2.1).bind fun a4=>some (.inl ((aJ a0.1 1),(aK a0.2.1 1),(List.set (List.set a0.2.2 (Int.toNat a0.1) a1) (Int.toNat a0.2.1) a2)))) else (some (.inr a0.2.2))
def yB {α:Type} (br:Br α) (a:Int) (b:Int) (h0:(List α)):Option ((List α)):=
 (aH (uP br) (a,(aK b 1),h0)).bind fun a0=>some a0
def mL {α:Type} (br:Br α) (a1:Int×Int×(List α)):Int×(List α)→Option (Int×Int×(List α) ⊕ (Bool×(List α) ⊕ (List α))):=fun a0 =>
 some (.inl (a0.1,(aJ a1.2.1 1),a0.2))
def jG {α:Type} (br:Br α) (b:Int) (a1:Int×Int×(List α)):Int→Option (Int ⊕ Int):=fun a0 =>
 (if (decide (a0<b)) then ((idx a1.2.2 a0).bind fun a4=>(idx a1.2.2 (aK a0 1)).bind fun a5=>br _ a4 a5 fun a3=>some (!a3)) else (some false)).bind fun a2=>if a2 then (some (.inl (aJ a0 1))) else (some (.inr a0))
def jH {α:Type} (br:Br α) (b:Int):Int×(List α)→Option (Int×(List α) ⊕ (List α)):=fun a0 =>
 if (decide (a0.1<b)) then ((idx a0.2 a0.1).bind fun a3=>(idx a0.2 (aK a0.1 1)).bind fun a4=>br _ a3 a4 fun a2=>if (!a2) then (some (.inr a0.2)) else ((idx a0.2 (aK a0.1 1)).bind fun a1=>(idx a0.2 a0.1).bind fun a5=>(idx a0.2 a0.1).bind fun a6=>(idx (List.set a0.2 (Int.toNat a0.1) a1) (aK a0.1 1)).bind fun a7=>some (.inl ((aJ a0.1 1),(List.set (List.set a0.2 (Int.toNat a0.1) a1) (Int.toNat (aK a0.1 1)) a5))))) else (some (.inr a0.2))
def jF {α:Type} (br:Br α) (b:Int) (a2:Int×Int×(List α)) (a0:Int):(List α)→Option (Int×Int×(List α) ⊕ (Bool×(List α) ⊕ (List α))):=fun a1 =>
 if (decide ((aK b a0) ≥ 2)) then ((aH (jH br b) ((aJ a0 1),a1)).bind fun a3=>mL br a2 (a0,a3)) else (mL br a2 (a0,a1))
def jI {α:Type} (br:Br α):Int×(List α)→Option (Int×(List α) ⊕ (List α)):=fun a0 =>
 if (decide (a0.1 ≥ 1)) then ((idx a0.2 a0.1).bind fun a3=>(idx a0.2 (aK a0.1 1)).bind fun a4=>br _ a3 a4 fun a2=>if (!a2) then (some (.inr a0.2)) else ((idx a0.2 (aK a0.1 1)).bind fun a1=>(idx a0.2 a0.1).bind fun a5=>(idx a0.2 a0.1).bind fun a6=>(idx (List.set a0.2 (Int.toNat a0.1) a1) (aK a0.1 1)).bind fun a7=>some (.inl ((aK a0.1 1),(List.set (List.set a0.2 (Int.toNat a0.1) a1) (Int.toNat (aK a0.1 1)) a5))))) else (some (.inr a0.2))
def mM {α:Type} (br:Br α) (a:Int) (b:Int):Int×Int×(List α)→Option (Int×Int×(List α) ⊕ (Bool×(List α) ⊕ (List α))):=fun a0 =>
 if (decide (a0.2.1<5)) then ((aH (jG br b a0) a0.1).bind fun a1=>if (a1==b) then (some (.inr (.inl (true,a0.2.2)))) else (if (decide ((aK b a)<50)) then (some (.inr (.inl (false,a0.2.2)))) else ((idx a0.2.2 (aK a1 1)).bind fun a2=>(idx a0.2.2 a1).bind fun a3=>(idx a0.2.2 a1).bind fun a5=>(idx (List.set a0.2.2 (Int.toNat a1) a2) (aK a1 1)).bind fun a6=>if (decide ((aK a1 a) ≥ 2)) then ((aH (jI br) ((aK a1 1),(List.set (List.set a0.2.2 (Int.toNat a1) a2) (Int.toNat (aK a1 1)) a3))).bind fun a4=>jF br b a0 a1 a4) else (jF br b a0 a1 (List.set (List.set a0.2.2 (Int.toNat a1) a2) (Int.toNat (aK a1 1)) a3))))) else (some (.inr (.inr a0.2.2)))
def pL {α:Type} (br:Br α) (a:Int) (b:Int) (h0:(List α)):Option (Bool×(List α)):=
 (aH (mM br a b) ((aJ a 1),0,h0)).bind fun a2=>match a2 with | .inl a0=>some (a0.1,a0.2) | .inr a1=>some (false,a1)
def nM {α:Type} (br:Br α) (a:Int) (a1:Int×Int×(List α)):Int→Option (Int ⊕ Int):=fun a0 =>
 (if (decide (a0≤a1.2.1)) then ((idx a1.2.2 a).bind fun a4=>(idx a1.2.2 a0).bind fun a5=>br _ a4 a5 fun a3=>some (!a3)) else (some false)).bind fun a2=>if a2 then (some (.inl (aJ a0 1))) else (some (.inr a0))
def nN {α:Type} (br:Br α) (a:Int) (a1:Int×Int×(List α)) (a4:Int):Int→Option (Int ⊕ Int):=fun a0 =>
 (if (decide (a4≤a0)) then ((idx a1.2.2 a).bind fun a5=>(idx a1.2.2 a0).bind fun a6=>br _ a5 a6 fun a3=>some a3) else (some false)).bind fun a2=>if a2 then (some (.inl (aK a0 1))) else (some (.inr a0))
def sN {α:Type} (br:Br α) (a:Int):Int×Int×(List α)→Option (Int×Int×(List α) ⊕ Int×(List α)):=fun a0 =>
 (aH (nM br a a0) a0.1).bind fun a1=>(aH (nN br a a0 a1) a0.2.1).bind fun a2=>if (decide (a1>a2)) then (some (.inr (a1,a0.2.2))) else ((idx a0.2.2 a2).bind fun a3=>(idx a0.2.2 a1).bind fun a4=>(idx a0.2.2 a1).bind fun a5=>(idx (List.set a0.2.2 (Int.toNat a1) a3) a2).bind fun a6=>some (.inl ((aJ a1 1),(aK a2 1),(List.set (List.set a0.2.2 (Int.toNat a1) a3) (Int.toNat a2) a4))))
def vG {α:Type} (br:Br α) (a:Int) (b:Int) (pivot:Int) (h0:(List α)):Option (Int×(List α)):=
 (idx h0 pivot).bind fun x9=>(idx h0 a).bind fun a1=>(idx h0 a).bind fun a2=>(idx (List.set h0 (Int.toNat a) x9) pivot).bind fun a3=>(aH (sN br a) ((aJ a 1),(aK b 1),(List.set (List.set h0 (Int.toNat a) x9) (Int.toNat pivot) a1))).bind fun a0=>some (a0.1,a0.2)
def uK {α:Type} (br:Br α) (a:Int) (b:Int) (pivot:Int) (h0:(List α)) (x9:α) (a5:α):Int→Option (Int ⊕ Int):=fun a0 =>
 (if (decide (a0≤(aK b 1))) then ((idx (List.set (List.set h0 (Int.toNat a) x9) (Int.toNat pivot) a5) a0).bind fun a3=>(idx (List.set (List.set h0 (Int.toNat a) x9) (Int.toNat pivot) a5) a).bind fun a4=>br _ a3 a4 fun a2=>some a2) else (some false)).bind fun a1=>if a1 then (some (.inl (aJ a0 1))) else (some (.inr a0))
def uL {α:Type} (br:Br α) (a:Int) (pivot:Int) (h0:(List α)) (x9:α) (a6:α) (a3:Int):Int→Option (Int ⊕ Int):=fun a0 =>
 (if (decide (a3≤a0)) then ((idx (List.set (List.set h0 (Int.toNat a) x9) (Int.toNat pivot) a6) a0).bind fun a4=>(idx (List.set (List.set h0 (Int.toNat a) x9) (Int.toNat pivot) a6) a).bind fun a5=>br _ a4 a5 fun a2=>some (!a2)) else (some false)).bind fun a1=>if a1 then (some (.inl (aK a0 1))) else (some (.inr a0))
def uM {α:Type} (br:Br α) (a:Int) (a1:Int×Int×(List α)):Int→Option (Int ⊕ Int):=fun a0 =>
 (if (decide (a0≤a1.2.1)) then ((idx a1.2.2 a0).bind fun a4=>(idx a1.2.2 a).bind fun a5=>br _ a4 a5 fun a3=>some a3) else (some false)).bind fun a2=>if a2 then (some (.inl (aJ a0 1))) else (some (.inr a0))
def uN {α:Type} (br:Br α) (a:Int) (a1:Int×Int×(List α)) (a4:Int):Int→Option (Int ⊕ Int):=fun a0 =>
 (if (decide (a4≤a0)) then ((idx a1.2.2 a0).bind fun a5=>(idx a1.2.2 a).bind fun a6=>br _ a5 a6 fun a3=>some (!a3)) else (some false)).bind fun a2=>if a2 then (some (.inl (aK a0 1))) else (some (.inr a0))
def uO {α:Type} (br:Br α) (a:Int):Int×Int×(List α)→Option (Int×Int×(List α) ⊕ Int×(List α)):=fun a0 =>
 (aH (uM br a a0) a0.1).bind fun a1=>(aH (uN br a a0 a1) a0.2.1).bind fun a2=>if (decide (a1>a2)) then (some (.inr (a2,a0.2.2))) else ((idx a0.2.2 a2).bind fun a3=>(idx a0.2.2 a1).bind fun a4=>(idx a0.2.2 a1).bind fun a5=>(idx (List.set a0.2.2 (Int.toNat a1) a3) a2).bind fun a6=>some (.inl ((aJ a1 1),(aK a2 1),(List.set (List.set a0.2.2 (Int.toNat a1) a3) (Int.toNat a2) a4))))
def yO {α:Type} (br:Br α) (a:Int) (b:Int) (pivot:Int) (h0:(List α)):Option (Int×Bool×(List α)):=
 (idx h0 pivot).bind fun x9=>(idx h0 a).bind fun a3=>(idx h0 a).bind fun b6=>(idx (List.set h0 (Int.toNat a) x9) pivot).bind fun b7=>(aH (uK br a b pivot h0 x9 a3) (aJ a 1)).bind fun a2=>(aH (uL br a pivot h0 x9 a3 a2) (aK b 1)).bind fun a1=>if (decide (a2>a1)) then ((idx (List.set (List.set h0 (Int.toNat a) x9) (Int.toNat pivot) a3) a).bind fun a6=>(idx (List.set (List.set h0 (Int.toNat a) x9) (Int.toNat pivot) a3) a1).bind fun a8=>(idx (List.set (List.set h0 (Int.toNat a) x9) (Int.toNat pivot) a3) a1).bind fun b2=>(idx (List.set (List.set (List.set h0 (Int.toNat a) x9) (Int.toNat pivot) a3) (Int.toNat a1) a6) a).bind fun b3=>some (a1,true,(List.set (List.set (List.set (List.set h0 (Int.toNat a) x9) (Int.toNat pivot) a3) (Int.toNat a1) a6) (Int.toNat a) a8))) else ((idx (List.set (List.set h0 (Int.toNat a) x9) (Int.toNat pivot) a3) a1).bind fun a7=>(idx (List.set (List.set h0 (Int.toNat a) x9) (Int.toNat pivot) a3) a2).bind fun a9=>(idx (List.set (List.set h0 (Int.toNat a) x9) (Int.toNat pivot) a3) a2).bind fun b4=>(idx (List.set (List.set (List.set h0 (Int.toNat a) x9) (Int.toNat pivot) a3) (Int.toNat a2) a7) a1).bind fun b5=>(aH (uO br a) ((aJ a2 1),(aK a1 1),(List.set (List.set (List.set (List.set h0 (Int.toNat a) x9) (Int.toNat pivot) a3) (Int.toNat a2) a7) (Int.toNat a1) a9))).bind fun a0=>(idx a0.2 a).bind fun a4=>(idx a0.2 a0.1).bind fun a5=>(idx a0.2 a0.1).bind fun b0=>(idx (List.set a0.2 (Int.toNat a0.1) a4) a).bind fun b1=>some (a0.1,false,(List.set (List.set a0.2 (Int.toNat a0.1) a4) (Int.toNat a) a5)))
def tS {α:Type} (br:Br α) (self:Int→Int→Int→(List α)→Option ((List α))) (a1:Int×Int×Int×Bool×Bool×(List α)) (a3:Int×(List α)) (a4:Int×Int×(List α)):Bool×Bool×(List α)→Option (Int×Int×Int×Bool×Bool×(List α) ⊕ (List α)):=fun a2 =>
 (if (decide (a1.1>0)) then ((idx a2.2.2 (aK a1.1 1)).bind fun b0=>(idx a2.2.2 a4.1).bind fun b1=>br _ b0 b1 fun a7=>some (!a7)) else (some false)).bind fun a6=>if a6 then ((vG br a1.1 a1.2.1 a4.1 a2.2.2).bind fun a5=>some (.inl (a5.1,a1.2.1,a3.1,a2.1,a2.2.1,a5.2))) else ((yO br a1.1 a1.2.1 a4.1 a2.2.2).bind fun a0=>if (decide ((aK a0.1 a1.1)<(aK a1.2.1 a0.1))) then ((self a1.1 a0.1 a3.1 a0.2.2).bind fun a8=>some (.inl ((aJ a0.1 1),a1.2.1,a3.1,(decide ((aK a0.1 a1.1) ≥ (tO (aK a1.2.1 a1.1) 8))),a0.2.1,a8))) else ((self (aJ a0.1 1) a1.2.1 a3.1 a0.2.2).bind fun a9=>some (.inl (a1.1,a0.1,a3.1,(decide ((aK a1.2.1 a0.1) ≥ (tO (aK a1.2.1 a1.1) 8))),a0.2.1,a9))))
def tT {α:Type} (br:Br α) (self:Int→Int→Int→(List α)→Option ((List α))) (a3:Int×Int×Int×Bool×Bool×(List α)) (a4:Int×(List α)):Int×Int×(List α)→Option (Int×Int×Int×Bool×Bool×(List α) ⊕ (List α)):=fun a0 =>
 (if a3.2.2.2.1 then (if a3.2.2.2.2.1 then (some (true,true,(a0.2.1==1))) else (some (true,false,false))) else (some (false,a3.2.2.2.2.1,false))).bind fun a1=>if a1.2.2 then ((pL br a3.1 a3.2.1 a0.2.2).bind fun a2=>if a2.1 then (some (.inr a2.2)) else (tS br self a3 a4 a0 (a1.1,a1.2.1,a2.2))) else (tS br self a3 a4 a0 (a1.1,a1.2.1,a0.2.2))
def tU {α:Type} (br:Br α) (self:Int→Int→Int→(List α)→Option ((List α))) (a2:Int×Int×Int×Bool×Bool×(List α)):Int×(List α)→Option (Int×Int×Int×Bool×Bool×(List α) ⊕ (List α)):=fun a0 =>
 (Ac br a0.2 a2.1 a2.2.1).bind fun a1=>if (a1.2==2) then ((yB br a2.1 a2.2.1 a0.2).bind fun a3=>tT br self a2 a0 ((aK (aK a2.2.1 1) (aK a1.1 a2.1)),1,a3)) else (tT br self a2 a0 (a1.1,a1.2,a0.2))
def xG {α:Type} (br:Br α) (self:Int→Int→Int→(List α)→Option ((List α))):Int×Int×Int×Bool×Bool×(List α)→Option (Int×Int×Int×Bool×Bool×(List α) ⊕ (List α)):=fun a0 =>
 if (decide ((aK a0.2.1 a0.1)≤12)) then ((wK br a0.1 a0.2.1 a0.2.2.2.2.2).bind fun a1=>some (.inr a1)) else (if (a0.2.2.1==0) then ((Gu br a0.1 a0.2.1 a0.2.2.2.2.2).bind fun a2=>some (.inr a2)) else (if (!a0.2.2.2.1) then ((wJ br a0.1 a0.2.1 a0.2.2.2.2.2).bind fun a3=>tU br self a0 ((aK a0.2.2.1 1),a3)) else (tU br self a0 (a0.2.2.1,a0.2.2.2.2.2))))
def qZ {α:Type} (br:Br α) (self:Int→Int→Int→(List α)→Option ((List α))) (a:Int) (b:Int) (limit:Int) (h0:(List α)):Option ((List α)):=
 (aH (xG br self) (a,b,limit,true,true,h0)).bind fun a0=>some a0
def nO {α:Type} (br:Br α):Nat→Int→Int→Int→(List α)→Option ((List α))
 | 0=>fun _ _ _ _=>none
 | n+1=>qZ br (nO br n)
def Qw {α:Type} (br:Br α) (a:Int) (b:Int) (limit:Int) (h0:(List α)):Option ((List α)):=nO br 1000 a b limit h0
def Gt {α:Type} (br:Br α) (h0:(List α)):Option ((List α)):=
 (By (IntKind.wrap .u64 (h0.length:Int))).bind fun r3=>(Qw br 0 (h0.length:Int) r3 h0).bind fun r4=>some r4
structure Ci {α:Type} (P:α→Prop) (d:α) (l:List α):Prop where
 len:(l.length:Int)≤1073741824
 all:∀ k:Int,0≤k→k<l.length→P (gz d l k)
theorem Ci.on {α:Type} {P:α→Prop} {d:α} {a b:Int} {l l':List α} (h:Ci P d l) (ho:On d a b l l'):Ci P d l':=by
 induction ho with
 | refl=>exact h
 | step ho i j hi hi' hj hj' ha hb ih =>
   refine ⟨by rw [Sh];exact ih.len,fun k h1 h2=>?_⟩
   rw [Sh] at h2
   rw [nP d (by omega) (by omega) h1 (by omega) (by omega)]
   split
   ·exact ih.all _ (by omega) (by omega)
   ·split
    ·exact ih.all _ (by omega) (by omega)
    ·exact ih.all _ h1 h2
section
variable {α:Type} {br:Br α} {lt:α→α→Bool} {P:α→Prop} {d:α} (hbr:∀ (β:Type) (x y:α) (k:Bool→Option β),P x→P y→br β x y k=k (lt x y)) (w:Oh lt)
include hbr w
theorem ES {a i:Int} {l0:List α} (ha:0≤a) (hi:a<i) (hil:i<l0.length) (hf0:Ci P d l0) (h0:Asc d lt a i l0) :
  ∃ l',aH (oW br a) (i,l0)=some l'∧On d a (i+1) l0 l'∧Asc d lt a (i+1) l':=by
 refine jT (fun s=>(s.1-a).toNat) (fun s=>a≤s.1∧s.1≤i∧On d a (i+1) l0 s.2∧∀ p q:Int,a≤p→p<q→q≤i→q≠s.1→lt (gz d s.2 q) (gz d s.2 p)=false)
  (fun l'=>On d a (i+1) l0 l'∧Asc d lt a (i+1) l') (oW br a) ?_ (i,l0) ⟨by omega,Int.le_refl _,.refl _,fun p q h1 h2 h3 h4=>h0 p q h1 h2 (by simp only at h4;omega)⟩
 rintro ⟨j,l⟩ ⟨h1,h2,hon,hI⟩
 simp only at h1 h2 hon hI ⊢
 have hf:=hf0.on hon
 have hl:=hon.len
 have hL:=hf.len
 unfold oW
 by_cases hja:j>a
 ·cases hc:lt (gz d l j) (gz d l (j-1)) with
  | true =>
    left
    refine ⟨(j-1,sw d l j (j-1)), ?_,⟨by simp only;omega,by simp only;omega,.step hon j (j-1) (by omega) (by omega) (by omega) (by omega) ha (by omega), ?_⟩,by simp only;omega⟩
    ·simp (disch:=first | omega | (simp only [List.length_set];omega) | (refine hf.all _ ?_ ?_ <;> omega)) only [hja,decide_true,if_true,bC,gX d,Option.bind_some,hbr,hc]
     rfl
    ·simp only
     intro p q p1 p2 p3 p4
     rw [nP d (by omega) (by omega) (by omega) (by omega) (by omega),nP d (by omega) (by omega) (by omega) (by omega) (by omega)]
     rw [if_neg p4]
     by_cases e1:q=j
     ·rw [if_pos e1]
      by_cases e2:p=j-1
      ·rw [if_pos e2];exact w.asymm _ _ hc
      ·rw [if_neg e2,if_neg (by omega)]
       exact hI p (j-1) (by omega) (by omega) (by omega) (by omega)
     ·rw [if_neg e1]
      by_cases e2:p=j-1
      ·rw [if_pos e2];exact hI j q (by omega) (by omega) p3 e1
      ·rw [if_neg e2]
       by_cases e3:p=j
       ·rw [if_pos e3];exact hI (j-1) q (by omega) (by omega) p3 e1
       ·rw [if_neg e3];exact hI p q p1 p2 p3 e1
  | false =>
    right
    refine ⟨l, ?_,hon, ?_⟩
    ·simp (disch:=first | omega | (simp only [List.length_set];omega) | (refine hf.all _ ?_ ?_ <;> omega)) only [hja,decide_true,if_true,bC,gX d,Option.bind_some,hbr,hc,Bool.false_eq_true,if_false]
    ·intro p q p1 p2 p3
     by_cases e1:q=j
     ·subst e1
      by_cases e2:p=q-1
      ·subst e2;exact hc
      ·exact w.le_trans (hI p (q-1) p1 (by omega) (by omega) (by omega)) hc
     ·exact hI p q p1 p2 (by omega) e1
 ·right
  refine ⟨l, ?_,hon, ?_⟩
  ·simp only [hja,decide_false,Bool.false_eq_true,if_false,Option.bind_some]
  ·intro p q p1 p2 p3
   exact hI p q p1 p2 (by omega) (by omega)
theorem Mq {a b:Int} {l0:List α} (ha:0≤a) (hab:a≤b) (hb:b≤l0.length) (hf0:Ci P d l0) :
  ∃ l',wK br a b l0=some l'∧On d a b l0 l'∧Asc d lt a b l':=by
 have hL:=hf0.len
 obtain ⟨l',h1,h2,h3⟩:=jT (fun s=>(b-s.1).toNat) (fun s=>a<s.1∧On d a b l0 s.2∧Asc d lt a (min s.1 b) s.2)
  (fun l'=>On d a b l0 l'∧Asc d lt a b l') (tM br a b) (by
   rintro ⟨i,l⟩ ⟨h1,hon,hI⟩
   simp only at h1 hon hI ⊢
   have hf:=hf0.on hon
   have hl:=hon.len
   unfold tM
   by_cases hib:i<b
   ·left
    obtain ⟨l',q1,q2,q3⟩:=ES hbr w ha h1 (by omega) hf (by rwa [Int.min_eq_left (by omega)] at hI)
    refine ⟨(i+1,l'), ?_,⟨by simp only;omega,hon.trans d (q2.mono d ha (Int.le_refl _) (by omega) (by omega)), ?_⟩,by simp only;omega⟩
    ·simp (disch:=omega) only [hib,decide_true,if_true,q1,Option.bind_some,aP]
    ·simp only
     rw [Int.min_eq_left (by omega)];exact q3
   ·right
    refine ⟨l, ?_,hon, ?_⟩
    ·simp only [hib,decide_false,Bool.false_eq_true,if_false]
    ·rwa [Int.min_eq_right (by omega)] at hI) (a+1,l0) ⟨by simp only;omega,.refl _,fun p q p1 p2 p3=>by simp only at p3;omega⟩
 refine ⟨l', ?_,h2,h3⟩
 unfold wK
 simp (disch:=omega) only [aP,h1,Option.bind_some]
end
def Ir {α:Type} (d:α) (lt:α→α→Bool) (first lo hi:Int) (r:Int) (l:List α):Prop:=∀ p c:Int,lo≤p→p≠r→c<hi→(c=2*p+1∨c=2*p+2)→lt (gz d l (first+p)) (gz d l (first+c))=false
section
variable {α:Type} {br:Br α} {lt:α→α→Bool} {P:α→Prop} {d:α} (hbr:∀ (β:Type) (x y:α) (k:Bool→Option β),P x→P y→br β x y k=k (lt x y)) (w:Oh lt)
include w
theorem II {first hi:Int} {l:List α} (h:Ir d lt first 0 hi (-1) l):∀ n:Nat,∀ c:Int,0≤c→c≤n→c<hi→lt (gz d l first) (gz d l (first+c))=false:=by
 intro n
 induction n with
 | zero => intro c h1 h2 h3;obtain rfl:c = 0 := by omega
           rw [Int.add_zero];exact w.irrefl _
 | succ n ih =>
   intro c h1 h2 h3
   by_cases e:c=0
   ·subst e;rw [Int.add_zero];exact w.irrefl _
   ·have e1:=ih ((c-1) / 2) (by omega) (by omega) (by omega)
    have e2:=h ((c-1) / 2) c (by omega) (by omega) h3 (by omega)
    exact w.le_trans e2 e1
include hbr
theorem Ob {first lo hi:Int} {l0:List α} (h1:0≤first) (h2:0≤lo) (h3:first+hi≤l0.length) (hf0:Ci P d l0) (h0:Ir d lt first lo hi lo l0) (hlo:lo≤l0.length) :
  ∃ l',xO br lo hi first l0=some l'∧On d (first+lo) (first+hi) l0 l'∧Ir d lt first lo hi (-1) l':=by
 have hL:=hf0.len
 obtain ⟨r,q1,q2⟩:=jT (fun s:Int×List α=>(hi-s.1).toNat)
  (fun s:Int×List α=>lo≤s.1∧s.1≤(l0.length:Int)∧On d (first+lo) (first+hi) l0 s.2∧Ir d lt first lo hi s.1 s.2∧∀ p c:Int,lo≤p→(s.1=2*p+1∨s.1=2*p+2)→(c=2*s.1+1∨c=2*s.1+2)→c<hi→lt (gz d s.2 (first+p)) (gz d s.2 (first+c))=false)
  (fun r:List α ⊕ List α=>∃ l',(r=.inl l'∨r=.inr l')∧On d (first+lo) (first+hi) l0 l'∧Ir d lt first lo hi (-1) l') (Af br hi first) (by
   rintro ⟨r,l⟩ ⟨i1,i2,hon,hI,hG⟩
   simp only at i1 i2 hon hI hG ⊢
   have hf:=hf0.on hon
   have hl:=hon.len
   unfold Af
   have e1:aJ (kM 2 r) 1=2*r+1:=by rw [Hw (by omega) (by omega),aP (by omega) (by omega)]
   simp only [e1]
   by_cases hc:2*r+1 ≥ hi
   ·right
    refine ⟨.inl l,by simp only [hc,decide_true,if_true],l,.inl rfl,hon,fun p c p1 p2 p3 p4=>?_⟩
    by_cases e:p=r
    ·omega
    ·exact hI p c p1 e p3 p4
   ·-- the greater child
    have key:∀ ch:Int,(ch=2*r+1∨ch=2*r+2)→ch<hi→(∀ c:Int,(c=2*r+1∨c=2*r+2)→c<hi→lt (gz d l (first+ch)) (gz d l (first+c))=false) →
      (∃ s',sO br first (r,l) ch=some (.inl s')∧(lo≤s'.1∧s'.1≤l0.length∧On d (first+lo) (first+hi) l0 s'.2∧Ir d lt first lo hi s'.1 s'.2∧∀ p c:Int,lo≤p→(s'.1=2*p+1∨s'.1=2*p+2)→(c=2*s'.1+1∨c=2*s'.1+2)→c<hi→lt (gz d s'.2 (first+p)) (gz d s'.2 (first+c))=false)∧(hi-s'.1).toNat<(hi-r).toNat) ∨
      (∃ x,sO br first (r,l) ch=some (.inr x)∧∃ l',(x=.inl l'∨x=.inr l')∧On d (first+lo) (first+hi) l0 l'∧Ir d lt first lo hi (-1) l'):=by
     intro ch c1 c2 c3
     have a1:aJ first r=first+r:=aP (by omega) (by omega)
     have a2:aJ first ch=first+ch:=aP (by omega) (by omega)
     unfold sO
     cases hlt:lt (gz d l (first+r)) (gz d l (first+ch)) with
     | false =>
       right
       refine ⟨.inr l, ?_,l,.inr rfl,hon,fun p c p1 p2 p3 p4=>?_⟩
       ·simp (disch:=first | omega | (simp only [List.length_set];omega) | (refine hf.all _ ?_ ?_ <;> omega)) only [a1,a2,gX d,Option.bind_some,hbr,hlt,Bool.not_false,if_true]
       ·by_cases e:p=r
        ·subst e;exact w.le_trans (c3 c p4 p3) hlt
        ·exact hI p c p1 e p3 p4
     | true =>
       left
       refine ⟨(ch,sw d l (first+r) (first+ch)), ?_,⟨by simp only;omega,by simp only;omega,.step hon _ _ (by omega) (by omega) (by omega) (by omega) (by omega) (by omega), ?_, ?_⟩,by simp only;omega⟩
       ·simp (disch:=first | omega | (simp only [List.length_set];omega) | (refine hf.all _ ?_ ?_ <;> omega)) only [a1,a2,gX d,Option.bind_some,hbr,hlt,Bool.not_true,Bool.false_eq_true,if_false]
        rfl
       ·intro p c p1 p2 p3 p4
        simp only at p2 ⊢
        rw [nP d (by omega) (by omega) (by omega) (by omega) (by omega),nP d (by omega) (by omega) (by omega) (by omega) (by omega)]
        by_cases e1:p=r
        ·rw [if_neg (by omega),if_pos (by omega)]
         by_cases e2:c=ch
         ·rw [if_pos (by omega)];exact w.asymm _ _ hlt
         ·rw [if_neg (by omega),if_neg (by omega)];exact c3 c (by omega) p3
        ·rw [if_neg (by omega),if_neg (by omega)]
         by_cases e2:c=r
         ·rw [if_neg (by omega),if_pos (by omega)];exact hG p ch p1 (by omega) c1 c2
         ·rw [if_neg (by omega),if_neg (by omega)];exact hI p c p1 e1 p3 p4
       ·intro p c p1 p2 p3 p4
        simp only at p2 p3
        simp only
        obtain rfl:p=r:=by omega
        rw [nP d (by omega) (by omega) (by omega) (by omega) (by omega),nP d (by omega) (by omega) (by omega) (by omega) (by omega)]
        rw [if_neg (by omega),if_pos rfl,if_neg (by omega),if_neg (by omega)]
        exact hI ch c (by omega) (by omega) p4 p3
    have b1:aJ first (2*r+1)=first+(2*r+1):=aP (by omega) (by omega)
    have b2:aJ (first+(2*r+1)) 1=first+(2*r+2):=by rw [aP (by omega) (by omega)];omega
    have b3:aJ (2*r+1) 1=2*r+2:=by rw [aP (by omega) (by omega)];omega
    simp only [hc,decide_false,Bool.false_eq_true,if_false,b1,b2,b3]
    by_cases h2c:2*r+2<hi
    ·cases hcc:lt (gz d l (first+(2*r+1))) (gz d l (first+(2*r+2))) with
     | true =>
       simp (disch:=first | omega | (refine hf.all _ ?_ ?_ <;> omega)) only [h2c,decide_true,if_true,gX d,Option.bind_some,hbr,hcc]
       refine key (2*r+2) (.inr rfl) h2c fun c p1 p2=>?_
       rcases p1 with rfl | rfl
       ·exact w.asymm _ _ hcc
       ·exact w.irrefl _
     | false =>
       simp (disch:=first | omega | (refine hf.all _ ?_ ?_ <;> omega)) only [h2c,decide_true,if_true,gX d,Option.bind_some,hbr,hcc,Bool.false_eq_true,if_false]
       refine key (2*r+1) (.inl rfl) (by omega) fun c p1 p2=>?_
       rcases p1 with rfl | rfl
       ·exact w.irrefl _
       ·exact hcc
    ·simp only [h2c,decide_false,Bool.false_eq_true,if_false,Option.bind_some]
     refine key (2*r+1) (.inl rfl) (by omega) fun c p1 p2=>?_
     obtain rfl:c=2*r+1:=by omega
     exact w.irrefl _) (lo,l0) ⟨Int.le_refl _,hlo,.refl _,h0,fun p c p1 p2=>by simp only at p2;omega⟩
 obtain ⟨l',hr,q3,q4⟩:=q2
 refine ⟨l', ?_,q3,q4⟩
 unfold xO
 rw [q1]
 rcases hr with rfl | rfl <;> rfl
theorem Xq {a b:Int} {l0:List α} (ha:0≤a) (hab:a≤b) (hb:b≤l0.length) (hf0:Ci P d l0) :
  ∃ l',Gu br a b l0=some l'∧On d a b l0 l'∧Asc d lt a b l':=by
 have hL:=hf0.len
 have s1:aK b a=b-a:=bC (by omega) (by omega)
 have s2:aK (b-a) 1=b-a-1:=bC (by omega) (by omega)
 have ht:0≤(b-a-1).tdiv 2∧(b-a-1).tdiv 2≤b-a∧b-a-1<2*(b-a-1).tdiv 2+2:=by
  by_cases h:0≤b-a-1
  ·rw [Int.tdiv_eq_ediv_of_nonneg h];omega
  ·rw [show b-a-1=-1 from by omega,show Int.tdiv (-1) 2=0 from rfl];omega
 have s3:tO (b-a-1) 2=(b-a-1).tdiv 2:=Cf _ (by omega) (by omega)
 obtain ⟨l1,q1,q2,q3⟩:=jT (fun s:Int×List α=>(s.1+1).toNat) (fun s:Int×List α=>-1≤s.1∧s.1≤b-a∧On d a b l0 s.2∧Ir d lt a (s.1+1) (b-a) (-1) s.2)
  (fun l'=>On d a b l0 l'∧Ir d lt a 0 (b-a) (-1) l') (Ad br a b) (by
   rintro ⟨i,l⟩ ⟨i1,i2,hon,hI⟩
   simp only at i1 i2 hon hI ⊢
   have hf:=hf0.on hon
   have hl:=hon.len
   unfold Ad
   by_cases hi:i ≥ 0
   ·left
    obtain ⟨l',p1,p2,p3⟩:=Ob hbr w (first:=a) (lo:=i) (hi:=b-a) ha hi (by omega) hf (fun p c c1 c2 c3 c4=>hI p c (by omega) (by omega) c3 c4) (by omega)
    refine ⟨(i-1,l'), ?_,⟨by simp only;omega,by simp only;omega,hon.trans d (p2.mono d ha (by omega) (by omega) (by omega)), ?_⟩,by simp only;omega⟩
    ·simp (disch:=omega) only [hi,decide_true,if_true,s1,p1,Option.bind_some,bC]
    ·simp only
     rw [show i-1+1=i from by omega];exact p3
   ·right
    refine ⟨l,by simp only [hi,decide_false,Bool.false_eq_true,if_false],hon, ?_⟩
    rwa [show i+1=0 from by omega] at hI) ((b-a-1).tdiv 2,l0) ⟨by simp only;omega,by simp only;omega,.refl _,fun p c p1 p2 p3 p4=>by simp only at p1;omega⟩
 have hl1:=q2.len
 obtain ⟨l2,r1,r2,r3⟩:=jT (fun s:Int×List α=>(s.1+1).toNat)
  (fun s:Int×List α=>-1≤s.1∧s.1<b-a∧On d a b l0 s.2∧Ir d lt a 0 (s.1+1) (-1) s.2∧∀ q:Int,s.1<q→q<b-a→∀ p:Int,0≤p→p<q→lt (gz d s.2 (a+q)) (gz d s.2 (a+p))=false)
  (fun l'=>On d a b l0 l'∧Asc d lt a b l') (Ae br a) (by
   rintro ⟨i,l⟩ ⟨i1,i2,hon,hH,hI⟩
   simp only at i1 i2 hon hH hI ⊢
   have hf:=hf0.on hon
   have hl:=hon.len
   unfold Ae
   by_cases hi:i ≥ 0
   ·left
    have hmax:=fun c h1 h2=>II w hH i.toNat c h1 (by omega) h2
    have hsw:On d a (a+i+1) l (sw d l a (a+i)):=.step (.refl _) _ _ (Int.le_refl _) (by omega) (by omega) (by omega) ha (by omega)
    have hsl:(sw d l a (a+i)).length=l.length:=Sh ..
    obtain ⟨l',p1,p2,p3⟩:=Ob hbr w (first:=a) (lo:=0) (hi:=i) (l0:=sw d l a (a+i)) ha (Int.le_refl _) (by omega) (hf.on hsw) (fun p c c1 c2 c3 c4=>by
     rw [nP d (by omega) (by omega) (by omega) (by omega) (by omega),nP d (by omega) (by omega) (by omega) (by omega) (by omega)]
     rw [if_neg (by omega),if_neg (by omega),if_neg (by omega),if_neg (by omega)]
     exact hH p c c1 (by omega) (by omega) c4) (by omega)
    have hall:On d a (a+i+1) l l':=hsw.trans d (p2.mono d ha (by omega) (by omega) (by omega))
    have a1:aJ a i=a+i:=aP (by omega) (by omega)
    refine ⟨(i-1,l'), ?_,⟨by simp only;omega,by simp only;omega,hon.trans d (hall.mono d ha (Int.le_refl _) (by omega) (by omega)), ?_, ?_⟩,by simp only;omega⟩
    ·have p1':xO br 0 i a (List.set (List.set l (Int.toNat a) (gz d l (a+i))) (Int.toNat (a+i)) (gz d l a))=some l':=p1
     simp (disch:=first | omega | (simp only [List.length_set];omega)) only [hi,decide_true,if_true,a1,gX d,Option.bind_some,p1',bC]
    ·simp only
     rw [show i-1+1=i from by omega];exact p3
    ·simp only
     intro q c1 c2 p c3 c4
     by_cases e:q=i
     ·subst e
      have e1:gz d l' (a+q)=gz d l a:=by
       rw [p2.out d (by omega) (.inr (by omega)),nP d (by omega) (by omega) (by omega) (by omega) (by omega),if_pos rfl]
      rw [e1]
      refine p2.all d (fun x=>lt (gz d l a) x=false) (fun k k1 k2=>?_) (a+p) (by omega) (by omega)
      rw [nP d (by omega) (by omega) (by omega) (by omega) (by omega),if_neg (by omega)]
      split
      ·exact hmax q (by omega) (by omega)
      ·have:=hmax (k-a) (by omega) (by omega)
       rwa [show a+(k-a)=k from by omega] at this
     ·have e1:gz d l' (a+q)=gz d l (a+q):=hall.out d (by omega) (.inr (by omega))
      rw [e1]
      by_cases e2:p≤i
      ·refine hall.all d (fun x=>lt (gz d l (a+q)) x=false) (fun k k1 k2=>?_) (a+p) (by omega) (by omega)
       have:=hI q (by omega) c2 (k-a) (by omega) (by omega)
       rwa [show a+(k-a)=k from by omega] at this
      ·rw [hall.out d (k:=a+p) (by omega) (.inr (by omega))]
       exact hI q (by omega) c2 p c3 c4
   ·right
    refine ⟨l,by simp only [hi,decide_false,Bool.false_eq_true,if_false],hon,fun p q c1 c2 c3=>?_⟩
    have:=hI (q-a) (by omega) (by omega) (p-a) (by omega) (by omega)
    rwa [show a+(q-a)=q from by omega,show a+(p-a)=p from by omega] at this) (b-a-1,l1) ⟨by simp only;omega,by simp only;omega,q2,by simp only;rw [show b-a-1+1=b-a from by omega];exact q3,fun q c1 c2=>by simp only at c1;omega⟩
 refine ⟨l2, ?_,r2,r3⟩
 unfold Gu
 simp only [s1,s2,s3,q1,Option.bind_some,r1]
end
theorem Pt {body:Int→Option (Int ⊕ Int)} (c:Int→Bool) {i j:Int} (hij:i≤j+1) (hs:∀ s,i≤s→s≤j→body s=if c s then some (.inl (s+1)) else some (.inr s)) (he:body (j+1)=some (.inr (j+1))) :
  ∃ x,aH body i=some x∧i≤x∧x≤j+1∧(∀ k,i≤k→k<x→c k=true)∧(x≤j→c x=false):=
 jT (fun s:Int=>(j+1-s).toNat) (fun s=>i≤s∧s≤j+1∧∀ k,i≤k→k<s→c k=true) (fun x=>i≤x∧x≤j+1∧(∀ k,i≤k→k<x→c k=true)∧(x≤j→c x=false)) body (by
  rintro s ⟨h1,h2,h3⟩
  by_cases h:s≤j
  ·cases hc:c s with
   | true =>
     left
     refine ⟨s+1,by rw [hs s h1 h,hc];rfl,⟨by omega,by omega,fun k k1 k2=>?_⟩,by omega⟩
     by_cases e:k=s
     ·subst e;exact hc
     ·exact h3 k k1 (by omega)
   | false =>
     right
     exact ⟨s,by rw [hs s h1 h,hc];rfl,h1,h2,h3,fun _=>hc⟩
  ·right
   obtain rfl:s=j+1:=by omega
   exact ⟨_,he,h1,h2,h3,fun q=>absurd q (by omega)⟩) i ⟨Int.le_refl _,hij,fun k k1 k2=>absurd k1 (by omega)⟩
theorem Ik {body:Int→Option (Int ⊕ Int)} (c:Int→Bool) {i j:Int} (hij:i≤j+1) (hs:∀ s,i≤s→s≤j→body s=if c s then some (.inl (s-1)) else some (.inr s)) (he:body (i-1)=some (.inr (i-1))) :
  ∃ x,aH body j=some x∧i-1≤x∧x≤j∧(∀ k,x<k→k≤j→c k=true)∧(i≤x→c x=false):=
 jT (fun s:Int=>(s+1-i).toNat) (fun s=>i-1≤s∧s≤j∧∀ k,s<k→k≤j→c k=true) (fun x=>i-1≤x∧x≤j∧(∀ k,x<k→k≤j→c k=true)∧(i≤x→c x=false)) body (by
  rintro s ⟨h1,h2,h3⟩
  by_cases h:i≤s
  ·cases hc:c s with
   | true =>
     left
     refine ⟨s-1,by rw [hs s h h2,hc];rfl,⟨by omega,by omega,fun k k1 k2=>?_⟩,by omega⟩
     by_cases e:k=s
     ·subst e;exact hc
     ·exact h3 k (by omega) k2
   | false =>
     right
     exact ⟨s,by rw [hs s h h2,hc];rfl,h1,h2,h3,fun _=>hc⟩
  ·right
   obtain rfl:s=i-1:=by omega
   exact ⟨_,he,h1,h2,h3,fun q=>absurd q (by omega)⟩) j ⟨by omega,Int.le_refl _,fun k k1 k2=>absurd k1 (by omega)⟩
section
variable {α:Type} {br:Br α} {lt:α→α→Bool} {P:α→Prop} {d:α} (hbr:∀ (β:Type) (x y:α) (k:Bool→Option β),P x→P y→br β x y k=k (lt x y)) (w:Oh lt)
include hbr
theorem Ru {a b:Int} {l0:List α} (ha:0≤a) (hab:a<b) (hb:b≤l0.length) (hf0:Ci P d l0) {i0 j0:Int} (h1:a+1≤i0) (h2:j0≤b-1) (h3:i0≤j0+1)
  (hlo:∀ k,a+1≤k→k<i0→lt (gz d l0 k) (gz d l0 a)=true) (hhi:∀ k,j0<k→k<b→lt (gz d l0 k) (gz d l0 a)=false) :
  ∃ r,aH (uO br a) (i0,j0,l0)=some r∧On d (a+1) b l0 r.2∧gz d r.2 a=gz d l0 a∧a≤r.1∧r.1<b∧(∀ k,a+1≤k→k≤r.1→lt (gz d r.2 k) (gz d l0 a)=true)∧(∀ k,r.1<k→k<b→lt (gz d r.2 k) (gz d l0 a)=false):=by
 have hL:=hf0.len
 refine jT (fun s:Int×Int×List α=>(s.2.1+1-s.1).toNat) (fun s:Int×Int×List α=>a+1≤s.1∧s.2.1≤b-1∧s.1≤s.2.1+1∧On d (a+1) b l0 s.2.2∧gz d s.2.2 a=gz d l0 a ∧
  (∀ k,a+1≤k→k<s.1→lt (gz d s.2.2 k) (gz d l0 a)=true)∧(∀ k,s.2.1<k→k<b→lt (gz d s.2.2 k) (gz d l0 a)=false)) _ (uO br a) ?_ (i0,j0,l0) ⟨h1,h2,h3,.refl _,rfl,hlo,hhi⟩
 rintro ⟨i,j,l⟩ ⟨i1,i2,i3,hon,hp,hI,hJ⟩
 simp only at i1 i2 i3 hon hp hI hJ ⊢
 have hf:=hf0.on hon
 have hl:=hon.len
 unfold uO
 obtain ⟨x,x1,x2,x3,x4,x5⟩:=Pt (body:=uM br a (i,j,l)) (fun k=>lt (gz d l k) (gz d l0 a)) i3 (fun s s1 s2=>by
  unfold uM
  simp (disch:=first | omega | (refine hf.all _ ?_ ?_ <;> omega) | (refine hf0.all _ ?_ ?_ <;> omega)) only [s2,decide_true,if_true,gX d,Option.bind_some,hbr,hp,aP]) (by
  unfold uM
  simp only [show ¬ j+1≤j from by omega,decide_false,Bool.false_eq_true,if_false,Option.bind_some])
 obtain ⟨y,y1,y2,y3,y4,y5⟩:=Ik (body:=uN br a (i,j,l) x) (fun k=>!lt (gz d l k) (gz d l0 a)) x3 (fun s s1 s2=>by
  unfold uN
  simp (disch:=first | omega | (refine hf.all _ ?_ ?_ <;> omega) | (refine hf0.all _ ?_ ?_ <;> omega)) only [s1,decide_true,if_true,gX d,Option.bind_some,hbr,hp,bC]) (by
  unfold uN
  simp only [show ¬ x≤x-1 from by omega,decide_false,Bool.false_eq_true,if_false,Option.bind_some])
 simp only [x1,y1,Option.bind_some]
 by_cases hxy:x>y
 ·right
  refine ⟨(y,l),by simp only [hxy,decide_true,if_true],hon,hp,by simp only;omega,by simp only;omega,fun k k1 k2=>?_,fun k k1 k2=>?_⟩
  ·simp only at k2 ⊢
   by_cases e:k<i
   ·exact hI k k1 e
   ·exact x4 k (by omega) (by omega)
  ·simp only at k1 ⊢
   by_cases e:j<k
   ·exact hJ k e k2
   ·have:=y4 k (by omega) (by omega)
    simpa using this
 ·left
  have hx:=x5 (by omega)
  have hy:=y5 (by omega)
  simp only [Bool.not_eq_eq_eq_not,Bool.not_false] at hy
  have hne:x≠y:=fun e=>by subst e;rw [hx] at hy;cases hy
  refine ⟨(x+1,y-1,sw d l x y), ?_,⟨by simp only;omega,by simp only;omega,by simp only;omega,.step hon x y (by omega) (by omega) (by omega) (by omega) (by omega) (by omega), ?_,fun k k1 k2=>?_,fun k k1 k2=>?_⟩,by simp only;omega⟩
  ·simp (disch:=first | omega | (simp only [List.length_set];omega)) only [hxy,decide_false,Bool.false_eq_true,if_false,gX d,Option.bind_some,aP,bC]
   rfl
  ·simp only
   rw [nP d (by omega) (by omega) (by omega) (by omega) (by omega),if_neg (by omega),if_neg (by omega)];exact hp
  ·simp only at k2 ⊢
   rw [nP d (by omega) (by omega) (by omega) (by omega) (by omega),if_neg (by omega)]
   by_cases e:k=x
   ·rw [if_pos e];exact hy
   ·rw [if_neg e]
    by_cases e:k<i
    ·exact hI k k1 e
    ·exact x4 k (by omega) (by omega)
  ·simp only at k1 ⊢
   rw [nP d (by omega) (by omega) (by omega) (by omega) (by omega)]
   by_cases e:k=y
   ·rw [if_pos e];exact hx
   ·rw [if_neg e,if_neg (by omega)]
    by_cases e:j<k
    ·exact hJ k e k2
    ·have:=y4 k (by omega) (by omega)
     simpa using this
theorem Vy {a b pivot:Int} {l0:List α} (ha:0≤a) (hab:a<b) (hb:b≤l0.length) (hf0:Ci P d l0) (hp1:a≤pivot) (hp2:pivot<b) :
  ∃ mid al l',yO br a b pivot l0=some (mid,al,l')∧On d a b l0 l'∧a≤mid∧mid<b∧(∀ k,a≤k→k<mid→lt (gz d l' k) (gz d l' mid)=true)∧(∀ k,mid<k→k<b→lt (gz d l' k) (gz d l' mid)=false):=by
 have hL:=hf0.len
 have hon1:On d a b l0 (sw d l0 a pivot):=.step (.refl _) _ _ (Int.le_refl _) hab hp1 hp2 ha hb
 obtain ⟨l1,hl1⟩:∃ l1,sw d l0 a pivot=l1:=⟨_,rfl⟩
 have e1:List.set (List.set l0 (Int.toNat a) (gz d l0 pivot)) (Int.toNat pivot) (gz d l0 a)=l1:=hl1
 rw [hl1] at hon1
 have hf:=hf0.on hon1
 have hl:=hon1.len
 have s1:aK b 1=b-1:=bC (by omega) (by omega)
 have s2:aJ a 1=a+1:=aP (by omega) (by omega)
 unfold yO
 simp (disch:=first | omega | (simp only [List.length_set];omega)) only [gX d (l:=l0),Option.bind_some]
 rw [show idx (l0.set a.toNat (gz d l0 pivot)) pivot=some (gz d (l0.set a.toNat (gz d l0 pivot)) pivot) from gX d (by omega) (by rw [List.length_set];omega),Option.bind_some,e1]
 obtain ⟨x,x1,x2,x3,x4,x5⟩:=Pt (body:=uK br a b pivot l0 (gz d l0 pivot) (gz d l0 a)) (fun k=>lt (gz d l1 k) (gz d l1 a)) (i:=a+1) (j:=b-1) (by omega) (fun s q1 q2=>by
  unfold uK
  simp (disch:=first | omega | (refine hf.all _ ?_ ?_ <;> omega)) only [e1,s1,q2,decide_true,if_true,gX d,Option.bind_some,hbr,aP]) (by
  unfold uK
  simp only [s1,show ¬ b-1+1≤b-1 from by omega,decide_false,Bool.false_eq_true,if_false,Option.bind_some])
 obtain ⟨y,y1,y2,y3,y4,y5⟩:=Ik (body:=uL br a pivot l0 (gz d l0 pivot) (gz d l0 a) x) (fun k=>!lt (gz d l1 k) (gz d l1 a)) (i:=x) (j:=b-1) x3 (fun s q1 q2=>by
  unfold uL
  simp (disch:=first | omega | (refine hf.all _ ?_ ?_ <;> omega)) only [e1,q1,decide_true,if_true,gX d,Option.bind_some,hbr,bC]) (by
  unfold uL
  simp only [show ¬ x≤x-1 from by omega,decide_false,Bool.false_eq_true,if_false,Option.bind_some])
 have fin:∀ (m:Int) (l:List α),On d a b l0 l→a≤m→m<b→gz d l a=gz d l1 a→(∀ k,a+1≤k→k≤m→lt (gz d l k) (gz d l1 a)=true)→(∀ k,m<k→k<b→lt (gz d l k) (gz d l1 a)=false) →
   On d a b l0 (sw d l m a)∧(∀ k,a≤k→k<m→lt (gz d (sw d l m a) k) (gz d (sw d l m a) m)=true)∧(∀ k,m<k→k<b→lt (gz d (sw d l m a) k) (gz d (sw d l m a) m)=false):=by
  intro m l on m1 m2 hq hlo hhi
  have hl:=on.len
  have em:gz d (sw d l m a) m=gz d l1 a:=by
   rw [nP d (by omega) (by omega) (by omega) (by omega) (by omega)]
   by_cases e:m=a
   ·rw [if_pos e,e];exact hq
   ·rw [if_neg e,if_pos rfl];exact hq
  refine ⟨.step on m a (by omega) (by omega) (by omega) (by omega) ha (by omega),fun k k1 k2=>?_,fun k k1 k2=>?_⟩
  ·rw [em,nP d (by omega) (by omega) (by omega) (by omega) (by omega)]
   by_cases e:k=a
   ·rw [if_pos e];exact hlo m (by omega) (Int.le_refl _)
   ·rw [if_neg e,if_neg (by omega)];exact hlo k (by omega) (by omega)
  ·rw [em,nP d (by omega) (by omega) (by omega) (by omega) (by omega),if_neg (by omega),if_neg (by omega)]
   exact hhi k k1 k2
 simp only [s1,s2,x1,y1,Option.bind_some]
 by_cases hxy:x>y
 ·obtain ⟨f1,f2,f3⟩:=fin y l1 hon1 (by omega) (by omega) rfl (fun k k1 k2=>x4 k k1 (by omega)) (fun k k1 k2=>by
   have:=y4 k k1 (by omega)
   simpa using this)
  refine ⟨y,true,sw d l1 y a, ?_,f1,by omega,by omega,f2,f3⟩
  simp (disch:=first | omega | (simp only [List.length_set];omega)) only [hxy,decide_true,if_true,gX d,Option.bind_some]
  rfl
 ·have hx:=x5 (by omega)
  have hy:=y5 (by omega)
  simp only [Bool.not_eq_eq_eq_not,Bool.not_false] at hy
  have hne:x≠y:=fun e=>by subst e;rw [hx] at hy;cases hy
  have hon2:On d (a+1) b l1 (sw d l1 x y):=.step (.refl _) x y (by omega) (by omega) (by omega) (by omega) (by omega) (by omega)
  have hga:gz d (sw d l1 x y) a=gz d l1 a:=by rw [nP d (by omega) (by omega) (by omega) (by omega) (by omega),if_neg (by omega),if_neg (by omega)]
  have hl2:(sw d l1 x y).length=l1.length:=Sh ..
  obtain ⟨r,r1,r2,r3,r4,r5,r6,r7⟩:=Ru hbr (i0:=x+1) (j0:=y-1) ha hab (by omega) (hf.on hon2) (by omega) (by omega) (by omega) (fun k k1 k2=>by
   rw [hga,nP d (by omega) (by omega) (by omega) (by omega) (by omega),if_neg (by omega)]
   by_cases e:k=x
   ·rw [if_pos e];exact hy
   ·rw [if_neg e];exact x4 k k1 (by omega)) (fun k k1 k2=>by
   rw [hga,nP d (by omega) (by omega) (by omega) (by omega) (by omega)]
   by_cases e:k=y
   ·rw [if_pos e];exact hx
   ·rw [if_neg e,if_neg (by omega)]
    have:=y4 k (by omega) (by omega)
    simpa using this)
  rw [hga] at r3 r6 r7
  have hon3:=(hon2.trans d r2).mono d ha (by omega) (Int.le_refl _) (by omega)
  have hl3:=r2.len
  obtain ⟨f1,f2,f3⟩:=fin r.1 r.2 (hon1.trans d hon3) r4 r5 r3 r6 r7
  have e2:List.set (List.set l1 (Int.toNat x) (gz d l1 y)) (Int.toNat y) (gz d l1 x)=sw d l1 x y:=rfl
  refine ⟨r.1,false,sw d r.2 r.1 a, ?_,f1,r4,r5,f2,f3⟩
  simp (disch:=first | omega | (simp only [List.length_set];omega)) only [hxy,decide_false,Bool.false_eq_true,if_false,gX d,Option.bind_some,aP,bC,e2,r1]
  rfl
theorem Lw {a b pivot:Int} {l0:List α} (ha:0≤a) (hab:a<b) (hb:b≤l0.length) (hf0:Ci P d l0) (hp1:a≤pivot) (hp2:pivot<b) (hirr:∀ x,lt x x=false) :
  ∃ mid l',vG br a b pivot l0=some (mid,l')∧On d a b l0 l'∧a<mid∧mid≤b∧(∀ k,a≤k→k<mid→lt (gz d l0 pivot) (gz d l' k)=false):=by
 have hL:=hf0.len
 have hon1:On d a b l0 (sw d l0 a pivot):=.step (.refl _) _ _ (Int.le_refl _) hab hp1 hp2 ha hb
 obtain ⟨l1,hl1⟩:∃ l1,sw d l0 a pivot=l1:=⟨_,rfl⟩
 have e1:List.set (List.set l0 (Int.toNat a) (gz d l0 pivot)) (Int.toNat pivot) (gz d l0 a)=l1:=hl1
 have hpa:gz d l1 a=gz d l0 pivot:=by
  rw [← hl1,nP d (by omega) (by omega) (by omega) (by omega) (by omega)]
  by_cases e:a=pivot
  ·rw [if_pos e,e]
  ·rw [if_neg e,if_pos rfl]
 rw [hl1] at hon1
 have hf1:=hf0.on hon1
 have hl1':=hon1.len
 have s1:aK b 1=b-1:=bC (by omega) (by omega)
 have s2:aJ a 1=a+1:=aP (by omega) (by omega)
 obtain ⟨r,r1,r2,r3,r4,r5⟩:=jT (fun s:Int×Int×List α=>(s.2.1+1-s.1).toNat) (fun s:Int×Int×List α=>a+1≤s.1∧s.2.1≤b-1∧s.1≤s.2.1+1∧On d (a+1) b l1 s.2.2∧gz d s.2.2 a=gz d l1 a ∧
   (∀ k,a+1≤k→k<s.1→lt (gz d l1 a) (gz d s.2.2 k)=false)) (fun r:Int×List α=>On d a b l0 r.2∧a<r.1∧r.1≤b∧(∀ k,a≤k→k<r.1→lt (gz d l0 pivot) (gz d r.2 k)=false)) (sN br a) (by
  rintro ⟨i,j,l⟩ ⟨i1,i2,i3,hon,hp,hI⟩
  simp only at i1 i2 i3 hon hp hI ⊢
  have hf:=hf1.on hon
  have hl:=hon.len
  unfold sN
  obtain ⟨x,x1,x2,x3,x4,x5⟩:=Pt (body:=nM br a (i,j,l)) (fun k=>!lt (gz d l1 a) (gz d l k)) i3 (fun s s1 s2=>by
   unfold nM
   simp (disch:=first | omega | (refine hf.all _ ?_ ?_ <;> omega) | (refine hf1.all _ ?_ ?_ <;> omega)) only [s2,decide_true,if_true,gX d,Option.bind_some,hbr,hp,aP]) (by
   unfold nM
   simp only [show ¬ j+1≤j from by omega,decide_false,Bool.false_eq_true,if_false,Option.bind_some])
  obtain ⟨y,y1,y2,y3,y4,y5⟩:=Ik (body:=nN br a (i,j,l) x) (fun k=>lt (gz d l1 a) (gz d l k)) x3 (fun s s1 s2=>by
   unfold nN
   simp (disch:=first | omega | (refine hf.all _ ?_ ?_ <;> omega) | (refine hf1.all _ ?_ ?_ <;> omega)) only [s1,decide_true,if_true,gX d,Option.bind_some,hbr,hp,bC]) (by
   unfold nN
   simp only [show ¬ x≤x-1 from by omega,decide_false,Bool.false_eq_true,if_false,Option.bind_some])
  simp only [x1,y1,Option.bind_some]
  have below:∀ k,a+1≤k→k<x→lt (gz d l1 a) (gz d l k)=false:=fun k k1 k2=>by
   by_cases e:k<i
   ·exact hI k k1 e
   ·have:=x4 k (by omega) k2
    simpa using this
  by_cases hxy:x>y
  ·right
   refine ⟨(x,l),by simp only [hxy,decide_true,if_true],hon1.trans d (hon.mono d ha (by omega) (Int.le_refl _) (by omega)),by simp only;omega,by simp only;omega,fun k k1 k2=>?_⟩
   simp only at k2 ⊢
   rw [← hpa]
   by_cases e:k=a
   ·rw [e,hp];exact hirr _
   ·exact below k (by omega) k2
  ·left
   have hx:=x5 (by omega)
   have hy:=y5 (by omega)
   simp only [Bool.not_eq_eq_eq_not,Bool.not_false] at hx
   have hne:x≠y:=fun e=>by subst e;rw [hx] at hy;cases hy
   refine ⟨(x+1,y-1,sw d l x y), ?_,⟨by simp only;omega,by simp only;omega,by simp only;omega,.step hon x y (by omega) (by omega) (by omega) (by omega) (by omega) (by omega), ?_,fun k k1 k2=>?_⟩,by simp only;omega⟩
   ·simp (disch:=first | omega | (simp only [List.length_set];omega)) only [hxy,decide_false,Bool.false_eq_true,if_false,gX d,Option.bind_some,aP,bC]
    rfl
   ·simp only
    rw [nP d (by omega) (by omega) (by omega) (by omega) (by omega),if_neg (by omega),if_neg (by omega)];exact hp
   ·simp only at k2 ⊢
    rw [nP d (by omega) (by omega) (by omega) (by omega) (by omega),if_neg (by omega)]
    by_cases e:k=x
    ·rw [if_pos e];exact hy
    ·rw [if_neg e];exact below k k1 (by omega)) (a+1,b-1,l1) ⟨by simp only;omega,by simp only;omega,by simp only;omega,.refl _,rfl,fun k k1 k2=>absurd k1 (by simp only at k2;omega)⟩
 refine ⟨r.1,r.2, ?_,r2,r3,r4,r5⟩
 unfold vG
 simp (disch:=first | omega | (simp only [List.length_set];omega)) only [gX d (l:=l0),Option.bind_some]
 rw [show idx (l0.set a.toNat (gz d l0 pivot)) pivot=some (gz d (l0.set a.toNat (gz d l0 pivot)) pivot) from gX d (by omega) (by rw [List.length_set];omega),Option.bind_some,e1]
 simp only [s1,s2,r1,Option.bind_some]
end
theorem wrap_u64 {x:Int} (h0:0≤x) (h1:x<18446744073709551616):IntKind.wrap .u64 x=x:=by
 simp only [IntKind.wrap,IntKind.signed,IntKind.bits,IntKind.min,IntKind.max]
 first | omega | (simp;omega)
theorem QN:((List.range 256).all fun c=>match pK ((c:Int),0) with | some t=>decide (0≤t∧t≤8∧2^t.toNat≤max 1 (2*c)) | none=>false)=true:=by decide +kernel
theorem IW (c n:Int) (h0:0≤n) (h1:n≤64) (hc:0≤c) (hc2:c<256):∃ t:Int,pK (c,n)=some (n+t)∧0≤t∧t≤8∧2^t.toNat≤max 1 (2*c.toNat):=by
 have h:=List.all_eq_true.1 QN c.toNat (List.mem_range.2 (by omega))
 rw [show ((c.toNat:Nat):Int)=c from by omega] at h
 obtain ⟨T,hT⟩:∃ T:Int→Option Int,∀ c n,pK (c,n)=(T c).bind fun x=>some (aJ n (IntKind.wrap .i64 x)):=⟨fun c=>Hj (ByteArray.mk #[0,1,2,2,3,3,3,3,4,4,4,4,4,4,4,4,5,5,5,5,5,5,5,5,5,5,5,5,5,5,5,5,6,6,6,6,6,6,6,6,6,6,6,6,6,6,6,6,6,6,6,6,6,6,6,6,6,6,6,6,6,6,6,6,7,7,7,7,7,7,7,7,7,7,7,7,7,7,7,7,7,7,7,7,7,7,7,7,7,7,7,7,7,7,7,7,7,7,7,7,7,7,7,7,7,7,7,7,7,7,7,7,7,7,7,7,7,7,7,7,7,7,7,7,7,7,7,7,8,8,8,8,8,8,8,8,8,8,8,8,8,8,8,8,8,8,8,8,8,8,8,8,8,8,8,8,8,8,8,8,8,8,8,8,8,8,8,8,8,8,8,8,8,8,8,8,8,8,8,8,8,8,8,8,8,8,8,8,8,8,8,8,8,8,8,8,8,8,8,8,8,8,8,8,8,8,8,8,8,8,8,8,8,8,8,8,8,8,8,8,8,8,8,8,8,8,8,8,8,8,8,8,8,8,8,8,8,8,8,8,8,8,8,8,8,8,8,8,8,8,8,8,8,8,8,8]) (IntKind.wrap .u8 c),fun _ _=>rfl⟩
 rw [hT] at h ⊢
 cases hs:T c with
 | none=>rw [hs] at h;simp at h
 | some t =>
   rw [hs] at h
   simp only [Option.bind_some,decide_eq_true_eq] at h ⊢
   generalize hw:IntKind.i64.wrap t=v at h ⊢
   have hv:aJ 0 v=v:=by
    unfold aJ
    rw [Int.zero_add,← hw]
    simp only [IntKind.wrap,IntKind.signed,IntKind.bits,IntKind.min,IntKind.max]
    first | omega | (simp only [Int.reducePow,if_true];omega) | (simp;omega)
   rw [hv] at h
   exact ⟨v,by rw [aP (by omega) (by omega)],h.1,h.2.1,h.2.2⟩
theorem JE {x:Int} (h0:0≤x) (h1:x≤1073741824):∃ v:Int,By (IntKind.wrap .u64 x)=some v∧0≤v∧v≤40∧2^v.toNat≤max 1 (2*x.toNat):=by
 have hw:IntKind.wrap .u64 x=x:=by
  exact wrap_u64 (by omega) (by omega)
 have c8:(2^(min (Int.toNat 8) 64):Int)=256:=by decide
 have c16:(2^(min (Int.toNat 16) 64):Int)=65536:=by decide
 have step:∀ (c n:Int),0≤c→0≤n→n≤30→c<65536→∃ t:Int,tH (c,n)=some (n+t)∧0≤t∧t≤16∧2^t.toNat≤max 1 (2*c.toNat):=fun c n h0 hn hn2 hc=>by
  unfold tH
  by_cases q:c ≥ 256
  ·simp only [q,decide_true,if_true,c8]
   have e:Int.fdiv c 256=c / 256:=Int.fdiv_eq_ediv_of_nonneg _ (by omega)
   rw [e,aP (by omega) (by omega)]
   obtain ⟨t,t1,t2,t3,t4⟩:=IW (c / 256) (n+8) (by omega) (by omega) (by omega) (by omega)
   refine ⟨8+t,by rw [t1];congr 1;omega,by omega,by omega, ?_⟩
   rw [show (8+t).toNat=8+t.toNat from by omega,Nat.pow_add]
   omega
  ·simp only [q,decide_false,Bool.false_eq_true,if_false]
   obtain ⟨t,t1,t2,t3,t4⟩:=IW c n (by omega) (by omega) (by omega) (by omega)
   exact ⟨t,t1,t2,by omega,t4⟩
 unfold By Iv wH
 rw [hw]
 have q:¬ x ≥ 4294967296:=by omega
 simp only [q,decide_false,Bool.false_eq_true,if_false]
 by_cases q:x ≥ 65536
 ·simp only [q,decide_true,if_true,c16]
  have e:Int.fdiv x 65536=x / 65536:=Int.fdiv_eq_ediv_of_nonneg _ (by omega)
  rw [e,show aJ 0 16=16 from rfl]
  obtain ⟨t,t1,t2,t3,t4⟩:=step (x / 65536) 16 (by omega) (by omega) (by omega) (by omega)
  refine ⟨16+t,by rw [t1];rfl,by omega,by omega, ?_⟩
  rw [show (16+t).toNat=16+t.toNat from by omega,Nat.pow_add]
  omega
 ·simp only [q,decide_false,Bool.false_eq_true,if_false]
  obtain ⟨t,t1,t2,t3,t4⟩:=step x 0 h0 (by omega) (by omega) (by omega)
  refine ⟨t,by rw [t1,Int.zero_add];rfl,t2,by omega,t4⟩
section
variable {α:Type} {br:Br α} {lt:α→α→Bool} {P:α→Prop} {d:α} (hbr:∀ (β:Type) (x y:α) (k:Bool→Option β),P x→P y→br β x y k=k (lt x y)) (w:Oh lt)
theorem AW {a b:Int} {l0:List α} (ha:0≤a) (hb:b≤l0.length) (hL:(l0.length:Int)≤1073741824) (hab:a≤b):∃ l',yB br a b l0=some l'∧On d a b l0 l':=by
 obtain ⟨l',r1,r2⟩:=jT (fun s:Int×Int×List α=>(s.2.1+1-s.1).toNat) (fun s:Int×Int×List α=>a≤s.1∧s.2.1<b∧s.1≤b∧a-1≤s.2.1∧On d a b l0 s.2.2) (fun l'=>On d a b l0 l') (uP br) (by
  rintro ⟨i,j,l⟩ ⟨h1,h2,h3,h4,hon⟩
  simp only at h1 h2 h3 h4 hon ⊢
  have hl:=hon.len
  unfold uP
  by_cases q:i<j
  ·left
   refine ⟨(i+1,j-1,sw d l i j), ?_,⟨by simp only;omega,by simp only;omega,by simp only;omega,by simp only;omega,.step hon i j h1 (by omega) (by omega) h2 ha (by omega)⟩,by simp only;omega⟩
   simp (disch:=first | omega | (simp only [List.length_set];omega)) only [q,decide_true,if_true,gX d,Option.bind_some,aP,bC]
   rfl
  ·right
   exact ⟨l,by simp only [q,decide_false,Bool.false_eq_true,if_false],hon⟩) (a,b-1,l0) ⟨by simp only;omega,by simp only;omega,by simp only;omega,by simp only;omega,.refl _⟩
 refine ⟨l', ?_,r2⟩
 unfold yB
 rw [bC (by omega) (by omega),r1];rfl
theorem OZ (r m:Int) (h0:0≤m) (h1:m<9223372036854775808):0≤Lj .u64 r m∧Lj .u64 r m≤m:=by
 unfold Lj
 have hb:(BitVec.ofInt 64 m).toNat=m.toNat:=by
  rw [BitVec.toNat_ofInt]
  omega
 have hle:(BitVec.ofInt IntKind.u64.bits r &&& BitVec.ofInt IntKind.u64.bits m).toNat≤m.toNat:=by
  show (BitVec.ofInt 64 r &&& BitVec.ofInt 64 m).toNat≤m.toNat
  rw [BitVec.toNat_and,hb]
  exact Nat.and_le_right
 generalize (BitVec.ofInt IntKind.u64.bits r &&& BitVec.ofInt IntKind.u64.bits m).toNat=v at hle ⊢
 have hw:IntKind.wrap .u64 (v:Int)=v:=by
  exact wrap_u64 (by omega) (by omega)
 rw [hw];omega
theorem RG {n:Int} (h:0≤n) (h2:n≤1073741824):tO n 4=n / 4:=by
 unfold tO
 rw [Int.tdiv_eq_ediv_of_nonneg h]
 exact Cf _ (by omega) (by omega)
theorem GQ {a b:Int} {l0:List α} (ha:0≤a) (hb:b≤l0.length) (hL:(l0.length:Int)≤1073741824) (hab:a≤b):∃ l',wJ br a b l0=some l'∧On d a b l0 l':=by
 have s1:aK b a=b-a:=bC (by omega) (by omega)
 unfold wJ
 rw [s1]
 by_cases h8:b-a ≥ 8
 case neg=>simp only [h8,decide_false,Bool.false_eq_true,if_false];exact ⟨l0,rfl,.refl _⟩
 simp only [h8,decide_true,if_true]
 obtain ⟨v,v1,v2,v3,v4⟩:=JE (x:=b-a) (by omega) (by omega)
 have hpow:1≤2^v.toNat:=Nat.one_le_two_pow
 have hr2:vE (b-a)=some ((2^v.toNat:Nat):Int):=by
  unfold vE
  rw [v1]
  simp only [Option.bind_some,v2,decide_true,if_true]
  congr 1
  rw [show min v.toNat 64=v.toNat from by omega,Int.one_mul,show (2:Int)^v.toNat=((2^v.toNat:Nat):Int) from by simp]
  exact wrap_u64 (by omega) (by omega)
 rw [hr2,Option.bind_some]
 obtain ⟨R,hR⟩:∃ R:Int,((2^v.toNat:Nat):Int)=R:=⟨_,rfl⟩
 rw [hR]
 have hR1:1≤R:=by omega
 have hR2:R≤2*(b-a):=by omega
 have hm:IntKind.wrap .u64 (R-1)=R-1:=by
  exact wrap_u64 (by omega) (by omega)
 have q4:=RG (n:=b-a) (by omega) (by omega)
 have q2:kM ((b-a) / 4) 2=(b-a) / 4*2:=Hw (by omega) (by omega)
 have q3:aJ a ((b-a) / 4*2)=a+(b-a) / 4*2:=aP (by omega) (by omega)
 have q5:aJ (a+(b-a) / 4*2) 1=a+(b-a) / 4*2+1:=aP (by omega) (by omega)
 have q6:aK (a+(b-a) / 4*2) 1=a+(b-a) / 4*2-1:=bC (by omega) (by omega)
 obtain ⟨l',r1,r2⟩:=jT (fun s:Int×Int×List α=>(a+(b-a) / 4*2+2-s.1).toNat) (fun s:Int×Int×List α=>a≤s.1∧On d a b l0 s.2.2) (fun l'=>On d a b l0 l') (tL br a b R) (by
  rintro ⟨i,rr,l⟩ ⟨h1,hon⟩
  simp only at h1 hon ⊢
  have hl:=hon.len
  unfold tL
  simp only [s1,q4,q2,q3,q5,hm]
  by_cases q:i≤a+(b-a) / 4*2+1
  ·left
   simp only [q,decide_true,if_true,Du,Option.bind_some]
   generalize hz:(iM IntKind.u64 _ _:Int)=z
   obtain ⟨a1,a2⟩:=OZ z (R-1) (by omega) (by omega)
   have hw:IntKind.wrap .i64 (Lj .u64 z (R-1))=Lj .u64 z (R-1):=Cf _ (by omega) (by omega)
   rw [hw]
   obtain ⟨o,ho⟩:∃ o,Lj .u64 z (R-1)=o:=⟨_,rfl⟩
   rw [ho] at a1 a2 ⊢
   have key:∀ t:Int,0≤t→t<b-a→∃ s',oV br a (i,rr,l) t=some (.inl s')∧(a≤s'.1∧On d a b l0 s'.2.2)∧(a+(b-a) / 4*2+2-s'.1).toNat<(a+(b-a) / 4*2+2-i).toNat:=fun t t1 t2=>by
    have e:aJ a t=a+t:=aP (by omega) (by omega)
    unfold oV
    simp (disch:=first | omega | (simp only [List.length_set];omega)) only [e,gX d,Option.bind_some]
    refine ⟨_,rfl,⟨?_, ?_⟩, ?_⟩
    ·simp only;rw [aP (by omega) (by omega)];omega
    ·exact .step hon i (a+t) (by omega) (by omega) (by omega) (by omega) ha (by omega)
    ·simp only;rw [aP (by omega) (by omega)];omega
   by_cases hge:o ≥ b-a
   ·simp only [hge,decide_true,if_true]
    rw [bC (by omega) (by omega)]
    exact key (o-(b-a)) (by omega) (by omega)
   ·simp only [hge,decide_false,Bool.false_eq_true,if_false]
    exact key o a1 (by omega)
  ·right
   exact ⟨l,by simp only [q,decide_false,Bool.false_eq_true,if_false],hon⟩) (a+(b-a) / 4*2-1,IntKind.wrap .u64 (b-a),l0) ⟨by simp only;omega,.refl _⟩
 refine ⟨l', ?_,r2⟩
 simp only [q4,q2,q3,q6,r1,Option.bind_some]
include hbr
theorem Mx {l:List α} (hf:Ci P d l) {x y:Int} (s:Int) (hx:0≤x) (hx':x<l.length) (hy:0≤y) (hy':y<l.length):∃ r,Dt br l x y s=some r∧((r.1=x∧r.2.1=y)∨(r.1=y∧r.2.1=x)):=by
 unfold Dt
 rw [gX d hy hy',Option.bind_some,gX d hx hx',Option.bind_some,hbr _ _ _ _ (hf.all _ hy hy') (hf.all _ hx hx')]
 cases lt (gz d l y) (gz d l x) with
 | true=>exact ⟨_,rfl,.inr ⟨rfl,rfl⟩⟩
 | false=>exact ⟨_,rfl,.inl ⟨rfl,rfl⟩⟩
theorem Ue {l:List α} (hf:Ci P d l) {lo hi x y z:Int} (s:Int) (hlo:0≤lo) (hhi:hi≤l.length) (hx:lo≤x∧x<hi) (hy:lo≤y∧y<hi) (hz:lo≤z∧z<hi):∃ r,Hu br l x y z s=some r∧lo≤r.1∧r.1<hi:=by
 unfold Hu
 obtain ⟨r1,e1,q1⟩:=Mx hbr hf (x:=x) (y:=y) s (by omega) (by omega) (by omega) (by omega)
 rw [e1,Option.bind_some]
 obtain ⟨r2,e2,q2⟩:=Mx hbr hf (x:=r1.2.1) (y:=z) r1.2.2 (by omega) (by omega) (by omega) (by omega)
 rw [e2,Option.bind_some]
 obtain ⟨r3,e3,q3⟩:=Mx hbr hf (x:=r1.1) (y:=r2.1) r2.2.2 (by omega) (by omega) (by omega) (by omega)
 rw [e3,Option.bind_some]
 exact ⟨_,rfl,by simp only;omega,by simp only;omega⟩
theorem DW {l:List α} (hf:Ci P d l) {a b:Int} (ha:0≤a) (hb:b≤l.length) (hab:a+12<b):∃ p h,Ac br l a b=some (p,h)∧a≤p∧p<b:=by
 have hL:=hf.len
 have s1:aK b a=b-a:=bC (by omega) (by omega)
 have q4:=RG (n:=b-a) (by omega) (by omega)
 have m1:kM ((b-a) / 4) 1=(b-a) / 4*1:=Hw (by omega) (by omega)
 have m2:kM ((b-a) / 4) 2=(b-a) / 4*2:=Hw (by omega) (by omega)
 have m3:kM ((b-a) / 4) 3=(b-a) / 4*3:=Hw (by omega) (by omega)
 have a1:aJ a ((b-a) / 4*1)=a+(b-a) / 4*1:=aP (by omega) (by omega)
 have a2:aJ a ((b-a) / 4*2)=a+(b-a) / 4*2:=aP (by omega) (by omega)
 have a3:aJ a ((b-a) / 4*3)=a+(b-a) / 4*3:=aP (by omega) (by omega)
 have k1:∀ p n:Int,∃ h,rO br (p,n)=some (p,h):=fun p n=>by
  unfold rO
  simp only
  split
  ·exact ⟨_,rfl⟩
  ·split
   ·exact ⟨_,rfl⟩
   ·exact ⟨_,rfl⟩
 have k2:∀ x y z s:Int,(a≤x∧x<b)→(a≤y∧y<b)→(a≤z∧z<b)→∃ p h,rP br l (x,y,z,s)=some (p,h)∧a≤p∧p<b:=fun x y z s hx hy hz=>by
  unfold rP
  obtain ⟨r,e,r1,r2⟩:=Ue hbr hf (lo:=a) (hi:=b) s ha hb hx hy hz
  simp only [e,Option.bind_some]
  obtain ⟨h,e2⟩:=k1 r.1 r.2
  exact ⟨_,h,e2,r1,r2⟩
 have adj:∀ x s:Int,a+1≤x→x+1<b→∃ r,nL br l x s=some r∧a≤r.1∧r.1<b:=fun x s h1 h2=>by
  unfold nL
  rw [bC (by omega) (by omega),aP (by omega) (by omega)]
  obtain ⟨r,e,r1,r2⟩:=Ue hbr hf (lo:=a) (hi:=b) (x:=x-1) (y:=x) (z:=x+1) s ha hb (by omega) (by omega) (by omega)
  rw [e]
  exact ⟨_,rfl,r1,r2⟩
 unfold Ac
 have h8:b-a ≥ 8:=by omega
 simp only [s1,q4,m1,m2,m3,a1,a2,a3,h8,decide_true,if_true]
 by_cases h50:b-a ≥ 50
 ·simp only [h50,decide_true,if_true]
  obtain ⟨r1,e1,p1,p2⟩:=adj (a+(b-a) / 4*1) 0 (by omega) (by omega)
  rw [e1,Option.bind_some]
  obtain ⟨r2,e2,p3,p4⟩:=adj (a+(b-a) / 4*2) r1.2 (by omega) (by omega)
  rw [e2,Option.bind_some]
  obtain ⟨r3,e3,p5,p6⟩:=adj (a+(b-a) / 4*3) r2.2 (by omega) (by omega)
  rw [e3,Option.bind_some]
  exact k2 _ _ _ _ ⟨p1,p2⟩ ⟨p3,p4⟩ ⟨p5,p6⟩
 ·simp only [h50,decide_false,Bool.false_eq_true,if_false]
  exact k2 _ _ _ _ (by omega) (by omega) (by omega)
end
section
variable {α:Type} {br:Br α} {lt:α→α→Bool} {P:α→Prop} {d:α} (hbr:∀ (β:Type) (x y:α) (k:Bool→Option β),P x→P y→br β x y k=k (lt x y)) (w:Oh lt)
include hbr
theorem FV {i b:Int} {l0:List α} (hi:0≤i) (hib:i+1≤b) (hb:b≤l0.length) (hf0:Ci P d l0):∃ l',aH (jH br b) (i+1,l0)=some l'∧On d i b l0 l':=by
 have hL:=hf0.len
 refine jT (fun s:Int×List α=>(b-s.1).toNat) (fun s:Int×List α=>i+1≤s.1∧On d i b l0 s.2) _ (jH br b) ?_ (i+1,l0) ⟨Int.le_refl _,.refl _⟩
 rintro ⟨j,l⟩ ⟨h1,hon⟩
 simp only at h1 hon ⊢
 have hf:=hf0.on hon
 have hl:=hon.len
 unfold jH
 by_cases q:j<b
 ·cases hc:lt (gz d l j) (gz d l (j-1)) with
  | true =>
    left
    refine ⟨(j+1,sw d l j (j-1)), ?_,⟨by simp only;omega,.step hon j (j-1) (by omega) (by omega) (by omega) (by omega) hi (by omega)⟩,by simp only;omega⟩
    simp (disch:=first | omega | (simp only [List.length_set];omega) | (refine hf.all _ ?_ ?_ <;> omega)) only [q,decide_true,if_true,bC,aP,gX d,Option.bind_some,hbr,hc,Bool.not_true,Bool.false_eq_true,if_false]
    rfl
  | false =>
    right
    refine ⟨l, ?_,hon⟩
    simp (disch:=first | omega | (refine hf.all _ ?_ ?_ <;> omega)) only [q,decide_true,if_true,bC,gX d,Option.bind_some,hbr,hc,Bool.not_false]
 ·right
  exact ⟨l,by simp only [q,decide_false,Bool.false_eq_true,if_false],hon⟩
include w
theorem FU {a b i:Int} {l0:List α} (ha:0≤a) (hi:a<i) (hib:i≤b) (hb:b≤l0.length) (hf0:Ci P d l0) (hpre:0<a→∀ k,a≤k→k<b→lt (gz d l0 k) (gz d l0 (a-1))=false) (h0:Asc d lt a (i-1) l0) :
  ∃ l',aH (jI br) (i-1,l0)=some l'∧On d a i l0 l'∧Asc d lt a i l':=by
 have hL:=hf0.len
 refine jT (fun s:Int×List α=>(s.1-a).toNat) (fun s:Int×List α=>a≤s.1∧s.1≤i-1∧On d a i l0 s.2∧∀ p q:Int,a≤p→p<q→q≤i-1→q≠s.1→lt (gz d s.2 q) (gz d s.2 p)=false)
  (fun l'=>On d a i l0 l'∧Asc d lt a i l') (jI br) ?_ (i-1,l0) ⟨by simp only;omega,Int.le_refl _,.refl _,fun p q h1 h2 h3 h4=>h0 p q h1 h2 (by simp only at h4;omega)⟩
 rintro ⟨j,l⟩ ⟨h1,h2,hon,hI⟩
 simp only at h1 h2 hon hI ⊢
 have hf:=hf0.on hon
 have hl:=hon.len
 have stop:(j=a∨lt (gz d l j) (gz d l (j-1))=false)→Asc d lt a i l:=fun hs p q p1 p2 p3=>by
  by_cases e1:q=j
  ·subst e1
   rcases hs with hs | hs
   ·omega
   ·by_cases e2:p=q-1
    ·subst e2;exact hs
    ·exact w.le_trans (hI p (q-1) p1 (by omega) (by omega) (by omega)) hs
  ·exact hI p q p1 p2 (by omega) e1
 unfold jI
 by_cases hj:j ≥ 1
 ·cases hc:lt (gz d l j) (gz d l (j-1)) with
  | false =>
    right
    refine ⟨l, ?_,hon,stop (.inr hc)⟩
    simp (disch:=first | omega | (refine hf.all _ ?_ ?_ <;> omega)) only [hj,decide_true,if_true,bC,gX d,Option.bind_some,hbr,hc,Bool.not_false]
  | true =>
    have hja:a<j:=by
     rcases Int.lt_or_le a j with q | q
     ·exact q
     ·exfalso
      obtain rfl:j=a:=by omega
      have e:gz d l (j-1)=gz d l0 (j-1):=hon.out d (by omega) (.inl (by omega))
      have:=hon.all d (fun x=>lt x (gz d l0 (j-1))=false) (fun k k1 k2=>hpre (by omega) k k1 (by omega)) j (Int.le_refl _) hi
      rw [e,this] at hc;cases hc
    left
    refine ⟨(j-1,sw d l j (j-1)), ?_,⟨by simp only;omega,by simp only;omega,.step hon j (j-1) (by omega) (by omega) (by omega) (by omega) ha (by omega), ?_⟩,by simp only;omega⟩
    ·simp (disch:=first | omega | (simp only [List.length_set];omega) | (refine hf.all _ ?_ ?_ <;> omega)) only [hj,decide_true,if_true,bC,gX d,Option.bind_some,hbr,hc,Bool.not_true,Bool.false_eq_true,if_false]
     rfl
    ·simp only
     intro p q p1 p2 p3 p4
     rw [nP d (by omega) (by omega) (by omega) (by omega) (by omega),nP d (by omega) (by omega) (by omega) (by omega) (by omega)]
     rw [if_neg p4]
     by_cases e1:q=j
     ·rw [if_pos e1]
      by_cases e2:p=j-1
      ·rw [if_pos e2];exact w.asymm _ _ hc
      ·rw [if_neg e2,if_neg (by omega)]
       exact hI p (j-1) (by omega) (by omega) (by omega) (by omega)
     ·rw [if_neg e1]
      by_cases e2:p=j-1
      ·rw [if_pos e2];exact hI j q (by omega) (by omega) p3 e1
      ·rw [if_neg e2]
       by_cases e3:p=j
       ·rw [if_pos e3];exact hI (j-1) q (by omega) (by omega) p3 e1
       ·rw [if_neg e3];exact hI p q p1 p2 p3 e1
 ·right
  refine ⟨l,by simp only [hj,decide_false,Bool.false_eq_true,if_false],hon,stop (.inl (by omega))⟩
theorem AO {a b:Int} {l0:List α} (ha:0≤a) (hab:a<b) (hb:b≤l0.length) (hf0:Ci P d l0) (hpre:0<a→∀ k,a≤k→k<b→lt (gz d l0 k) (gz d l0 (a-1))=false) :
  ∃ r l',pL br a b l0=some (r,l')∧On d a b l0 l'∧(r=true→Asc d lt a b l'):=by
 have hL:=hf0.len
 have s1:aK b a=b-a:=bC (by omega) (by omega)
 have s2:aJ a 1=a+1:=aP (by omega) (by omega)
 obtain ⟨r,r1,r2⟩:=jT (fun s:Int×Int×List α=>(5-s.2.1).toNat) (fun s:Int×Int×List α=>a+1≤s.1∧s.1≤b∧0≤s.2.1∧On d a b l0 s.2.2∧Asc d lt a s.1 s.2.2)
  (fun r:Bool×List α ⊕ List α=>match r with | .inl x=>On d a b l0 x.2∧(x.1=true→Asc d lt a b x.2) | .inr l=>On d a b l0 l) (mM br a b) (by
  rintro ⟨i,c,l⟩ ⟨i1,i2,i3,hon,hA⟩
  simp only at i1 i2 i3 hon hA ⊢
  have hf:=hf0.on hon
  have hl:=hon.len
  unfold mM
  by_cases hc5:c<5
  case neg =>
   right
   exact ⟨.inr l,by simp only [hc5,decide_false,Bool.false_eq_true,if_false],hon⟩
  obtain ⟨x,x1,x2,x3,x4,x5⟩:=Pt (body:=jG br b (i,c,l)) (fun k=>!lt (gz d l k) (gz d l (k-1))) (i:=i) (j:=b-1) (by omega) (fun s q1 q2=>by
   unfold jG
   simp (disch:=first | omega | (refine hf.all _ ?_ ?_ <;> omega)) only [show s<b from by omega,decide_true,if_true,gX d,Option.bind_some,hbr,aP,bC]) (by
   unfold jG
   simp only [show ¬ b-1+1<b from by omega,decide_false,Bool.false_eq_true,if_false,Option.bind_some])
  have hAx:Asc d lt a x l:=by
   have:∀ n:Nat,∀ y,y≤x→y≤i+n→Asc d lt a y l:=by
    intro n
    induction n with
    | zero=>intro y _ y2 p q p1 p2 p3;exact hA p q p1 p2 (by omega)
    | succ n ih =>
      intro y y1 y2
      by_cases e:y≤i+n
      ·exact ih y y1 e
      ·have h0:=ih (y-1) (by omega) (by omega)
       have h1:=x4 (y-1) (by omega) (by omega)
       simp only [Bool.not_eq_eq_eq_not,Bool.not_true] at h1
       intro p q p1 p2 p3
       by_cases e1:q=y-1
       ·subst e1
        by_cases e2:p=y-1-1
        ·subst e2;exact h1
        ·exact w.le_trans (h0 p (y-1-1) p1 (by omega) (by omega)) h1
       ·exact h0 p q p1 p2 (by omega)
   exact this (x-i).toNat x (Int.le_refl _) (by omega)
  simp only [hc5,decide_true,if_true,x1,Option.bind_some]
  by_cases hxb:x=b
  ·right
   refine ⟨.inl (true,l),by simp only [hxb,beq_self_eq_true,if_true],hon,fun _=>?_⟩
   simp only;rw [← hxb];exact hAx
  have hbx:(x==b)=false:=by simp [hxb]
  simp only [hbx,Bool.false_eq_true,if_false,s1]
  by_cases h50:b-a<50
  ·right
   exact ⟨.inl (false,l),by simp only [h50,decide_true,if_true],hon,fun q=>by cases q⟩
  left
  have e1:aK x 1=x-1:=bC (by omega) (by omega)
  have e2:aK x a=x-a:=bC (by omega) (by omega)
  have e3:aK b x=b-x:=bC (by omega) (by omega)
  have e4:aJ x 1=x+1:=aP (by omega) (by omega)
  have e5:aJ c 1=c+1:=aP (by omega) (by omega)
  obtain ⟨l1,hl1⟩:∃ l1,sw d l x (x-1)=l1:=⟨_,rfl⟩
  have e6:List.set (List.set l (Int.toNat x) (gz d l (x-1))) (Int.toNat (x-1)) (gz d l x)=l1:=hl1
  have hon1:On d a b l0 l1:=hl1 ▸ .step hon x (x-1) (by omega) (by omega) (by omega) (by omega) ha (by omega)
  have hl1':=hon1.len
  have hf1:=hf0.on hon1
  have hpre1:0<a→∀ k,a≤k→k<b→lt (gz d l1 k) (gz d l1 (a-1))=false:=fun h k k1 k2=>by
   rw [hon1.out d (k:=a-1) (by omega) (.inl (by omega))]
   exact hon1.all d (fun y=>lt y (gz d l0 (a-1))=false) (fun k k1 k2=>hpre h k k1 k2) k k1 k2
  have hA1:Asc d lt a (x-1) l1:=fun p q p1 p2 p3=>by
   rw [← hl1,nP d (by omega) (by omega) (by omega) (by omega) (by omega),nP d (by omega) (by omega) (by omega) (by omega) (by omega),if_neg (by omega),if_neg (by omega),if_neg (by omega),if_neg (by omega)]
   exact hAx p q p1 p2 (by omega)
  -- behind the shift to the left
  have right_:∀ l2,On d a b l0 l2→Asc d lt a x l2→∃ l3,jF br b (i,c,l) x l2=some (.inl (x,c+1,l3))∧On d a b l0 l3∧Asc d lt a x l3:=fun l2 o2 a2=>by
   have hl2:=o2.len
   unfold jF mL
   by_cases q:b-x ≥ 2
   ·obtain ⟨l3,t1,t2⟩:=FV hbr (i:=x) (b:=b) (l0:=l2) (by omega) (by omega) (by omega) (hf0.on o2)
    refine ⟨l3, ?_,o2.trans d (t2.mono d ha (by omega) (Int.le_refl _) (by omega)),fun p q p1 p2 p3=>?_⟩
    ·simp only [e3,q,decide_true,if_true,e4,t1,Option.bind_some,e5]
    ·rw [t2.out d (by omega) (.inl (by omega)),t2.out d (by omega) (.inl (by omega))]
     exact a2 p q p1 p2 p3
   ·exact ⟨l2,by simp only [e3,q,decide_false,Bool.false_eq_true,if_false,e5],o2,a2⟩
  simp (disch:=first | omega | (simp only [List.length_set];omega)) only [h50,decide_false,Bool.false_eq_true,if_false,e1,e2,gX d,Option.bind_some,e6]
  by_cases h2:x-a ≥ 2
  ·obtain ⟨l2,t1,t2,t3⟩:=FU hbr w (a:=a) (b:=b) (i:=x) ha (by omega) (by omega) (by omega) hf1 hpre1 hA1
   obtain ⟨l3,u1,u2,u3⟩:=right_ l2 (hon1.trans d (t2.mono d ha (Int.le_refl _) (by omega) (by omega))) t3
   refine ⟨(x,c+1,l3), ?_,⟨by simp only;omega,by simp only;omega,by simp only;omega,u2,u3⟩,by simp only;omega⟩
   simp only [h2,decide_true,if_true,t1,Option.bind_some,u1]
  ·obtain ⟨l3,u1,u2,u3⟩:=right_ l1 hon1 (fun p q p1 p2 p3=>by omega)
   refine ⟨(x,c+1,l3), ?_,⟨by simp only;omega,by simp only;omega,by simp only;omega,u2,u3⟩,by simp only;omega⟩
   simp only [h2,decide_false,Bool.false_eq_true,if_false,u1]) (a+1,0,l0) ⟨by simp only;omega,by simp only;omega,by simp only;omega,.refl _,fun p q p1 p2 p3=>by simp only at p3;omega⟩
 unfold pL
 rw [s2,r1,Option.bind_some]
 cases r with
 | inl x=>exact ⟨x.1,x.2,rfl,r2.1,r2.2⟩
 | inr l=>exact ⟨false,l,rfl,r2,fun q=>by cases q⟩
end
def Out {α:Type} (d:α) (lt:α→α→Bool) (a0 b0 a b:Int) (l:List α):Prop:=∀ p q:Int,a0≤p→p<q→q<b0→(p<a∨b≤q)→lt (gz d l q) (gz d l p)=false
def Pre {α:Type} (d:α) (lt:α→α→Bool) (a b:Int) (l:List α):Prop:=0<a→∀ k,a≤k→k<b→lt (gz d l k) (gz d l (a-1))=false
section
variable {α:Type} {br:Br α} {lt:α→α→Bool} {P:α→Prop} {d:α} (hbr:∀ (β:Type) (x y:α) (k:Bool→Option β),P x→P y→br β x y k=k (lt x y)) (w:Oh lt)
theorem Rt {a0 b0 a b:Int} {l l':List α} (h:Out d lt a0 b0 a b l) (ho:On d a b l l') (h0:0≤a0) (h1:a0≤a) (h2:b≤b0):Out d lt a0 b0 a b l':=by
 intro p q p1 p2 p3 p4
 by_cases hp:a≤p∧p<b
 ·rw [ho.out d (k:=q) (by omega) (.inr (by omega))]
  exact ho.all d (fun x=>lt (gz d l q) x=false) (fun k k1 k2=>h k q (by omega) (by omega) p3 (.inr (by omega))) p hp.1 hp.2
 ·rw [ho.out d (k:=p) (by omega) (by omega)]
  by_cases hq:a≤q∧q<b
  ·exact ho.all d (fun x=>lt x (gz d l p)=false) (fun k k1 k2=>h p k p1 (by omega) (by omega) (.inl (by omega))) q hq.1 hq.2
  ·rw [ho.out d (k:=q) (by omega) (by omega)]
   exact h p q p1 p2 p3 p4
theorem LL {a0 b0 a b:Int} {l:List α} (h:Out d lt a0 b0 a b l) (ha:Asc d lt a b l):Asc d lt a0 b0 l:=by
 intro p q p1 p2 p3
 by_cases e:p<a∨b≤q
 ·exact h p q p1 p2 p3 e
 ·exact ha p q (by omega) p2 (by omega)
theorem AP {a0 b0 a b:Int} {l0 l:List α} (hp:Pre d lt a0 b0 l0) (h0:0≤a0) (h1:a0≤a) (h2:b≤b0) (ho:On d a0 b0 l0 l) (h:Out d lt a0 b0 a b l):Pre d lt a b l:=by
 intro hpos k k1 k2
 by_cases e:a=a0
 ·subst e
  rw [ho.out d (k:=a-1) (by omega) (.inl (by omega))]
  exact ho.all d (fun x=>lt x (gz d l0 (a-1))=false) (fun k k1 k2=>hp hpos k k1 k2) k k1 (by omega)
 ·exact h (a-1) k (by omega) (by omega) (by omega) (.inl (by omega))
theorem pre_on {a b:Int} {l l':List α} (hp:Pre d lt a b l) (h0:0≤a) (ho:On d a b l l'):Pre d lt a b l':=AP (a0:=a) (b0:=b) hp h0 (Int.le_refl _) (Int.le_refl _) ho fun p q p1 p2 p3 p4=>absurd p4 (by omega)
include hbr w
theorem Yi {self:Int→Int→Int→List α→Option (List α)} {N:Int}
  (hself:∀ (a b limit:Int) (l:List α),0≤a→a≤b→b≤l.length→Ci P d l→Pre d lt a b l→b-a<N→∃ l',self a b limit l=some l'∧On d a b l l'∧Asc d lt a b l')
  {a0 b0 limit:Int} {l0:List α} (h0:0≤a0) (hab:a0≤b0) (hb:b0≤l0.length) (hf0:Ci P d l0) (hpre:Pre d lt a0 b0 l0) (hN:b0-a0≤12∨b0-a0<2*N) :
  ∃ l',aH (xG br self) (a0,b0,limit,true,true,l0)=some l'∧On d a0 b0 l0 l'∧Asc d lt a0 b0 l':=by
 have hL:=hf0.len
 refine jT (fun s:Int×Int×Int×Bool×Bool×List α=>(s.2.1-s.1).toNat) (fun s:Int×Int×Int×Bool×Bool×List α=>a0≤s.1∧s.1≤s.2.1∧s.2.1≤b0∧On d a0 b0 l0 s.2.2.2.2.2∧Out d lt a0 b0 s.1 s.2.1 s.2.2.2.2.2)
  (fun l'=>On d a0 b0 l0 l'∧Asc d lt a0 b0 l') (xG br self) ?_ (a0,b0,limit,true,true,l0) ⟨Int.le_refl _,hab,Int.le_refl _,.refl _,fun p q p1 p2 p3 p4=>absurd p4 (by simp only;omega)⟩
 rintro ⟨a,b,lim,wb,wp,l⟩ ⟨i1,i2,i3,hon,hout⟩
 simp only at i1 i2 i3 hon hout ⊢
 have hf:=hf0.on hon
 have hl:=hon.len
 have s1:aK b a=b-a:=bC (by omega) (by omega)
 -- what ends it
 have fin:∀ l',On d a b l l'→Asc d lt a b l'→On d a0 b0 l0 l'∧Asc d lt a0 b0 l':=fun l' o as =>
  ⟨hon.trans d (o.mono d h0 i1 i3 (by omega)),LL (Rt hout o h0 i1 i3) as⟩
 unfold xG
 simp only [s1]
 by_cases h12:b-a≤12
 ·right
  obtain ⟨l',t1,t2,t3⟩:=Mq hbr w (a:=a) (b:=b) (l0:=l) (by omega) i2 (by omega) hf
  exact ⟨l',by simp only [h12,decide_true,if_true,t1,Option.bind_some],fin l' t2 t3⟩
 simp only [h12,decide_false,Bool.false_eq_true,if_false]
 by_cases hz:lim=0
 ·right
  obtain ⟨l',t1,t2,t3⟩:=Xq hbr w (a:=a) (b:=b) (l0:=l) (by omega) i2 (by omega) hf
  exact ⟨l',by simp only [hz,beq_self_eq_true,if_true,t1,Option.bind_some],fin l' t2 t3⟩
 have hz':(lim==0)=false:=by simp [hz]
 simp only [hz',Bool.false_eq_true,if_false]
 have hN':b-a<2*N:=by omega
 -- the partition
 have k1 : ∀ (j127:Int×List α) (pivot hint:Int) (lx:List α) (wb' wp':Bool) (l1:List α),On d a b l l1→a≤pivot→pivot<b →
   (∃ s',tS br self (a,b,lim,wb,wp,l) j127 (pivot,hint,lx) (wb',wp',l1)=some (.inl s')∧(a0≤s'.1∧s'.1≤s'.2.1∧s'.2.1≤b0∧On d a0 b0 l0 s'.2.2.2.2.2∧Out d lt a0 b0 s'.1 s'.2.1 s'.2.2.2.2.2)∧(s'.2.1-s'.1).toNat<(b-a).toNat) ∨
   (∃ r,tS br self (a,b,lim,wb,wp,l) j127 (pivot,hint,lx) (wb',wp',l1)=some (.inr r)∧On d a0 b0 l0 r∧Asc d lt a0 b0 r):=by
  intro j127 pivot hint lx wb' wp' l1 o1 v1 v2
  left
  have hl1:=o1.len
  have hf1:=hf.on o1
  have hon1:On d a0 b0 l0 l1:=hon.trans d (o1.mono d h0 i1 i3 (by omega))
  have hout1:=Rt hout o1 h0 i1 i3
  have hpre1:Pre d lt a b l1:=AP hpre h0 i1 i3 hon1 hout1
  have part:∃ s',((yO br a b pivot l1).bind fun r162=>if (decide ((aK r162.1 a)<(aK b r162.1))) then ((self a r162.1 j127.1 r162.2.2).bind fun r164=>some (.inl ((aJ r162.1 1),b,j127.1,(decide ((aK r162.1 a) ≥ (tO (aK b a) 8))),r162.2.1,r164))) else ((self (aJ r162.1 1) b j127.1 r162.2.2).bind fun r166=>some (Sum.inl (β:=List α) (a,r162.1,j127.1,(decide ((aK b r162.1) ≥ (tO (aK b a) 8))),r162.2.1,r166))))=some (.inl s') ∧
    (a0≤s'.1∧s'.1≤s'.2.1∧s'.2.1≤b0∧On d a0 b0 l0 s'.2.2.2.2.2∧Out d lt a0 b0 s'.1 s'.2.1 s'.2.2.2.2.2)∧(s'.2.1-s'.1).toNat<(b-a).toNat:=by
   obtain ⟨mid,al,l2,t1,t2,t3,t4,t5,t6⟩:=Vy hbr (a:=a) (b:=b) (pivot:=pivot) (l0:=l1) (by omega) (by omega) (by omega) hf1 v1 v2
   have hl2:=t2.len
   have hf2:=hf1.on t2
   have hon2:On d a0 b0 l0 l2:=hon1.trans d (t2.mono d h0 i1 i3 (by omega))
   have hout2:=Rt hout1 t2 h0 i1 i3
   have hpre2:Pre d lt a b l2:=pre_on hpre1 (by omega) t2
   -- all pairs that are not both on one side
   have ord:∀ p q:Int,a0≤p→p<q→q<b0→(p<a∨b≤q∨(p≤mid∧mid≤q))→lt (gz d l2 q) (gz d l2 p)=false:=fun p q p1 p2 p3 p4=>by
    by_cases e:p<a∨b≤q
    ·exact hout2 p q p1 p2 p3 e
    ·by_cases ep:p=mid
     ·subst ep;exact t6 q (by omega) (by omega)
     ·have hp:=w.asymm _ _ (t5 p (by omega) (by omega))
      by_cases eq:q=mid
      ·subst eq;exact hp
      ·exact w.le_trans hp (t6 q (by omega) (by omega))
   have e1:aK mid a=mid-a:=bC (by omega) (by omega)
   have e2:aK b mid=b-mid:=bC (by omega) (by omega)
   have e3:aJ mid 1=mid+1:=aP (by omega) (by omega)
   simp only [t1,Option.bind_some,e1,e2,e3]
   by_cases hlr:mid-a<b-mid
   ·obtain ⟨l3,u1,u2,u3⟩:=hself a mid j127.1 l2 (by omega) t3 (by omega) hf2 (fun hpos k k1 k2=>hpre2 hpos k k1 (by omega)) (by omega)
    simp only [hlr,decide_true,if_true,u1,Option.bind_some]
    refine ⟨_,rfl,⟨by simp only;omega,by simp only;omega,i3,hon2.trans d (u2.mono d h0 i1 (by omega) (by omega)), ?_⟩,by simp only;omega⟩
    intro p q p1 p2 p3 p4
    simp only at p4 ⊢
    by_cases hp:a≤p∧p<mid
    ·by_cases hq:q<mid
     ·exact u3 p q hp.1 p2 hq
     ·rw [u2.out d (k:=q) (by omega) (.inr (by omega))]
      exact u2.all d (fun x=>lt (gz d l2 q) x=false) (fun k k1 k2=>ord k q (by omega) (by omega) p3 (by omega)) p hp.1 hp.2
    ·rw [u2.out d (k:=p) (by omega) (by omega)]
     by_cases hq:a≤q∧q<mid
     ·exact u2.all d (fun x=>lt x (gz d l2 p)=false) (fun k k1 k2=>ord p k p1 (by omega) (by omega) (by omega)) q hq.1 hq.2
     ·rw [u2.out d (k:=q) (by omega) (by omega)]
      exact ord p q p1 p2 p3 (by omega)
   ·obtain ⟨l3,u1,u2,u3⟩:=hself (mid+1) b j127.1 l2 (by omega) (by omega) (by omega) hf2 (fun hpos k k1 k2=>by
     rw [show mid+1-1=mid from by omega]
     exact t6 k (by omega) k2) (by omega)
    simp only [hlr,decide_false,Bool.false_eq_true,if_false,u1,Option.bind_some]
    refine ⟨_,rfl,⟨i1,t3,by simp only;omega,hon2.trans d (u2.mono d h0 (by omega) i3 (by omega)), ?_⟩,by simp only;omega⟩
    intro p q p1 p2 p3 p4
    simp only at p4 ⊢
    by_cases hp:mid+1≤p∧p<b
    ·by_cases hq:q<b
     ·exact u3 p q hp.1 p2 hq
     ·rw [u2.out d (k:=q) (by omega) (.inr (by omega))]
      exact u2.all d (fun x=>lt (gz d l2 q) x=false) (fun k k1 k2=>ord k q (by omega) (by omega) p3 (by omega)) p hp.1 hp.2
    ·rw [u2.out d (k:=p) (by omega) (by omega)]
     by_cases hq:mid+1≤q∧q<b
     ·exact u2.all d (fun x=>lt x (gz d l2 p)=false) (fun k k1 k2=>ord p k p1 (by omega) (by omega) (by omega)) q hq.1 hq.2
     ·rw [u2.out d (k:=q) (by omega) (by omega)]
      exact ord p q p1 p2 p3 (by omega)
  unfold tS
  by_cases hpos:a>0
  ·cases hc:lt (gz d l1 (a-1)) (gz d l1 pivot) with
   | true =>
     simp (disch:=first | omega | (refine hf1.all _ ?_ ?_ <;> omega)) only [hpos,decide_true,if_true,bC,gX d,Option.bind_some,hbr,hc,Bool.not_true,Bool.false_eq_true,if_false]
     simpa only [s1] using part
   | false =>
     obtain ⟨mid,l2,t1,t2,t3,t4,t5⟩:=Lw hbr (a:=a) (b:=b) (pivot:=pivot) (l0:=l1) (by omega) (by omega) (by omega) hf1 v1 v2 w.irrefl
     refine ⟨(mid,b,j127.1,wb',wp',l2), ?_,⟨by simp only;omega,t4,i3,hon1.trans d (t2.mono d h0 i1 i3 (by omega)), ?_⟩,by simp only;omega⟩
     ·simp (disch:=first | omega | (refine hf1.all _ ?_ ?_ <;> omega)) only [hpos,decide_true,if_true,bC,gX d,Option.bind_some,hbr,hc,Bool.not_false,t1]
     ·have hout2:=Rt hout1 t2 h0 i1 i3
      have hpre2:Pre d lt a b l2:=pre_on hpre1 (by omega) t2
      have hl2:=t2.len
      intro p q p1 p2 p3 p4
      simp only at p4 ⊢
      by_cases e:p<a∨b≤q
      ·exact hout2 p q p1 p2 p3 e
      ·have hp:=t5 p (by omega) (by omega)
       have hq:=hpre2 hpos q (by omega) (by omega)
       rw [t2.out d (k:=a-1) (by omega) (.inl (by omega))] at hq
       cases hlt:lt (gz d l2 q) (gz d l2 p) with
       | false=>rfl
       | true =>
         rcases w.neg _ (gz d l1 pivot) _ hlt with r | r
         ·rcases w.neg _ (gz d l1 (a-1)) _ r with r | r
          ·rw [hq] at r;cases r
          ·rw [hc] at r;cases r
         ·rw [hp] at r;cases r
  ·simp only [hpos,decide_false,Bool.false_eq_true,if_false,Option.bind_some]
   simpa only [s1] using part
 have k2:∀ (j127:Int×List α) (pivot hint:Int) (l1:List α),On d a b l l1→a≤pivot→pivot<b →
   (∃ s',tT br self (a,b,lim,wb,wp,l) j127 (pivot,hint,l1)=some (.inl s')∧(a0≤s'.1∧s'.1≤s'.2.1∧s'.2.1≤b0∧On d a0 b0 l0 s'.2.2.2.2.2∧Out d lt a0 b0 s'.1 s'.2.1 s'.2.2.2.2.2)∧(s'.2.1-s'.1).toNat<(b-a).toNat) ∨
   (∃ r,tT br self (a,b,lim,wb,wp,l) j127 (pivot,hint,l1)=some (.inr r)∧On d a0 b0 l0 r∧Asc d lt a0 b0 r):=by
  intro j127 pivot hint l1 o1 v1 v2
  unfold tT
  obtain ⟨c,hc⟩:∃ c:Bool×Bool×Bool,(if wb then (if wp then (some (true,true,(hint==1))) else (some (true,false,false))) else (some (false,wp,false)))=some c:=by
   cases wb <;> cases wp <;> exact ⟨_,rfl⟩
  simp only [hc,Option.bind_some]
  cases hc2:c.2.2 with
  | false =>
    simp only [Bool.false_eq_true,if_false]
    exact k1 _ _ _ _ _ _ _ o1 v1 v2
  | true =>
    have hl1:=o1.len
    have hon1:On d a0 b0 l0 l1:=hon.trans d (o1.mono d h0 i1 i3 (by omega))
    have hpre1:Pre d lt a b l1:=AP hpre h0 i1 i3 hon1 (Rt hout o1 h0 i1 i3)
    obtain ⟨r,l2,t1,t2,t3⟩:=AO hbr w (a:=a) (b:=b) (l0:=l1) (by omega) (by omega) (by omega) (hf.on o1) hpre1
    simp only [if_true,t1,Option.bind_some]
    cases hr:r with
    | true =>
      right
      simp only [if_true]
      exact ⟨l2,rfl,fin l2 (o1.trans d t2) (t3 hr)⟩
    | false =>
      simp only [Bool.false_eq_true,if_false]
      exact k1 _ _ _ _ _ _ _ (o1.trans d t2) v1 v2
 have k3:∀ (lim':Int) (l1:List α),On d a b l l1 →
   (∃ s',tU br self (a,b,lim,wb,wp,l) (lim',l1)=some (.inl s')∧(a0≤s'.1∧s'.1≤s'.2.1∧s'.2.1≤b0∧On d a0 b0 l0 s'.2.2.2.2.2∧Out d lt a0 b0 s'.1 s'.2.1 s'.2.2.2.2.2)∧(s'.2.1-s'.1).toNat<(b-a).toNat) ∨
   (∃ r,tU br self (a,b,lim,wb,wp,l) (lim',l1)=some (.inr r)∧On d a0 b0 l0 r∧Asc d lt a0 b0 r):=by
  intro lim' l1 o1
  have hl1:=o1.len
  unfold tU
  obtain ⟨pv,h,t1,t2,t3⟩:=DW hbr (l:=l1) (hf.on o1) (a:=a) (b:=b) (by omega) (by omega) (by omega)
  simp only [t1,Option.bind_some]
  by_cases h2:h=2
  ·obtain ⟨l2,u1,u2⟩:=AW (br:=br) (d:=d) (a:=a) (b:=b) (l0:=l1) (by omega) (by omega) (by omega) i2
   have e1:aK b 1=b-1:=bC (by omega) (by omega)
   have e2:aK pv a=pv-a:=bC (by omega) (by omega)
   have e3:aK (b-1) (pv-a)=b-1-(pv-a):=bC (by omega) (by omega)
   simp only [h2,beq_self_eq_true,if_true,u1,Option.bind_some,e1,e2,e3]
   exact k2 _ _ _ _ (o1.trans d u2) (by omega) (by omega)
  ·have:(h==2)=false:=by simp [h2]
   simp only [this,Bool.false_eq_true,if_false]
   exact k2 _ _ _ _ o1 t2 t3
 cases hwb:wb with
 | false =>
   obtain ⟨l1,t1,t2⟩:=GQ (br:=br) (d:=d) (a:=a) (b:=b) (l0:=l) (by omega) (by omega) (by omega) i2
   simp only [Bool.not_false,if_true,t1,Option.bind_some]
   have:=k3 (aK lim 1) l1 t2
   rw [hwb] at this
   exact this
 | true =>
   simp only [Bool.not_true,Bool.false_eq_true,if_false]
   have:=k3 lim l (.refl _)
   rw [hwb] at this
   exact this
theorem JV:∀ (n:Nat) (a b limit:Int) (l:List α),0≤a→a≤b→b≤l.length→Ci P d l→Pre d lt a b l→b-a<2^n→∃ l',nO br (n+1) a b limit l=some l'∧On d a b l l'∧Asc d lt a b l'
 | 0,a,b,limit,l,h0,hab,hb,hf,hp,hn=>by
   obtain ⟨l',t1,t2,t3⟩:=Yi hbr w (self:=nO br 0) (N:=0) (fun a b limit l h1 h2 _ _ _ h3=>by omega) (limit:=limit) h0 hab hb hf hp (.inl (by omega))
   refine ⟨l', ?_,t2,t3⟩
   show qZ br (nO br 0) a b limit l=some l'
   unfold qZ
   rw [t1];rfl
 | n+1,a,b,limit,l,h0,hab,hb,hf,hp,hn=>by
   obtain ⟨l',t1,t2,t3⟩:=Yi hbr w (self:=nO br (n+1)) (N:=2^n) (fun a b limit l h1 h2 h3 h4 h5 h6=>JV n a b limit l h1 h2 h3 h4 h5 h6) (limit:=limit) h0 hab hb hf hp (.inr (by rw [Int.pow_succ] at hn;omega))
   refine ⟨l', ?_,t2,t3⟩
   show qZ br (nO br (n+1)) a b limit l=some l'
   unfold qZ
   rw [t1];rfl
theorem MZ (m:Nat) (hm:31≤m) {l:List α} (hf:Ci P d l) (v:Int):∃ l',nO br (m+1) 0 (l.length:Int) v l=some l'∧On d 0 (l.length:Int) l l'∧Asc d lt 0 (l.length:Int) l':=by
 have hL:=hf.len
 refine JV hbr w m 0 (l.length:Int) v l (Int.le_refl _) (by omega) (Int.le_refl _) hf (fun h=>absurd h (by omega)) ?_
 have h1:(2147483648:Nat)≤2^m:=Nat.le_trans (by decide:2147483648≤2^31) (Nat.pow_le_pow_right (by omega) hm)
 have h3:((2:Int)^m)=((2^m:Nat):Int):=by simp
 rw [h3]
 omega
theorem Yy {l:List α} (hf:Ci P d l):∃ l',Gt br l=some l'∧l'.Perm l∧l'.Pairwise fun x y=>lt y x=false:=by
 have hL:=hf.len
 obtain ⟨v,v1,_⟩:=JE (x:=(l.length:Int)) (by omega) hL
 obtain ⟨l',t1,t2,t3⟩:=MZ hbr w 999 (by omega) hf v
 refine ⟨l', ?_,t2.perm, ?_⟩
 ·unfold Gt Qw
  rw [v1,Option.bind_some,t1];rfl
 ·have hl:=t2.len
  rw [List.pairwise_iff_getElem]
  intro i j hi hj hij
  have:=t3 (i:Int) (j:Int) (by omega) (by omega) (by omega)
  unfold gz at this
  rw [List.getD_eq_getElem?_getD,List.getD_eq_getElem?_getD,Int.toNat_natCast,Int.toNat_natCast,List.getElem?_eq_getElem hi,List.getElem?_eq_getElem hj] at this
  exact this
end
def xE {α:Type} (a1:Int×Int×(List α)):Int×(List α)→Option (Int×Int×(List α) ⊕ Int×(List α)):=fun a0 =>
 some (.inl (a0.1,(aJ a1.2.1 1),a0.2))
def xF {α:Type} (eqb:α→α→Bool) (h0:(List α)) (a1:Int):Int×Int×(List α)→Option (Int×Int×(List α) ⊕ Int×(List α)):=fun a0 =>
 if (decide (a0.2.1<((Int.toNat (h0.length:Int)-Int.toNat a1:Nat):Int))) then ((idx (List.take (Int.toNat (h0.length:Int)-Int.toNat a1) (List.drop (Int.toNat a1) a0.2.2)) a0.2.1).bind fun a2=>(idx (List.take (Int.toNat (h0.length:Int)-Int.toNat a1) (List.drop (Int.toNat a1) a0.2.2)) (aK a0.2.1 1)).bind fun a3=>if (!(eqb a2 a3)) then ((idx (List.take (Int.toNat (h0.length:Int)-Int.toNat a1) (List.drop (Int.toNat a1) a0.2.2)) a0.2.1).bind fun a4=>(idx a0.2.2 a0.1).bind fun a5=>xE a0 ((aJ a0.1 1),(List.set a0.2.2 (Int.toNat a0.1) a4))) else (xE a0 (a0.1,a0.2.2))) else (some (.inr (a0.1,a0.2.2)))
def Co {α:Type} (eqb:α→α→Bool) (z:α) (h0:(List α)):Int→Option (Int ⊕ ((List α) ⊕ Unit)):=fun a1 =>
 if (decide (a1<(h0.length:Int))) then ((idx h0 a1).bind fun a3=>(idx h0 (aK a1 1)).bind fun a4=>if (eqb a3 a4) then (if (decide ((0:Int)≤a1)&&(decide (a1≤(h0.length:Int))&&decide ((h0.length:Int)≤(h0.length:Int)))) then ((aH (xF eqb h0 a1) (a1,1,h0)).bind fun a0=>if (decide ((0:Int)≤a0.1)&&(decide (a0.1≤(a0.2.length:Int))&&decide ((a0.2.length:Int)≤(a0.2.length:Int)))) then ((slc (cpy a0.2 (Int.toNat a0.1) (List.replicate (Int.toNat (a0.2.length:Int)-Int.toNat a0.1) z)) 0 a0.1).bind fun a2=>some (.inr (.inl a2))) else none) else none) else (some (.inl (aJ a1 1)))) else (some (.inr (.inr (()))))
def Jp {α:Type} (eqb:α→α→Bool) (z:α) (h0:(List α)):Option ((List α)):=
 if (decide ((h0.length:Int)<2)) then (some h0) else ((aH (Co eqb z h0) 1).bind fun a1=>match a1 with | .inl a0=>some a0 | .inr a2=>some h0)
section
variable {α:Type} {lt:α→α→Bool} (w:Oh lt) (tri:∀ x y,lt x y=false→lt y x=false→x=y) {eqb:α→α→Bool} (heq:∀ x y,eqb x y=true↔x=y) (z:α)
include w tri
theorem Oc {r:List α} {y x:α} (hr:(r++[y]).Pairwise fun a b=>lt a b=true) (hy:lt x y=false) (hne:x≠y):(r++[y]++[x]).Pairwise fun a b=>lt a b=true:=by
 have hyx:lt y x=true:=by
  cases h:lt y x with
  | true=>rfl
  | false=>exact absurd (tri x y hy h) hne
 rw [List.pairwise_append]
 refine ⟨hr,by simp,fun a ha b hb=>?_⟩
 simp at hb
 subst hb
 rw [List.pairwise_append] at hr
 rcases List.mem_append.1 ha with m | m
 ·have h1:=hr.2.2 a m y (by simp)
  rcases w.neg y a b hyx with q | q
  ·rw [w.asymm _ _ h1] at q;cases q
  ·exact q
 ·simp at m;subst m;exact hyx
include heq
theorem Qi {l:List α} (hl:(l.length:Int)≤1073741824) (hs:l.Pairwise fun x y=>lt y x=false) :
  ∃ r,Jp eqb z l=some r∧(r.Pairwise fun x y=>lt x y=true)∧∀ x,x ∈ r↔x ∈ l:=by
 unfold Jp
 by_cases h2:(l.length:Int)<2
 ·refine ⟨l,by simp only [h2,decide_true,if_true], ?_,fun x=>Iff.rfl⟩
  have hlen:l.length<2:=by omega
  clear hl hs h2
  rcases l with _ | ⟨x,_ | ⟨y,t⟩⟩
  ·exact .nil
  ·simp
  ·simp at hlen;omega
 simp only [h2,decide_false,Bool.false_eq_true,if_false]
 have adj:∀ (i j:Nat) (x y:α),i<j→l[i]?=some x→l[j]?=some y→lt y x=false:=fun i j x y hij hx hy=>by
  have h1:=(List.getElem?_eq_some_iff.1 hx)
  have h3:=(List.getElem?_eq_some_iff.1 hy)
  obtain ⟨a1,rfl⟩:=h1
  obtain ⟨b1,rfl⟩:=h3
  exact List.pairwise_iff_getElem.1 hs i j a1 b1 hij
 have get:∀ i:Nat,i<l.length→∃ x,l[i]?=some x:=fun i hi=>⟨l[i],List.getElem?_eq_getElem hi⟩
 have takes:∀ (i:Nat) (x:α),l[i]?=some x→l.take (i+1)=l.take i++[x]:=fun i x hx=>by rw [List.take_add_one,hx];rfl
 -- the second walk
 have inner:∀ (k:Nat) (y:α),1≤k→k<l.length→l[k]?=some y→l[k-1]?=some y→((l.take k).Pairwise fun x y=>lt x y=true) →
   ∃ (i:Nat) (l':List α),aH (xF eqb l (k:Int)) ((k:Int),1,l)=some ((i:Int),l')∧i≤l'.length∧l'.length=l.length∧((l'.take i).Pairwise fun x y=>lt x y=true)∧∀ x,x ∈ l'.take i↔x ∈ l:=by
  intro k y k1 kl hy hy1 hp
  obtain ⟨r,r1,i,r2,r3,r4,r5,r6⟩:=jT (fun s:Int×Int×List α=>((l.length:Int)-k-s.2.1).toNat)
   (fun s:Int×Int×List α=>∃ (i p:Nat) (y:α),s.1=i∧s.2.1=((p-k:Nat):Int)∧k+1≤p∧p≤l.length∧1≤i∧i≤p-1∧s.2.2.length=l.length∧s.2.2.drop i=l.drop i∧l[p-1]?=some y∧(∃ t,s.2.2.take i=t++[y])∧((s.2.2.take i).Pairwise fun x y=>lt x y=true)∧∀ x,x ∈ s.2.2.take i↔x ∈ l.take p)
   (fun r:Int×List α=>∃ i:Nat,r.1=i∧i≤r.2.length∧r.2.length=l.length∧((r.2.take i).Pairwise fun x y=>lt x y=true)∧∀ x,x ∈ r.2.take i↔x ∈ l) (xF eqb l (k:Int)) (by
    rintro ⟨i',k2,m⟩ ⟨i,p,y,hi',hk2,p1,p2,i0,i1,hml,hdrop,hy,⟨t,ht⟩,hpw,hmem⟩
    simp only at hi' hk2 hml hdrop ht hpw hmem ⊢
    subst hi' hk2
    unfold xF
    simp only [Int.toNat_natCast]
    by_cases hp:p<l.length
    ·left
     obtain ⟨x,hx⟩:=get p hp
     have mg:∀ j,i≤j→m[j]?=l[j]?:=fun j hj=>by
      have:=congrArg (fun q=>q[j-i]?) hdrop
      simp only [List.getElem?_drop] at this
      rwa [show i+(j-i)=j from by omega] at this
     have hc:((p-k:Nat):Int)<((l.length-k:Nat):Int):=by omega
     have g1:idx (List.take (l.length-k) (List.drop k m)) ((p-k:Nat):Int)=some x:=by
      rw [Vl,List.getElem?_take,if_pos (by omega),List.getElem?_drop,show k+(p-k)=p from by omega,mg p (by omega),hx]
     have e1:aK ((p-k:Nat):Int) 1=((p-1-k:Nat):Int):=by rw [bC (by omega) (by omega)];omega
     have g2:idx (List.take (l.length-k) (List.drop k m)) ((p-1-k:Nat):Int)=some y:=by
      rw [Vl,List.getElem?_take,if_pos (by omega),List.getElem?_drop,show k+(p-1-k)=p-1 from by omega,mg (p-1) (by omega),hy]
     have e2:aJ ((p-k:Nat):Int) 1=((p+1-k:Nat):Int):=by rw [aP (by omega) (by omega)];omega
     have e3:aJ (i:Int) 1=((i+1:Nat):Int):=by rw [aP (by omega) (by omega)];omega
     have tk:=takes p x hx
     simp only [hc,decide_true,if_true,g1,Option.bind_some,e1,g2]
     cases hb:eqb x y with
     | true =>
       obtain rfl:=(heq x y).1 hb
       simp only [Bool.not_true,Bool.false_eq_true,if_false,xE,e2]
       refine ⟨_,rfl,⟨i,p+1,x,rfl,rfl,by omega,by omega,i0,by omega,hml,hdrop,by rw [show p+1-1=p from by omega];exact hx,⟨t,ht⟩,hpw,fun v=>?_⟩,by simp only;omega⟩
       rw [hmem v,tk,List.mem_append,List.mem_singleton]
       constructor
       ·exact .inl
       ·rintro (q | rfl)
        ·exact q
        ·rw [← hmem v,ht];simp
     | false =>
       have hne:x≠y:=fun e=>by rw [(heq x y).2 e] at hb;cases hb
       have gi:idx m (i:Int)=some (m[i]'(by omega)):=by rw [Vl];exact List.getElem?_eq_getElem _
       simp only [Bool.not_false,if_true,gi,Option.bind_some,xE,e2,e3]
       have tset:(m.set i x).take (i+1)=m.take i++[x]:=by
        rw [List.take_add_one,List.take_set_of_le (Nat.le_refl i),List.getElem?_set,if_pos rfl,if_pos (by omega)];rfl
       refine ⟨_,rfl,⟨i+1,p+1,x,rfl,rfl,by omega,by omega,by omega,by omega,by simp only [List.length_set];exact hml, ?_,by rw [show p+1-1=p from by omega];exact hx,⟨m.take i,tset⟩, ?_,fun v=>?_⟩,by simp only;omega⟩
       ·simp only
        rw [List.drop_set_of_lt (by omega),← List.drop_drop,hdrop,List.drop_drop]
       ·simp only
        rw [tset,ht]
        rw [ht] at hpw
        exact Oc w tri hpw (adj (p-1) p y x (by omega) hy hx) hne
       ·simp only
        rw [tset,tk,List.mem_append,List.mem_append,hmem v]
    ·right
     have hc:¬ ((p-k:Nat):Int)<((l.length-k:Nat):Int):=by omega
     refine ⟨((i:Int),m),by simp only [hc,decide_false,Bool.false_eq_true,if_false],i,rfl,by simp only;omega,hml,hpw,fun v=>?_⟩
     rw [hmem v,List.take_of_length_le (by omega)]) ((k:Int),1,l) ⟨k,k+1,y,rfl,by simp only;omega,by omega,by omega,k1,by omega,rfl,rfl,by rw [show k+1-1=k from by omega];exact hy,⟨l.take (k-1),by
      have:=takes (k-1) y hy1
      rwa [show k-1+1=k from by omega] at this⟩,hp,fun v=>by
      rw [takes k y hy,List.mem_append,List.mem_singleton]
      constructor
      ·exact .inl
      ·rintro (q | rfl)
       ·exact q
       ·have:=takes (k-1) v hy1
        rw [show k-1+1=k from by omega] at this
        rw [this];simp⟩
  exact ⟨i,r.2,by rw [r1];congr 1;exact Prod.ext r2 rfl,r3,r4,r5,r6⟩
 obtain ⟨r,r1,r2⟩:=jT (fun s:Int=>((l.length:Int)-s).toNat) (fun s:Int=>∃ k:Nat,s=k∧1≤k∧k≤l.length∧((l.take k).Pairwise fun x y=>lt x y=true))
  (fun r:List α ⊕ Unit=>match r with | .inl r=>(r.Pairwise fun x y=>lt x y=true)∧∀ x,x ∈ r↔x ∈ l | .inr _=>l.Pairwise fun x y=>lt x y=true) (Co eqb z l) (by
   rintro s ⟨k,rfl,k1,k2,hp⟩
   unfold Co
   by_cases hk:k<l.length
   ·have hc:(k:Int)<(l.length:Int):=by omega
    obtain ⟨x,hx⟩:=get k hk
    obtain ⟨y,hy⟩:=get (k-1) (by omega)
    have e1:aK (k:Int) 1=((k-1:Nat):Int):=by rw [bC (by omega) (by omega)];omega
    simp only [hc,decide_true,if_true,aQ hx,Option.bind_some,e1,aQ hy]
    cases hb:eqb x y with
    | false =>
      left
      have hne:x≠y:=fun e=>by rw [(heq x y).2 e] at hb;cases hb
      simp only [Bool.false_eq_true,if_false]
      refine ⟨((k+1:Nat):Int),by rw [bH k (by omega)],⟨k+1,rfl,by omega,by omega, ?_⟩,by omega⟩
      rw [takes k x hx]
      have:=takes (k-1) y hy
      rw [show k-1+1=k from by omega] at this
      rw [this] at hp ⊢
      exact Oc w tri hp (adj (k-1) k y x (by omega) hy hx) hne
    | true =>
      right
      obtain rfl:=(heq x y).1 hb
      obtain ⟨i,l',t1,t2,t3,t4,t5⟩:=inner k x k1 hk hx hy hp
      have c0:decide ((0:Int)≤(k:Int))=true:=by simp
      have c1:decide ((k:Int)≤(l.length:Int))=true:=by simp;omega
      have c2:decide ((l.length:Int)≤(l.length:Int))=true:=by simp
      have c3:decide ((0:Int)≤(i:Int))=true:=by simp
      have c4:decide ((i:Int)≤(l'.length:Int))=true:=by simp;omega
      have c5:decide ((l'.length:Int)≤(l'.length:Int))=true:=by simp
      have hsl:slc (cpy l' i (List.replicate (l'.length-i) z)) 0 (i:Int)=some (l'.take i):=by
       unfold slc cpy
       rw [if_pos ⟨Int.le_refl _,by omega,by simp;omega⟩]
       simp only [Int.toNat_natCast,Int.toNat_zero,List.drop_zero]
       rw [List.append_assoc,List.take_append_of_le_length (by rw [List.length_take];omega),List.take_take,Nat.min_self]
      simp only [if_true,c0,c1,c2,Bool.and_self,t1,Option.bind_some,c3,c4,c5,Int.toNat_natCast,hsl]
      exact ⟨_,rfl,t4,t5⟩
   ·right
    have hc:¬ (k:Int)<(l.length:Int):=by omega
    refine ⟨.inr (),by simp only [hc,decide_false,Bool.false_eq_true,if_false], ?_⟩
    simp only
    rwa [List.take_of_length_le (by omega)] at hp) 1 ⟨1,rfl,by omega,by omega,by
     have hlen:2≤l.length:=by omega
     clear inner takes get adj h2 hs hl
     rcases l with _ | ⟨x,t⟩
     ·simp at hlen
     ·simp⟩
 rw [r1,Option.bind_some]
 cases r with
 | inl r=>exact ⟨r,rfl,r2.1,r2.2⟩
 | inr _=>exact ⟨l,rfl,r2,fun x=>Iff.rfl⟩
end
end Go.SM
end
