/- What the functions compute, part 2. -/
import Derived.Test.YtonmponhpfpokaaGreatRPl1
import Derived.Lib.IndexMore
set_option linter.unusedVariables false
set_option linter.unusedSimpArgs false
set_option linter.unusedSectionVars false
noncomputable section
namespace Go.SM
open Go Go.VI
def tV (a1:Int×Int):Int→Option ((Int×Int) ⊕ Int):=fun a0 =>
 some (.inl (a0,(aE a1.2 1)))
def lS (self:aF→(List aF)→Option (Int)) (r0:aF) (l:(List aF)) (a6:Int) (a0:aF):(Int×Int)→Option ((Int×Int) ⊕ Int):=fun a1 =>
 if (decide (a1.2<([(aF.mk r0.X r0.Y (aH (imax r0.X a0.X) r0.X) r0.H),(aF.mk (dJ (aE r0.X r0.W) (aE a0.X a0.W)) r0.Y (aH (aE r0.X r0.W) (dJ (aE r0.X r0.W) (aE a0.X a0.W))) r0.H),(aF.mk (imax r0.X a0.X) r0.Y (aH (dJ (aE r0.X r0.W) (aE a0.X a0.W)) (imax r0.X a0.X)) (aH (imax r0.Y a0.Y) r0.Y)),(aF.mk (imax r0.X a0.X) (dJ (aE r0.Y r0.H) (aE a0.Y a0.H)) (aH (dJ (aE r0.X r0.W) (aE a0.X a0.W)) (imax r0.X a0.X)) (aH (aE r0.Y r0.H) (dJ (aE r0.Y r0.H) (aE a0.Y a0.H))))].length:Int))) then ((idx [(aF.mk r0.X r0.Y (aH (imax r0.X a0.X) r0.X) r0.H),(aF.mk (dJ (aE r0.X r0.W) (aE a0.X a0.W)) r0.Y (aH (aE r0.X r0.W) (dJ (aE r0.X r0.W) (aE a0.X a0.W))) r0.H),(aF.mk (imax r0.X a0.X) r0.Y (aH (dJ (aE r0.X r0.W) (aE a0.X a0.W)) (imax r0.X a0.X)) (aH (imax r0.Y a0.Y) r0.Y)),(aF.mk (imax r0.X a0.X) (dJ (aE r0.Y r0.H) (aE a0.Y a0.H)) (aH (dJ (aE r0.X r0.W) (aE a0.X a0.W)) (imax r0.X a0.X)) (aH (aE r0.Y r0.H) (dJ (aE r0.Y r0.H) (aE a0.Y a0.H))))] a1.2).bind fun a2=>(if (decide (a2.W>0)) then (some (decide (a2.H>0))) else (some false)).bind fun a3=>if a3 then ((slc l (aE a6 1) (l.length:Int)).bind fun a4=>(self a2 a4).bind fun a5=>tV a1 (aE a1.1 a5)) else (tV a1 a1.1)) else (some (.inr a1.1))
def nK (self:aF→(List aF)→Option (Int)) (r0:aF) (l:(List aF)):Int→Option (Int ⊕ (Int ⊕ Unit)):=fun a0 =>
 if (decide (a0<(l.length:Int))) then ((idx l a0).bind fun a1=>(oU r0 a1).bind fun a2=>if (!a2) then (some (.inl (aE a0 1))) else ((aJ (lS self r0 l a0 a1) (0,0)).bind fun a3=>some (.inr (.inl a3)))) else (some (.inr (.inr (()))))
def qO (self:aF→(List aF)→Option (Int)) (r0:aF) (l:(List aF)):Option (Int):=
 (aJ (nK self r0 l) 0).bind fun a1=>match a1 with | .inl a0=>some a0 | .inr a2=>some (eG r0.W r0.H)
def jC:Nat→aF→(List aF)→Option (Int)
 | 0=>fun _ _=>none
 | n+1=>qO (jC n)
def Ex (r0:aF) (l:(List aF)):Option (Int):=jC 1000 r0 l
def rS (l:(List aF)):(Int×Int)→Option ((Int×Int) ⊕ Int):=fun a0 =>
 if (decide (a0.2<(l.length:Int))) then ((idx l a0.2).bind fun a3=>(slc l 0 a0.2).bind fun a1=>(Ex a3 a1).bind fun a2=>some (.inl ((aE a0.1 a2),(aE a0.2 1)))) else (some (.inr a0.1))
def Dm (l:(List aF)):Option (Int):=
 (aJ (rS l) (0,0)).bind fun a0=>some a0
def rE (s0:bM):Option (Int×Int):=
 (bX s0).bind fun r4=>if (r4 != 0) then (some (0,r4)) else ((app [] s0.aN).bind fun a0=>(app a0 s0.Used).bind fun a1=>(Dm a1).bind fun a2=>some ((aH (eG s0.aW s0.aQ) a2),0))
def kM (n:Int) (h380:(List Int)):Int→Option (Int ⊕ Int):=fun a0 =>
 (if (decide (a0>0)) then ((idx h380 (aH a0 1)).bind fun a2=>some (decide (a2>n))) else (some false)).bind fun a1=>if a1 then (some (.inl (aH a0 1))) else (some (.inr a0))
def kO (a3:Int):Int×(List Int)→Option (Int×(List Int) ⊕ (List Int)):=fun a0 =>
 if (decide (a0.1>a3)) then ((idx a0.2 (aH a0.1 1)).bind fun a1=>(idx a0.2 a0.1).bind fun a2=>some (.inl ((aH a0.1 1),(List.set a0.2 (Int.toNat a0.1) a1)))) else (some (.inr a0.2))
def dF (n:Int) (h380:(List Int)):Option ((List Int)):=
 (aJ (kM n h380) (h380.length:Int)).bind fun a1=>(if (decide (a1>0)) then ((idx h380 (aH a1 1)).bind fun a5=>some (a5==n)) else (some false)).bind fun a3=>if a3 then (some h380) else ((app h380 [0]).bind fun a2=>(aJ (kO a1) ((aH (a2.length:Int) 1),a2)).bind fun a0=>(idx a0 a1).bind fun a4=>some (List.set a0 (Int.toNat a1) n))
def iQ (l:(List aF)):(Int×(List Int)×(List Int))→Option ((Int×(List Int)×(List Int)) ⊕ ((List Int)×(List Int))):=fun a0 =>
 if (decide (a0.1<(l.length:Int))) then ((idx l a0.1).bind fun a5=>(dF a5.X a0.2.1).bind fun a1=>(idx l a0.1).bind fun a6=>(idx l a0.1).bind fun a7=>(dF (aE a6.X a7.W) a1).bind fun a2=>(idx l a0.1).bind fun a8=>(dF a8.Y a0.2.2).bind fun a3=>(idx l a0.1).bind fun a9=>(idx l a0.1).bind fun b0=>(dF (aE a9.Y b0.H) a3).bind fun a4=>some (.inl ((aE a0.1 1),a2,a4))) else (some (.inr (a0.2.1,a0.2.2)))
def lD (l:(List aF)):Option ((List Int)×(List Int)):=
 (aJ (iQ l) (0,[],[])).bind fun a0=>some (a0.1,a0.2)
def gK (l:(List aF)) (x1:Int) (y:Int):Int→Option (Int ⊕ (Unit ⊕ Unit)):=fun a1 =>
 if (decide (a1<(l.length:Int))) then ((idx l a1).bind fun a0=>(if (decide (a0.X≤x1)) then (if (decide (x1<(aE a0.X a0.W))) then (if (decide (a0.Y≤y)) then (some (decide (y<(aE a0.Y a0.H)))) else (some false)) else (some false)) else (some false)).bind fun a2=>if a2 then (some (.inr (.inl ()))) else (some (.inl (aE a1 1)))) else (some (.inr (.inr (()))))
def jG (l:(List aF)) (x1:Int) (y:Int):Option (Bool):=
 (aJ (gK l x1 y) 0).bind fun a0=>match a0 with | .inl a1=>some true | .inr a2=>some false
def iP (a1:Int×Int):Int→Option ((Int×Int) ⊕ Int):=fun a0 =>
 some (.inl (a0,(aE a1.2 1)))
def fJ (l:(List aF)) (r2:(List Int)×(List Int)) (a1:Int×Int):(Int×Int)→Option ((Int×Int) ⊕ Int):=fun a0 =>
 if (decide ((aE a0.2 1)<(r2.2.length:Int))) then ((idx r2.1 a1.2).bind fun a3=>(idx r2.2 a0.2).bind fun a4=>(jG l a3 a4).bind fun a2=>if a2 then ((idx r2.1 (aE a1.2 1)).bind fun a5=>(idx r2.1 a1.2).bind fun a6=>(idx r2.2 (aE a0.2 1)).bind fun a7=>(idx r2.2 a0.2).bind fun a8=>iP a0 (aE a0.1 (eG (aH a5 a6) (aH a7 a8)))) else (iP a0 a0.1)) else (some (.inr a0.1))
def fK (l:(List aF)) (r2:(List Int)×(List Int)):(Int×Int)→Option ((Int×Int) ⊕ Int):=fun a0 =>
 if (decide ((aE a0.2 1)<(r2.1.length:Int))) then ((aJ (fJ l r2 a0) (a0.1,0)).bind fun a1=>some (.inl (a1,(aE a0.2 1)))) else (some (.inr a0.1))
def lC (l:(List aF)):Option (Int):=
 (lD l).bind fun r2=>(aJ (fK l r2) (0,0)).bind fun a0=>some a0
def lF (s0:bM):Option (Int):=
 (app [] s0.aN).bind fun l7=>(app l7 s0.Used).bind fun l8=>(lC l8).bind fun r9=>some (aH (eG s0.aW s0.aQ) r9)
def iL (s0:bM):Option (Int×Int):=
 (dA s0).bind fun r2=>if (r2 != 0) then (some (0,r2)) else ((lF s0).bind fun r4=>some (r4,0))
def mP (b:(List aF)) (a2:aF):Int→Option (Int ⊕ (Unit ⊕ Unit)):=fun a0 =>
 if (decide (a0<(b.length:Int))) then ((idx b a0).bind fun a3=>(oU a2 a3).bind fun a1=>if a1 then (some (.inr (.inl ()))) else (some (.inl (aE a0 1)))) else (some (.inr (.inr (()))))
def mQ (a:(List aF)) (b:(List aF)):Int→Option (Int ⊕ (Unit ⊕ Unit)):=fun a0 =>
 if (decide (a0<(a.length:Int))) then ((idx a a0).bind fun a1=>(aJ (mP b a1) 0).bind fun a2=>match a2 with | .inl a3=>some (.inr (.inl ())) | .inr a4=>some (.inl (aE a0 1))) else (some (.inr (.inr (()))))
def lU (a:(List aF)) (b:(List aF)):Option (Bool):=
 (aJ (mQ a b) 0).bind fun a0=>match a0 with | .inl a1=>some true | .inr a2=>some false
def nF (l:(List aF)) (a1:aF×Bool):Int→Option (Int ⊕ (Unit ⊕ Unit)):=fun a0 =>
 if (decide (a0<(l.length:Int))) then ((idx l a0).bind fun a3=>(uB a3 a1.1).bind fun a2=>if (!a2) then (some (.inr (.inl ()))) else (some (.inl (aE a0 1)))) else (some (.inr (.inr (()))))
def nG (s0:bM) (l:(List aF)):Int→Option (Int ⊕ (Unit ⊕ Unit)):=fun a0 =>
 if (decide (a0<(l.length:Int))) then ((idx l a0).bind fun a1=>((lU [a1] s0.aN).bind fun a4=>if a4 then (some true) else ((lU [a1] s0.Used).bind fun a5=>if a5 then (some true) else ((slc l 0 a0).bind fun a3=>(lU [a1] a3).bind fun a6=>some a6))).bind fun a2=>if a2 then (some (.inr (.inl ()))) else (some (.inl (aE a0 1)))) else (some (.inr (.inr (()))))
def uY (s0:bM) (l:(List aF)):Option (bM×Int×ByteArray×ByteArray×Int×Int×Int×Int):=
 (bX s0).bind fun r4=>if (r4 != 0) then (some ((bM.mk ByteArray.empty ByteArray.empty 0 0 0 0 [] []),r4,ByteArray.empty,ByteArray.empty,0,0,0,0)) else (if (decide ((l.length:Int)>(aH 48 (s0.Used.length:Int)))) then (some ((bM.mk ByteArray.empty ByteArray.empty 0 0 0 0 [] []),4,ByteArray.empty,ByteArray.empty,0,0,0,0)) else ((gS l).bind fun r8=>if (!r8) then (some ((bM.mk ByteArray.empty ByteArray.empty 0 0 0 0 [] []),1,ByteArray.empty,ByteArray.empty,0,0,0,0)) else ((lT s0 0).bind fun a6=>(aJ (nF l a6) 0).bind fun a7=>match a7 with | .inl a8=>some ((bM.mk ByteArray.empty ByteArray.empty 0 0 0 0 [] []),13,ByteArray.empty,ByteArray.empty,0,0,0,0) | .inr a9=>(aJ (nG s0 l) 0).bind fun a3=>match a3 with | .inl a4=>some ((bM.mk ByteArray.empty ByteArray.empty 0 0 0 0 [] []),7,ByteArray.empty,ByteArray.empty,0,0,0,0) | .inr a5=>(oK s0.aN 0 0).bind fun a1=>(oK s0.Used 0 0).bind fun a2=>(app a2 l).bind fun a0=>some ((bM.mk s0.Name s0.bA s0.fT s0.fE s0.aW s0.aQ a1 a0),0,s0.Name,s0.bA,s0.fT,s0.fE,s0.aW,s0.aQ))))
def eC (s0:bM) (l:(List aF)):Int→Option (Int ⊕ (Unit ⊕ Unit)):=fun a0 =>
 if (decide (a0<(l.length:Int))) then (((idx l a0).bind fun a6=>(eV a6 s0.aN).bind fun a3=>if a3 then (some true) else ((idx l a0).bind fun a7=>(eV a7 s0.Used).bind fun a4=>if a4 then (some true) else ((idx l a0).bind fun a8=>(slc l 0 a0).bind fun a2=>(eV a8 a2).bind fun a5=>some a5))).bind fun a1=>if a1 then (some (.inr (.inl ()))) else (some (.inl (aE a0 1)))) else (some (.inr (.inr (()))))
def iR (s0:bM) (l:(List aF)):Option (bM×Int×ByteArray×ByteArray×Int×Int×Int×Int):=
 (dA s0).bind fun r2=>if (r2 != 0) then (some ((bM.mk ByteArray.empty ByteArray.empty 0 0 0 0 [] []),r2,ByteArray.empty,ByteArray.empty,0,0,0,0)) else (if (decide ((aE (s0.Used.length:Int) (l.length:Int))>48)) then (some ((bM.mk ByteArray.empty ByteArray.empty 0 0 0 0 [] []),4,ByteArray.empty,ByteArray.empty,0,0,0,0)) else ((eH l).bind fun r6=>if (!r6) then (some ((bM.mk ByteArray.empty ByteArray.empty 0 0 0 0 [] []),1,ByteArray.empty,ByteArray.empty,0,0,0,0)) else ((eI s0 l).bind fun a6=>if (!a6) then (some ((bM.mk ByteArray.empty ByteArray.empty 0 0 0 0 [] []),13,ByteArray.empty,ByteArray.empty,0,0,0,0)) else ((aJ (eC s0 l) 0).bind fun a3=>match a3 with | .inl a4=>some ((bM.mk ByteArray.empty ByteArray.empty 0 0 0 0 [] []),7,ByteArray.empty,ByteArray.empty,0,0,0,0) | .inr a5=>(app [] s0.aN).bind fun a0=>(app [] s0.Used).bind fun a1=>(app a1 l).bind fun a2=>some ((bM.mk s0.Name s0.bA s0.fT s0.fE s0.aW s0.aQ a0 a2),0,s0.Name,s0.bA,s0.fT,s0.fE,s0.aW,s0.aQ)))))
def gL (a:bM) (b:bM):Option (Bool):=
 (if (a.Name.toList==b.Name.toList) then (if (a.bA.toList==b.bA.toList) then (if (a.fT==b.fT) then (if (a.fE==b.fE) then (if (a.aW==b.aW) then (if (a.aQ==b.aQ) then ((eL a.aN b.aN).bind fun r4=>if r4 then ((eL a.Used b.Used).bind fun r5=>some r5) else (some false)) else (some false)) else (some false)) else (some false)) else (some false)) else (some false)) else (some false)).bind fun j3=>some j3
def tL (lists:(List (List aF))):Int→Option (Int ⊕ (Unit ⊕ Unit)):=fun a0 =>
 if (decide (a0<(lists.length:Int))) then ((idx lists a0).bind fun a1=>if (decide ((a1.length:Int)>48)) then (some (.inr (.inl ()))) else (some (.inl (aE a0 1)))) else (some (.inr (.inr (()))))
def tM (a1:(List aF)):Int→Option (Int ⊕ (Unit ⊕ Unit)):=fun a0 =>
 if (decide (a0<(a1.length:Int))) then ((idx a1 a0).bind fun a3=>(cE a3).bind fun a2=>if (!a2) then (some (.inr (.inl ()))) else (some (.inl (aE a0 1)))) else (some (.inr (.inr (()))))
def tO (lists:(List (List aF))):Int→Option (Int ⊕ (Unit ⊕ Unit)):=fun a0 =>
 if (decide (a0<(lists.length:Int))) then ((idx lists a0).bind fun a1=>(aJ (tM a1) 0).bind fun a2=>match a2 with | .inl a3=>some (.inr (.inl ())) | .inr a4=>some (.inl (aE a0 1))) else (some (.inr (.inr (()))))
def Am (lists:(List (List aF))):Option (Int):=
 (aJ (tL lists) 0).bind fun a3=>match a3 with | .inl a4=>some 4 | .inr a5=>(aJ (tO lists) 0).bind fun a0=>match a0 with | .inl a1=>some 1 | .inr a2=>some 0
def nP (s:(List Int)):Option (List Int):=app [] s
def xV:(Int×Int)→Option (Int):=fun j3 =>
 (Cw (ByteArray.mk #[0,1,2,2,3,3,3,3,4,4,4,4,4,4,4,4,5,5,5,5,5,5,5,5,5,5,5,5,5,5,5,5,6,6,6,6,6,6,6,6,6,6,6,6,6,6,6,6,6,6,6,6,6,6,6,6,6,6,6,6,6,6,6,6,7,7,7,7,7,7,7,7,7,7,7,7,7,7,7,7,7,7,7,7,7,7,7,7,7,7,7,7,7,7,7,7,7,7,7,7,7,7,7,7,7,7,7,7,7,7,7,7,7,7,7,7,7,7,7,7,7,7,7,7,7,7,7,7,8,8,8,8,8,8,8,8,8,8,8,8,8,8,8,8,8,8,8,8,8,8,8,8,8,8,8,8,8,8,8,8,8,8,8,8,8,8,8,8,8,8,8,8,8,8,8,8,8,8,8,8,8,8,8,8,8,8,8,8,8,8,8,8,8,8,8,8,8,8,8,8,8,8,8,8,8,8,8,8,8,8,8,8,8,8,8,8,8,8,8,8,8,8,8,8,8,8,8,8,8,8,8,8,8,8,8,8,8,8,8,8,8,8,8,8,8,8,8,8,8,8,8,8,8,8,8,8]) (IntKind.wrap .u8 j3.1)).bind fun x5=>some (aE j3.2 (IntKind.wrap .i64 x5))
def xW:(Int×Int)→Option (Int):=fun j2 =>
 if (decide (j2.1 ≥ 256)) then (xV ((Int.fdiv j2.1 (2^(min (Int.toNat 8) 64))),(aE j2.2 8))) else (xV (j2.1,j2.2))
def xX:(Int×Int)→Option (Int):=fun j1 =>
 if (decide (j1.1 ≥ 65536)) then (xW ((Int.fdiv j1.1 (2^(min (Int.toNat 16) 64))),(aE j1.2 16))) else (xW (j1.1,j1.2))
def Ku (x0:Int):Option (Int):=
 if (decide (x0 ≥ 4294967296)) then (xX ((Int.fdiv x0 (2^(min (Int.toNat 32) 64))),32)) else (xX (x0,0))
def Bz (x0:Int):Option (Int):=
 (Ku x0).bind fun r2=>some r2
def pO (x0:Int):Option (Bool):=
 some (x0 != x0)
def aV (x0:Int) (y:Int):Option (Int):=
 (pO x0).bind fun r2=>(pO y).bind fun r4=>if r2 then (if r4 then (some 0) else (some (-1))) else (if r4 then (some 1) else (if (decide (x0<y)) then (some (-1)) else (if (decide (x0>y)) then (some 1) else (some 0))))
def jR (a:Int):Int×(List Int)→Option (Int×(List Int) ⊕ (List Int)):=fun a0 =>
 (if (decide (a0.1>a)) then ((idx a0.2 a0.1).bind fun a4=>(idx a0.2 (aH a0.1 1)).bind fun a5=>(aV a4 a5).bind fun a3=>some (decide (a3<0))) else (some false)).bind fun a2=>if a2 then ((idx a0.2 (aH a0.1 1)).bind fun a1=>(idx a0.2 a0.1).bind fun a6=>(idx a0.2 a0.1).bind fun a7=>(idx (List.set a0.2 (Int.toNat a0.1) a1) (aH a0.1 1)).bind fun a8=>some (.inl ((aH a0.1 1),(List.set (List.set a0.2 (Int.toNat a0.1) a1) (Int.toNat (aH a0.1 1)) a6)))) else (some (.inr a0.2))
def jS (a:Int) (b:Int):Int×(List Int)→Option (Int×(List Int) ⊕ (List Int)):=fun a0 =>
 if (decide (a0.1<b)) then ((aJ (jR a) (a0.1,a0.2)).bind fun a1=>some (.inl ((aE a0.1 1),a1))) else (some (.inr a0.2))
def eO (a:Int) (b:Int) (h0:(List Int)):Option ((List Int)):=
 (aJ (jS a b) ((aE a 1),h0)).bind fun a0=>some a0
def cM (first:Int) (a0:Int×(List Int)):Int→Option (Int×(List Int) ⊕ ((List Int) ⊕ (List Int))):=fun a1 =>
 (idx a0.2 (aE first a0.1)).bind fun a4=>(idx a0.2 (aE first a1)).bind fun a5=>(aV a4 a5).bind fun a3=>if (!(decide (a3<0))) then (some (.inr (.inr a0.2))) else ((idx a0.2 (aE first a1)).bind fun a2=>(idx a0.2 (aE first a0.1)).bind fun a6=>(idx a0.2 (aE first a0.1)).bind fun a7=>(idx (List.set a0.2 (Int.toNat (aE first a0.1)) a2) (aE first a1)).bind fun a8=>some (.inl (a1,(List.set (List.set a0.2 (Int.toNat (aE first a0.1)) a2) (Int.toNat (aE first a1)) a6))))
def mB (hi:Int) (first:Int):Int×(List Int)→Option (Int×(List Int) ⊕ ((List Int) ⊕ (List Int))):=fun a0 =>
 if (decide ((aE (eG 2 a0.1) 1) ≥ hi)) then (some (.inr (.inl a0.2))) else ((if (decide ((aE (aE (eG 2 a0.1) 1) 1)<hi)) then ((idx a0.2 (aE first (aE (eG 2 a0.1) 1))).bind fun a3=>(idx a0.2 (aE (aE first (aE (eG 2 a0.1) 1)) 1)).bind fun a4=>(aV a3 a4).bind fun a2=>some (decide (a2<0))) else (some false)).bind fun a1=>if a1 then (cM first a0 (aE (aE (eG 2 a0.1) 1) 1)) else (cM first a0 (aE (eG 2 a0.1) 1)))
def cZ (lo:Int) (hi:Int) (first:Int) (h0:(List Int)):Option ((List Int)):=
 (aJ (mB hi first) (lo,h0)).bind fun a2=>match a2 with | .inl a0=>some a0 | .inr a1=>some a1
def lY (a:Int) (b:Int):Int×(List Int)→Option (Int×(List Int) ⊕ (List Int)):=fun a0 =>
 if (decide (a0.1 ≥ 0)) then ((cZ a0.1 (aH b a) a a0.2).bind fun a1=>some (.inl ((aH a0.1 1),a1))) else (some (.inr a0.2))
def lZ (a:Int):Int×(List Int)→Option (Int×(List Int) ⊕ (List Int)):=fun a0 =>
 if (decide (a0.1 ≥ 0)) then ((idx a0.2 (aE a a0.1)).bind fun a1=>(idx a0.2 a).bind fun a3=>(idx a0.2 a).bind fun a4=>(idx (List.set a0.2 (Int.toNat a) a1) (aE a a0.1)).bind fun a5=>(cZ 0 a0.1 a (List.set (List.set a0.2 (Int.toNat a) a1) (Int.toNat (aE a a0.1)) a3)).bind fun a2=>some (.inl ((aH a0.1 1),a2))) else (some (.inr a0.2))
def fW (a:Int) (b:Int) (h0:(List Int)):Option ((List Int)):=
 (aJ (lY a b) ((pK (aH (aH b a) 1) 2),h0)).bind fun a1=>(aJ (lZ a) ((aH (aH b a) 1),a1)).bind fun a0=>some a0
def sK (length:Int):Option (Int):=
 (Bz (IntKind.wrap .u64 length)).bind fun r2=>if (decide (0≤r2)) then (some (IntKind.wrap .u64 (1*2^(min (Int.toNat r2) 64)))) else none
def uH (h0_0:Int):Option (Int):=
 some (fC .u64 (fC .u64 (fC .u64 h0_0 (IntKind.wrap .u64 (h0_0*2^(min (Int.toNat 13) 64)))) (Int.fdiv (fC .u64 h0_0 (IntKind.wrap .u64 (h0_0*2^(min (Int.toNat 13) 64)))) (2^(min (Int.toNat 7) 64)))) (IntKind.wrap .u64 ((fC .u64 (fC .u64 h0_0 (IntKind.wrap .u64 (h0_0*2^(min (Int.toNat 13) 64)))) (Int.fdiv (fC .u64 h0_0 (IntKind.wrap .u64 (h0_0*2^(min (Int.toNat 13) 64)))) (2^(min (Int.toNat 7) 64))))*2^(min (Int.toNat 17) 64))))
def bT (a:Int) (a0:Int×Int×(List Int)):Int→Option (Int×Int×(List Int) ⊕ (List Int)):=fun a1 =>
 (idx a0.2.2 (aE a a1)).bind fun a2=>(idx a0.2.2 a0.1).bind fun a3=>(idx a0.2.2 a0.1).bind fun a4=>(idx (List.set a0.2.2 (Int.toNat a0.1) a2) (aE a a1)).bind fun a5=>some (.inl ((aE a0.1 1),(fC .u64 (fC .u64 (fC .u64 a0.2.1 (IntKind.wrap .u64 (a0.2.1*2^(min (Int.toNat 13) 64)))) (Int.fdiv (fC .u64 a0.2.1 (IntKind.wrap .u64 (a0.2.1*2^(min (Int.toNat 13) 64)))) (2^(min (Int.toNat 7) 64)))) (IntKind.wrap .u64 ((fC .u64 (fC .u64 a0.2.1 (IntKind.wrap .u64 (a0.2.1*2^(min (Int.toNat 13) 64)))) (Int.fdiv (fC .u64 a0.2.1 (IntKind.wrap .u64 (a0.2.1*2^(min (Int.toNat 13) 64)))) (2^(min (Int.toNat 7) 64))))*2^(min (Int.toNat 17) 64)))),(List.set (List.set a0.2.2 (Int.toNat a0.1) a2) (Int.toNat (aE a a1)) a3)))
def jP (a:Int) (b:Int) (r2:Int):Int×Int×(List Int)→Option (Int×Int×(List Int) ⊕ (List Int)):=fun a0 =>
 if (decide (a0.1≤(aE (aE a (eG (pK (aH b a) 4) 2)) 1))) then ((uH a0.2.1).bind fun a1=>if (decide ((IntKind.wrap .i64 (Gi .u64 a1 (IntKind.wrap .u64 (r2-1)))) ≥ (aH b a))) then (bT a a0 (aH (IntKind.wrap .i64 (Gi .u64 a1 (IntKind.wrap .u64 (r2-1)))) (aH b a))) else (bT a a0 (IntKind.wrap .i64 (Gi .u64 a1 (IntKind.wrap .u64 (r2-1)))))) else (some (.inr a0.2.2))
def eN (a:Int) (b:Int) (h0:(List Int)):Option ((List Int)):=
 if (decide ((aH b a) ≥ 8)) then ((sK (aH b a)).bind fun r2=>(aJ (jP a b r2) ((aH (aE a (eG (pK (aH b a) 4) 2)) 1),(IntKind.wrap .u64 (aH b a)),h0)).bind fun a0=>some a0) else (some h0)
def bW (data:(List Int)) (a:Int) (b:Int) (h0_0:Int):Option (Int×Int×Int):=
 (idx data b).bind fun a1=>(idx data a).bind fun a2=>(aV a1 a2).bind fun a0=>if (decide (a0<0)) then (some (b,a,(aE h0_0 1))) else (some (a,b,h0_0))
def dO (data:(List Int)) (a:Int) (b:Int) (c:Int) (h0_0:Int):Option (Int×Int):=
 (bW data a b h0_0).bind fun r2=>(bW data r2.2.1 c r2.2.2).bind fun r4=>(bW data r2.1 r4.1 r4.2.2).bind fun r6=>some (r6.2.1,r6.2.2)
def bC (data:(List Int)) (a:Int) (h0_0:Int):Option (Int×Int):=
 (dO data (aH a 1) a (aE a 1) h0_0).bind fun r2=>some (r2.1,r2.2)
def bZ:(Int×Int)→Option (Int×Int):=fun a0 =>
 if (a0.2==0) then (some (a0.1,1)) else (if (a0.2==12) then (some (a0.1,2)) else (some (a0.1,0)))
def cA (data:(List Int)):(Int×Int×Int×Int)→Option (Int×Int):=fun a0 =>
 (dO data a0.1 a0.2.1 a0.2.2.1 a0.2.2.2).bind fun a1=>bZ (a1.1,a1.2)
def fA (data:(List Int)) (a:Int) (b:Int):Option (Int×Int):=
 if (decide ((aH b a) ≥ 8)) then (if (decide ((aH b a) ≥ 50)) then ((bC data (aE a (eG (pK (aH b a) 4) 1)) 0).bind fun a0=>(bC data (aE a (eG (pK (aH b a) 4) 2)) a0.2).bind fun a1=>(bC data (aE a (eG (pK (aH b a) 4) 3)) a1.2).bind fun a2=>cA data (a0.1,a1.1,a2.1,a2.2)) else (cA data ((aE a (eG (pK (aH b a) 4) 1)),(aE a (eG (pK (aH b a) 4) 2)),(aE a (eG (pK (aH b a) 4) 3)),0))) else (bZ ((aE a (eG (pK (aH b a) 4) 2)),0))
def kD:Int×Int×(List Int)→Option (Int×Int×(List Int) ⊕ (List Int)):=fun a0 =>
 if (decide (a0.1<a0.2.1)) then ((idx a0.2.2 a0.2.1).bind fun a1=>(idx a0.2.2 a0.1).bind fun a2=>(idx a0.2.2 a0.1).bind fun a3=>(idx (List.set a0.2.2 (Int.toNat a0.1) a1) a0.2.1).bind fun a4=>some (.inl ((aE a0.1 1),(aH a0.2.1 1),(List.set (List.set a0.2.2 (Int.toNat a0.1) a1) (Int.toNat a0.2.1) a2)))) else (some (.inr a0.2.2))
def eU (a:Int) (b:Int) (h0:(List Int)):Option ((List Int)):=
 (aJ (kD) (a,(aH b 1),h0)).bind fun a0=>some a0
def bE (a1:Int×Int×(List Int)):Int×(List Int)→Option (Int×Int×(List Int) ⊕ (Bool×(List Int) ⊕ (List Int))):=fun a0 =>
 some (.inl (a0.1,(aE a1.2.1 1),a0.2))
def gW (b:Int) (a1:Int×Int×(List Int)):Int→Option (Int ⊕ Int):=fun a0 =>
 (if (decide (a0<b)) then ((idx a1.2.2 a0).bind fun a4=>(idx a1.2.2 (aH a0 1)).bind fun a5=>(aV a4 a5).bind fun a3=>some (!(decide (a3<0)))) else (some false)).bind fun a2=>if a2 then (some (.inl (aE a0 1))) else (some (.inr a0))
def gX (b:Int):Int×(List Int)→Option (Int×(List Int) ⊕ (List Int)):=fun a0 =>
 if (decide (a0.1<b)) then ((idx a0.2 a0.1).bind fun a3=>(idx a0.2 (aH a0.1 1)).bind fun a4=>(aV a3 a4).bind fun a2=>if (!(decide (a2<0))) then (some (.inr a0.2)) else ((idx a0.2 (aH a0.1 1)).bind fun a1=>(idx a0.2 a0.1).bind fun a5=>(idx a0.2 a0.1).bind fun a6=>(idx (List.set a0.2 (Int.toNat a0.1) a1) (aH a0.1 1)).bind fun a7=>some (.inl ((aE a0.1 1),(List.set (List.set a0.2 (Int.toNat a0.1) a1) (Int.toNat (aH a0.1 1)) a5))))) else (some (.inr a0.2))
def bF (b:Int) (a2:Int×Int×(List Int)) (a0:Int):(List Int)→Option (Int×Int×(List Int) ⊕ (Bool×(List Int) ⊕ (List Int))):=fun a1 =>
 if (decide ((aH b a0) ≥ 2)) then ((aJ (gX b) ((aE a0 1),a1)).bind fun a3=>bE a2 (a0,a3)) else (bE a2 (a0,a1))
def gY:Int×(List Int)→Option (Int×(List Int) ⊕ (List Int)):=fun a0 =>
 if (decide (a0.1 ≥ 1)) then ((idx a0.2 a0.1).bind fun a3=>(idx a0.2 (aH a0.1 1)).bind fun a4=>(aV a3 a4).bind fun a2=>if (!(decide (a2<0))) then (some (.inr a0.2)) else ((idx a0.2 (aH a0.1 1)).bind fun a1=>(idx a0.2 a0.1).bind fun a5=>(idx a0.2 a0.1).bind fun a6=>(idx (List.set a0.2 (Int.toNat a0.1) a1) (aH a0.1 1)).bind fun a7=>some (.inl ((aH a0.1 1),(List.set (List.set a0.2 (Int.toNat a0.1) a1) (Int.toNat (aH a0.1 1)) a5))))) else (some (.inr a0.2))
def gZ (a:Int) (b:Int):Int×Int×(List Int)→Option (Int×Int×(List Int) ⊕ (Bool×(List Int) ⊕ (List Int))):=fun a0 =>
 if (decide (a0.2.1<5)) then ((aJ (gW b a0) a0.1).bind fun a1=>if (a1==b) then (some (.inr (.inl (true,a0.2.2)))) else (if (decide ((aH b a)<50)) then (some (.inr (.inl (false,a0.2.2)))) else ((idx a0.2.2 (aH a1 1)).bind fun a2=>(idx a0.2.2 a1).bind fun a3=>(idx a0.2.2 a1).bind fun a5=>(idx (List.set a0.2.2 (Int.toNat a1) a2) (aH a1 1)).bind fun a6=>if (decide ((aH a1 a) ≥ 2)) then ((aJ (gY) ((aH a1 1),(List.set (List.set a0.2.2 (Int.toNat a1) a2) (Int.toNat (aH a1 1)) a3))).bind fun a4=>bF b a0 a1 a4) else (bF b a0 a1 (List.set (List.set a0.2.2 (Int.toNat a1) a2) (Int.toNat (aH a1 1)) a3))))) else (some (.inr (.inr a0.2.2)))
def dH (a:Int) (b:Int) (h0:(List Int)):Option (Bool×(List Int)):=
 (aJ (gZ a b) ((aE a 1),0,h0)).bind fun a2=>match a2 with | .inl a0=>some (a0.1,a0.2) | .inr a1=>some (false,a1)
def jI (a:Int) (a1:Int×Int×(List Int)):Int→Option (Int ⊕ Int):=fun a0 =>
 (if (decide (a0≤a1.2.1)) then ((idx a1.2.2 a).bind fun a4=>(idx a1.2.2 a0).bind fun a5=>(aV a4 a5).bind fun a3=>some (!(decide (a3<0)))) else (some false)).bind fun a2=>if a2 then (some (.inl (aE a0 1))) else (some (.inr a0))
def jJ (a:Int) (a1:Int×Int×(List Int)) (a4:Int):Int→Option (Int ⊕ Int):=fun a0 =>
 (if (decide (a4≤a0)) then ((idx a1.2.2 a).bind fun a5=>(idx a1.2.2 a0).bind fun a6=>(aV a5 a6).bind fun a3=>some (decide (a3<0))) else (some false)).bind fun a2=>if a2 then (some (.inl (aH a0 1))) else (some (.inr a0))
def jK (a:Int):Int×Int×(List Int)→Option (Int×Int×(List Int) ⊕ Int×(List Int)):=fun a0 =>
 (aJ (jI a a0) a0.1).bind fun a1=>(aJ (jJ a a0 a1) a0.2.1).bind fun a2=>if (decide (a1>a2)) then (some (.inr (a1,a0.2.2))) else ((idx a0.2.2 a2).bind fun a3=>(idx a0.2.2 a1).bind fun a4=>(idx a0.2.2 a1).bind fun a5=>(idx (List.set a0.2.2 (Int.toNat a1) a3) a2).bind fun a6=>some (.inl ((aE a1 1),(aH a2 1),(List.set (List.set a0.2.2 (Int.toNat a1) a3) (Int.toNat a2) a4))))
def eE (a:Int) (b:Int) (pivot:Int) (h0:(List Int)):Option (Int×(List Int)):=
 (idx h0 pivot).bind fun x9=>(idx h0 a).bind fun a1=>(idx h0 a).bind fun a2=>(idx (List.set h0 (Int.toNat a) x9) pivot).bind fun a3=>(aJ (jK a) ((aE a 1),(aH b 1),(List.set (List.set h0 (Int.toNat a) x9) (Int.toNat pivot) a1))).bind fun a0=>some (a0.1,a0.2)
def lG (a:Int) (b:Int) (pivot:Int) (h0:(List Int)) (x9:Int) (a5:Int):Int→Option (Int ⊕ Int):=fun a0 =>
 (if (decide (a0≤(aH b 1))) then ((idx (List.set (List.set h0 (Int.toNat a) x9) (Int.toNat pivot) a5) a0).bind fun a3=>(idx (List.set (List.set h0 (Int.toNat a) x9) (Int.toNat pivot) a5) a).bind fun a4=>(aV a3 a4).bind fun a2=>some (decide (a2<0))) else (some false)).bind fun a1=>if a1 then (some (.inl (aE a0 1))) else (some (.inr a0))
def lH (a:Int) (pivot:Int) (h0:(List Int)) (x9:Int) (a6:Int) (a3:Int):Int→Option (Int ⊕ Int):=fun a0 =>
 (if (decide (a3≤a0)) then ((idx (List.set (List.set h0 (Int.toNat a) x9) (Int.toNat pivot) a6) a0).bind fun a4=>(idx (List.set (List.set h0 (Int.toNat a) x9) (Int.toNat pivot) a6) a).bind fun a5=>(aV a4 a5).bind fun a2=>some (!(decide (a2<0)))) else (some false)).bind fun a1=>if a1 then (some (.inl (aH a0 1))) else (some (.inr a0))
def lI (a:Int) (a1:Int×Int×(List Int)):Int→Option (Int ⊕ Int):=fun a0 =>
 (if (decide (a0≤a1.2.1)) then ((idx a1.2.2 a0).bind fun a4=>(idx a1.2.2 a).bind fun a5=>(aV a4 a5).bind fun a3=>some (decide (a3<0))) else (some false)).bind fun a2=>if a2 then (some (.inl (aE a0 1))) else (some (.inr a0))
def lJ (a:Int) (a1:Int×Int×(List Int)) (a4:Int):Int→Option (Int ⊕ Int):=fun a0 =>
 (if (decide (a4≤a0)) then ((idx a1.2.2 a0).bind fun a5=>(idx a1.2.2 a).bind fun a6=>(aV a5 a6).bind fun a3=>some (!(decide (a3<0)))) else (some false)).bind fun a2=>if a2 then (some (.inl (aH a0 1))) else (some (.inr a0))
def lK (a:Int):Int×Int×(List Int)→Option (Int×Int×(List Int) ⊕ Int×(List Int)):=fun a0 =>
 (aJ (lI a a0) a0.1).bind fun a1=>(aJ (lJ a a0 a1) a0.2.1).bind fun a2=>if (decide (a1>a2)) then (some (.inr (a2,a0.2.2))) else ((idx a0.2.2 a2).bind fun a3=>(idx a0.2.2 a1).bind fun a4=>(idx a0.2.2 a1).bind fun a5=>(idx (List.set a0.2.2 (Int.toNat a1) a3) a2).bind fun a6=>some (.inl ((aE a1 1),(aH a2 1),(List.set (List.set a0.2.2 (Int.toNat a1) a3) (Int.toNat a2) a4))))
def fO (a:Int) (b:Int) (pivot:Int) (h0:(List Int)):Option (Int×Bool×(List Int)):=
 (idx h0 pivot).bind fun x9=>(idx h0 a).bind fun a3=>(idx h0 a).bind fun b6=>(idx (List.set h0 (Int.toNat a) x9) pivot).bind fun b7=>(aJ (lG a b pivot h0 x9 a3) (aE a 1)).bind fun a2=>(aJ (lH a pivot h0 x9 a3 a2) (aH b 1)).bind fun a1=>if (decide (a2>a1)) then ((idx (List.set (List.set h0 (Int.toNat a) x9) (Int.toNat pivot) a3) a).bind fun a6=>(idx (List.set (List.set h0 (Int.toNat a) x9) (Int.toNat pivot) a3) a1).bind fun a8=>(idx (List.set (List.set h0 (Int.toNat a) x9) (Int.toNat pivot) a3) a1).bind fun b2=>(idx (List.set (List.set (List.set h0 (Int.toNat a) x9) (Int.toNat pivot) a3) (Int.toNat a1) a6) a).bind fun b3=>some (a1,true,(List.set (List.set (List.set (List.set h0 (Int.toNat a) x9) (Int.toNat pivot) a3) (Int.toNat a1) a6) (Int.toNat a) a8))) else ((idx (List.set (List.set h0 (Int.toNat a) x9) (Int.toNat pivot) a3) a1).bind fun a7=>(idx (List.set (List.set h0 (Int.toNat a) x9) (Int.toNat pivot) a3) a2).bind fun a9=>(idx (List.set (List.set h0 (Int.toNat a) x9) (Int.toNat pivot) a3) a2).bind fun b4=>(idx (List.set (List.set (List.set h0 (Int.toNat a) x9) (Int.toNat pivot) a3) (Int.toNat a2) a7) a1).bind fun b5=>(aJ (lK a) ((aE a2 1),(aH a1 1),(List.set (List.set (List.set (List.set h0 (Int.toNat a) x9) (Int.toNat pivot) a3) (Int.toNat a2) a7) (Int.toNat a1) a9))).bind fun a0=>(idx a0.2 a).bind fun a4=>(idx a0.2 a0.1).bind fun a5=>(idx a0.2 a0.1).bind fun b0=>(idx (List.set a0.2 (Int.toNat a0.1) a4) a).bind fun b1=>some (a0.1,false,(List.set (List.set a0.2 (Int.toNat a0.1) a4) (Int.toNat a) a5)))
def cQ (self:Int→Int→Int→(List Int)→Option ((List Int))) (a1:Int×Int×Int×Bool×Bool×(List Int)) (a3:Int×(List Int)) (a4:Int×Int×(List Int)):Bool×Bool×(List Int)→Option (Int×Int×Int×Bool×Bool×(List Int) ⊕ (List Int)):=fun a2 =>
 (if (decide (a1.1>0)) then ((idx a2.2.2 (aH a1.1 1)).bind fun b0=>(idx a2.2.2 a4.1).bind fun b1=>(aV b0 b1).bind fun a7=>some (!(decide (a7<0)))) else (some false)).bind fun a6=>if a6 then ((eE a1.1 a1.2.1 a4.1 a2.2.2).bind fun a5=>some (.inl (a5.1,a1.2.1,a3.1,a2.1,a2.2.1,a5.2))) else ((fO a1.1 a1.2.1 a4.1 a2.2.2).bind fun a0=>if (decide ((aH a0.1 a1.1)<(aH a1.2.1 a0.1))) then ((self a1.1 a0.1 a3.1 a0.2.2).bind fun a8=>some (.inl ((aE a0.1 1),a1.2.1,a3.1,(decide ((aH a0.1 a1.1) ≥ (pK (aH a1.2.1 a1.1) 8))),a0.2.1,a8))) else ((self (aE a0.1 1) a1.2.1 a3.1 a0.2.2).bind fun a9=>some (.inl (a1.1,a0.1,a3.1,(decide ((aH a1.2.1 a0.1) ≥ (pK (aH a1.2.1 a1.1) 8))),a0.2.1,a9))))
def cT (self:Int→Int→Int→(List Int)→Option ((List Int))) (a3:Int×Int×Int×Bool×Bool×(List Int)) (a4:Int×(List Int)):Int×Int×(List Int)→Option (Int×Int×Int×Bool×Bool×(List Int) ⊕ (List Int)):=fun a0 =>
 (if a3.2.2.2.1 then (if a3.2.2.2.2.1 then (some (true,true,(a0.2.1==1))) else (some (true,false,false))) else (some (false,a3.2.2.2.2.1,false))).bind fun a1=>if a1.2.2 then ((dH a3.1 a3.2.1 a0.2.2).bind fun a2=>if a2.1 then (some (.inr a2.2)) else (cQ self a3 a4 a0 (a1.1,a1.2.1,a2.2))) else (cQ self a3 a4 a0 (a1.1,a1.2.1,a0.2.2))
def cU (self:Int→Int→Int→(List Int)→Option ((List Int))) (a2:Int×Int×Int×Bool×Bool×(List Int)):Int×(List Int)→Option (Int×Int×Int×Bool×Bool×(List Int) ⊕ (List Int)):=fun a0 =>
 (fA a0.2 a2.1 a2.2.1).bind fun a1=>if (a1.2==2) then ((eU a2.1 a2.2.1 a0.2).bind fun a3=>cT self a2 a0 ((aH (aH a2.2.1 1) (aH a1.1 a2.1)),1,a3)) else (cT self a2 a0 (a1.1,a1.2,a0.2))
def mE (self:Int→Int→Int→(List Int)→Option ((List Int))):Int×Int×Int×Bool×Bool×(List Int)→Option (Int×Int×Int×Bool×Bool×(List Int) ⊕ (List Int)):=fun a0 =>
 if (decide ((aH a0.2.1 a0.1)≤12)) then ((eO a0.1 a0.2.1 a0.2.2.2.2.2).bind fun a1=>some (.inr a1)) else (if (a0.2.2.1==0) then ((fW a0.1 a0.2.1 a0.2.2.2.2.2).bind fun a2=>some (.inr a2)) else (if (!a0.2.2.2.1) then ((eN a0.1 a0.2.1 a0.2.2.2.2.2).bind fun a3=>cU self a0 ((aH a0.2.2.1 1),a3)) else (cU self a0 (a0.2.2.1,a0.2.2.2.2.2))))
def eS (self:Int→Int→Int→(List Int)→Option ((List Int))) (a:Int) (b:Int) (limit:Int) (h0:(List Int)):Option ((List Int)):=
 (aJ (mE self) (a,b,limit,true,true,h0)).bind fun a0=>some a0
def aY:Nat→Int→Int→Int→(List Int)→Option ((List Int))
 | 0=>fun _ _ _ _=>none
 | n+1=>eS (aY n)
def gC (a:Int) (b:Int) (limit:Int) (h0:(List Int)):Option ((List Int)):=aY 1000 a b limit h0
def bV (h0:(List Int)):Option ((List Int)):=
 (Bz (IntKind.wrap .u64 (h0.length:Int))).bind fun r3=>(gC 0 (h0.length:Int) r3 h0).bind fun r4=>some r4
def kA (a1:Int×Int×(List Int)):Int×(List Int)→Option (Int×Int×(List Int) ⊕ Int×(List Int)):=fun a0 =>
 some (.inl (a0.1,(aE a1.2.1 1),a0.2))
def wL (h380:(List Int)) (a1:Int):Int×Int×(List Int)→Option (Int×Int×(List Int) ⊕ Int×(List Int)):=fun a0 =>
 if (decide (a0.2.1<((Int.toNat (h380.length:Int)-Int.toNat a1:Nat):Int))) then ((idx (List.take (Int.toNat (h380.length:Int)-Int.toNat a1) (List.drop (Int.toNat a1) a0.2.2)) a0.2.1).bind fun a2=>(idx (List.take (Int.toNat (h380.length:Int)-Int.toNat a1) (List.drop (Int.toNat a1) a0.2.2)) (aH a0.2.1 1)).bind fun a3=>if (a2 != a3) then ((idx (List.take (Int.toNat (h380.length:Int)-Int.toNat a1) (List.drop (Int.toNat a1) a0.2.2)) a0.2.1).bind fun a4=>(idx a0.2.2 a0.1).bind fun a5=>kA a0 ((aE a0.1 1),(List.set a0.2.2 (Int.toNat a0.1) a4))) else (kA a0 (a0.1,a0.2.2))) else (some (.inr (a0.1,a0.2.2)))
def wM (h380:(List Int)):Int→Option (Int ⊕ ((List Int) ⊕ Unit)):=fun a1 =>
 if (decide (a1<(h380.length:Int))) then ((idx h380 a1).bind fun a3=>(idx h380 (aH a1 1)).bind fun a4=>if (a3==a4) then (if (decide ((0:Int)≤a1)&&(decide (a1≤(h380.length:Int))&&decide ((h380.length:Int)≤(h380.length:Int)))) then ((aJ (wL h380 a1) (a1,1,h380)).bind fun a0=>if (decide ((0:Int)≤a0.1)&&(decide (a0.1≤(a0.2.length:Int))&&decide ((a0.2.length:Int)≤(a0.2.length:Int)))) then ((slc (cpy a0.2 (Int.toNat a0.1) (List.replicate (Int.toNat (a0.2.length:Int)-Int.toNat a0.1) 0)) 0 a0.1).bind fun a2=>some (.inr (.inl a2))) else none) else none) else (some (.inl (aE a1 1)))) else (some (.inr (.inr (()))))
def iT (h380:(List Int)):Option ((List Int)):=
 if (decide ((h380.length:Int)<2)) then (some h380) else ((aJ (wM h380) 1).bind fun a1=>match a1 with | .inl a0=>some a0 | .inr a2=>some h380)
def cG (l:(List Int)):Option ((List Int)):=
 (nP l).bind fun r2=>(bV r2).bind fun r4=>(iT r4).bind fun r6=>some r6
def nD (a2:(List aF)):(Int×(List Int)×(List Int))→Option ((Int×(List Int)×(List Int)) ⊕ ((List Int)×(List Int))):=fun a0 =>
 if (decide (a0.1<(a2.length:Int))) then ((idx a2 a0.1).bind fun a1=>(app a0.2.1 [a1.X,(aE a1.X a1.W)]).bind fun a3=>(app a0.2.2 [a1.Y,(aE a1.Y a1.H)]).bind fun a4=>some (.inl ((aE a0.1 1),a3,a4))) else (some (.inr (a0.2.1,a0.2.2)))
def qD (lists:(List (List aF))):(Int×(List Int)×(List Int))→Option ((Int×(List Int)×(List Int)) ⊕ ((List Int)×(List Int))):=fun a0 =>
 if (decide (a0.1<(lists.length:Int))) then ((idx lists a0.1).bind fun a2=>(aJ (nD a2) (0,a0.2.1,a0.2.2)).bind fun a1=>some (.inl ((aE a0.1 1),a1.1,a1.2))) else (some (.inr (a0.2.1,a0.2.2)))
def uU (lists:(List (List aF))):Option (rB):=
 (aJ (qD lists) (0,[],[])).bind fun a0=>(cG a0.1).bind fun a1=>(cG a0.2).bind fun a2=>some (rB.mk a1 a2)
def iH (a1:Int×(List (List Bool))):(List (List Bool))→Option (Int×(List (List Bool)) ⊕ (List (List Bool))):=fun a0 =>
 some (.inl ((aE a1.1 1),a0))
def iI (g:rB) (l:(List aF)) (a2:Int×(List (List Bool))) (a3:Int×(List (List Bool))):Int×(List (List Bool))→Option (Int×(List (List Bool)) ⊕ (List (List Bool))):=fun a0 =>
 if (decide (a0.1<(l.length:Int))) then ((idx l a0.1).bind fun a1=>((idx g.x a2.1).bind fun a6=>if (decide (a1.X≤a6)) then ((idx g.x a2.1).bind fun a7=>if (decide (a7<(aE a1.X a1.W))) then ((idx g.y a3.1).bind fun a8=>if (decide (a1.Y≤a8)) then ((idx g.y a3.1).bind fun a9=>some (decide (a9<(aE a1.Y a1.H)))) else (some false)) else (some false)) else (some false)).bind fun a5=>if a5 then ((idx a0.2 a2.1).bind fun a4=>(idx a4 a3.1).bind fun b0=>iH a0 (List.set a0.2 (Int.toNat a2.1) (List.set a4 (Int.toNat a3.1) true))) else (iH a0 a0.2)) else (some (.inr a0.2))
def iJ (g:rB) (l:(List aF)) (a1:Int×(List (List Bool))) (a2:(List Bool)):Int×(List (List Bool))→Option (Int×(List (List Bool)) ⊕ (List (List Bool))):=fun a0 =>
 if (decide (a0.1<(a2.length:Int))) then ((aJ (iI g l a1 a0) (0,a0.2)).bind fun a3=>some (.inl ((aE a0.1 1),a3))) else (some (.inr a0.2))
def kT (g:rB) (l:(List aF)) (l2:(List (List Bool))):Int×(List (List Bool))→Option (Int×(List (List Bool)) ⊕ (List (List Bool))):=fun a0 =>
 if (decide (a0.1<(l2.length:Int))) then ((mk (aH (g.y.length:Int) 1) false).bind fun a1=>(idx a0.2 a0.1).bind fun a4=>(idx (List.set a0.2 (Int.toNat a0.1) a1) a0.1).bind fun a2=>(aJ (iJ g l a0 a2) (0,(List.set a0.2 (Int.toNat a0.1) a1))).bind fun a3=>some (.inl ((aE a0.1 1),a3))) else (some (.inr a0.2))
def nQ (g:rB) (l:(List aF)):Option ((List (List Bool))):=
 (mk (imax 0 (aH (g.x.length:Int) 1)) []).bind fun l2=>(aJ (kT g l l2) (0,l2)).bind fun a0=>some a0
def uT (a1:Int×Int):Int→Option ((Int×Int) ⊕ Int):=fun a0 =>
 some (.inl (a0,(aE a1.2 1)))
def rK (r6:rB) (a2:Int×Int) (a1:(List Bool)):(Int×Int)→Option ((Int×Int) ⊕ Int):=fun a0 =>
 if (decide (a0.2<(a1.length:Int))) then ((idx a1 a0.2).bind fun a3=>if a3 then ((idx r6.x (aE a2.2 1)).bind fun a4=>(idx r6.x a2.2).bind fun a5=>(idx r6.y (aE a0.2 1)).bind fun a6=>(idx r6.y a0.2).bind fun a7=>uT a0 (aE a0.1 (eG (aH a4 a5) (aH a6 a7)))) else (uT a0 a0.1)) else (some (.inr a0.1))
def rL (r6:rB) (a1:(List (List Bool))):(Int×Int)→Option ((Int×Int) ⊕ Int):=fun a0 =>
 if (decide (a0.2<(a1.length:Int))) then ((idx a1 a0.2).bind fun a2=>(aJ (rK r6 a0 a2) (a0.1,0)).bind fun a3=>some (.inl (a3,(aE a0.2 1)))) else (some (.inr a0.1))
def yQ (l:(List aF)):Option (Int×Int):=
 (Am [l]).bind fun r4=>if (r4 != 0) then (some (0,r4)) else ((uU [l]).bind fun r6=>(nQ r6 l).bind fun a1=>(aJ (rL r6 a1) (0,0)).bind fun a0=>some (a0,0))
def Bt (taken:(List (List aF))):Int→Option (Int ⊕ Unit):=fun a0 =>
 if (decide (a0<(taken.length:Int))) then ((idx taken a0).bind fun a1=>if (decide ((a1.length:Int)>12)) then (none) else (some (.inl (aE a0 1)))) else (some (.inr ()))
def Bu (taken:(List (List aF))):Int→Option (Int ⊕ Unit):=fun a0 =>
 if (decide (a0<(taken.length:Int))) then ((idx taken a0).bind fun a2=>(gS a2).bind fun a1=>if (!a1) then (none) else (some (.inl (aE a0 1)))) else (some (.inr ()))
def wA (taken:(List (List aF))):Option (Int):=
 if (decide ((taken.length:Int)>8)) then (none) else ((aJ (Bt taken) 0).bind fun a0=>(aJ (Bu taken) 0).bind fun a1=>some 0)
def Ap (a0:(List aF)):Unit→Option (Unit ⊕ Unit):=fun a1 =>
 if (decide (0<(a0.length:Int))) then (none) else (some (.inr ()))
def Aq (s0:bM):Int→Option (Int ⊕ Unit):=fun a0 =>
 if (decide (a0<([s0.aN,s0.Used].length:Int))) then ((idx [s0.aN,s0.Used] a0).bind fun a1=>(aJ (Ap a1) ()).bind fun a2=>some (.inl (aE a0 1))) else (some (.inr ()))
def Ar (set2:nC) (a1:(List aF)):Int×(List aX)→Option (Int×(List aX) ⊕ (List aX)):=fun a0 =>
 if (decide (a0.1<(a1.length:Int))) then ((idx a1 a0.1).bind fun a2=>(cE a2).bind fun a4=>if a4 then ((app a0.2 [(aX.mk a2 set2.Gap set2.Sn)]).bind fun a3=>some (.inl ((aE a0.1 1),a3))) else (none)) else (some (.inr a0.2))
def As (taken:(List (List aF))) (set2:nC):Int×(List aX)→Option (Int×(List aX) ⊕ (List aX)):=fun a0 =>
 if (decide (a0.1<(taken.length:Int))) then ((idx taken a0.1).bind fun a1=>(aJ (Ar set2 a1) (0,a0.2)).bind fun a2=>some (.inl ((aE a0.1 1),a2))) else (some (.inr a0.2))
def uQ (s0:bM) (taken:(List (List aF))) (set2:nC):Option ((List aX)):=
 (aJ (Aq s0) 0).bind fun a1=>(aJ (As taken set2) (0,[])).bind fun a0=>some a0
def Bl (x0:Int) (y:Int):Option (Bool):=
 (pO x0).bind fun r2=>if r2 then (none) else (some (decide (x0<y)))
def oY (a:Int):Int×(List Int)→Option (Int×(List Int) ⊕ (List Int)):=fun a0 =>
 (if (decide (a0.1>a)) then ((idx a0.2 a0.1).bind fun a4=>(idx a0.2 (aH a0.1 1)).bind fun a5=>(Bl a4 a5).bind fun a3=>some a3) else (some false)).bind fun a2=>if a2 then ((idx a0.2 (aH a0.1 1)).bind fun a1=>(idx a0.2 a0.1).bind fun a6=>(idx a0.2 a0.1).bind fun a7=>(idx (List.set a0.2 (Int.toNat a0.1) a1) (aH a0.1 1)).bind fun a8=>some (.inl ((aH a0.1 1),(List.set (List.set a0.2 (Int.toNat a0.1) a1) (Int.toNat (aH a0.1 1)) a6)))) else (some (.inr a0.2))
def oZ (a:Int) (b:Int):Int×(List Int)→Option (Int×(List Int) ⊕ (List Int)):=fun a0 =>
 if (decide (a0.1<b)) then ((aJ (oY a) (a0.1,a0.2)).bind fun a1=>some (.inl ((aE a0.1 1),a1))) else (some (.inr a0.2))
def kB (a:Int) (b:Int) (h0:(List Int)):Option ((List Int)):=
 (aJ (oZ a b) ((aE a 1),h0)).bind fun a0=>some a0
def sD (a:Int) (b:Int) (h0:(List Int)):Unit→Option (Unit ⊕ (List Int)):=fun s1 =>
 if (decide ((aH b a)≤12)) then ((kB a b h0).bind fun r9=>some (.inr r9)) else (none)
def nJ (a:Int) (b:Int) (limit:Int) (h0:(List Int)):Option ((List Int)):=
 (aJ (sD a b h0) ()).bind fun a0=>some a0
def rG (h0:(List Int)):Option ((List Int)):=
 (Bz (IntKind.wrap .u64 (h0.length:Int))).bind fun r3=>(nJ 0 (h0.length:Int) r3 h0).bind fun r4=>some r4
def lV (y:Int) (a_0:(List aF)) (a_1:(List aX)) (a_2:Int) (a_3:Int) (a_4:Int) (a_5:Int) (a_6:Int) (a_7:Int):Option (Bool):=
 (if (decide (y<a_3)) then (some true) else (some (decide (y>(aH (aE a_3 a_5) a_7))))).bind fun j1=>some j1
def iY (s0:(List Int)) (f_0_0:(List aF)) (f_0_1:(List aX)) (f_0_2:Int) (f_0_3:Int) (f_0_4:Int) (f_0_5:Int) (f_0_6:Int) (f_0_7:Int):Int→Option (Int ⊕ (Int ⊕ Unit)):=fun a0 =>
 if (decide (a0<(s0.length:Int))) then ((idx s0 a0).bind fun a2=>(lV a2 f_0_0 f_0_1 f_0_2 f_0_3 f_0_4 f_0_5 f_0_6 f_0_7).bind fun a1=>if a1 then (some (.inr (.inl a0))) else (some (.inl (aE a0 1)))) else (some (.inr (.inr (()))))
def dZ (s0:(List Int)) (f_0_0:(List aF)) (f_0_1:(List aX)) (f_0_2:Int) (f_0_3:Int) (f_0_4:Int) (f_0_5:Int) (f_0_6:Int) (f_0_7:Int):Option (Int):=
 (aJ (iY s0 f_0_0 f_0_1 f_0_2 f_0_3 f_0_4 f_0_5 f_0_6 f_0_7) 0).bind fun a1=>match a1 with | .inl a0=>some a0 | .inr a2=>some (-1)
def bL (a1:Int×Int×(List Int)):Int×(List Int)→Option (Int×Int×(List Int) ⊕ Int×(List Int)):=fun a0 =>
 some (.inl (a0.1,(aE a1.2.1 1),a0.2))
def iM (del_0_0:(List aF)) (del_0_1:(List aX)) (del_0_2:Int) (del_0_3:Int) (del_0_4:Int) (del_0_5:Int) (del_0_6:Int) (del_0_7:Int):Int×Int×(List Int)→Option (Int×Int×(List Int) ⊕ Int×(List Int)):=fun a0 =>
 if (decide (a0.2.1<(a0.2.2.length:Int))) then ((idx a0.2.2 a0.2.1).bind fun a1=>(lV a1 del_0_0 del_0_1 del_0_2 del_0_3 del_0_4 del_0_5 del_0_6 del_0_7).bind fun a2=>if (!a2) then ((idx a0.2.2 a0.1).bind fun a3=>bL a0 ((aE a0.1 1),(List.set a0.2.2 (Int.toNat a0.1) a1))) else (bL a0 (a0.1,a0.2.2))) else (some (.inr (a0.1,a0.2.2)))
def dY (del_0_0:(List aF)) (del_0_1:(List aX)) (del_0_2:Int) (del_0_3:Int) (del_0_4:Int) (del_0_5:Int) (del_0_6:Int) (del_0_7:Int) (h380:(List Int)):Option ((List Int)):=
 (dZ h380 del_0_0 del_0_1 del_0_2 del_0_3 del_0_4 del_0_5 del_0_6 del_0_7).bind fun r2=>if (r2==(-1)) then (some h380) else ((aJ (iM del_0_0 del_0_1 del_0_2 del_0_3 del_0_4 del_0_5 del_0_6 del_0_7) (r2,(aE r2 1),h380)).bind fun a0=>if (decide ((0:Int)≤a0.1)&&(decide (a0.1≤(a0.2.length:Int))&&decide ((a0.2.length:Int)≤(a0.2.length:Int)))) then ((slc (cpy a0.2 (Int.toNat a0.1) (List.replicate (Int.toNat (a0.2.length:Int)-Int.toNat a0.1) 0)) 0 a0.1).bind fun a1=>some a1) else none)
def wW (a1:aX) (a2:aF):Int×(List Int)→Option (Int×(List Int) ⊕ (List Int)):=fun a0 =>
 if (decide (a0.1<([0,a1.gap].length:Int))) then ((idx [0,a1.gap] a0.1).bind fun a3=>(app a0.2 [(aH (aE (aE a1.aF.Y a1.aF.H) a3) a2.Y),(aH (aH (aH a1.aF.Y a3) a2.Y) a2.H)]).bind fun a4=>some (.inl ((aE a0.1 1),a4))) else (some (.inr a0.2))
def wX (s0:jO) (a1:aX):Int×(List Int)→Option (Int×(List Int) ⊕ (List Int)):=fun a0 =>
 if (decide (a0.1<(s0.uR.length:Int))) then ((idx s0.uR a0.1).bind fun a2=>(aJ (wW a1 a2) (0,a0.2)).bind fun a3=>some (.inl ((aE a0.1 1),a3))) else (some (.inr a0.2))
def wY (s0:jO):Int×(List Int)→Option (Int×(List Int) ⊕ (List Int)):=fun a0 =>
 if (decide (a0.1<(s0.cO.length:Int))) then ((idx s0.cO a0.1).bind fun a1=>(aJ (wX s0 a1) (0,a0.2)).bind fun a2=>some (.inl ((aE a0.1 1),a2))) else (some (.inr a0.2))
def rZ (s0:jO):Option ((List Int)):=
 (aJ (wY s0) (0,[s0.gE.Y])).bind fun a3=>(rG a3).bind fun a0=>(iT a0).bind fun a1=>(dY s0.uR s0.cO s0.gE.X s0.gE.Y s0.gE.W s0.gE.H s0.w s0.h a1).bind fun a2=>some a2
def Bn (a:bY):Option (Bool):=
 some (decide ((aH a.hi a.lo)<2))
def iD (s0:(List bY)):Int→Option (Int ⊕ Unit):=fun a0 =>
 if (decide (a0<(s0.length:Int))) then ((idx s0 a0).bind fun a2=>(Bn a2).bind fun a1=>if a1 then (none) else (some (.inl (aE a0 1)))) else (some (.inr ()))
def dM (s0:(List bY)):Option (Int):=
 (aJ (iD s0) 0).bind fun a0=>some (-1)
def dG (s0:(List bY)):Option ((List bY)):=
 (dM s0).bind fun r2=>if (r2==(-1)) then (some s0) else (none)
def Ee (l:(List bY)):Option ((List bY)):=
 (dG l).bind fun r2=>some r2
def rX (o:aX) (r1:aF) (y:Int):Option ((List bY)):=
 if (decide ((aE r1.Y y)<(aE o.aF.Y o.aF.H))) then (if (decide ((imax (imax 0 (aH (aH (aH o.aF.Y r1.Y) y) r1.H)) (aH (aH (aE r1.Y y) o.aF.Y) o.aF.H)) ≥ o.gap)) then (none) else (if o.common then (none) else (if ((imax (imax 0 (aH (aH (aH o.aF.Y r1.Y) y) r1.H)) (aH (aH (aE r1.Y y) o.aF.Y) o.aF.H))==0) then (if (o.gap==0) then (none) else ((Ee [(bY.mk (aH (aH (aH o.aF.X r1.X) r1.W) o.gap) (aE (aH (aE o.aF.X o.aF.W) r1.X) o.gap))]).bind fun r2=>some r2)) else (none)))) else (none)
def fL (a:Int) (b:Int):Unit→Option (Unit ⊕ Unit):=fun s1 =>
 if (decide ((aE a 1)<b)) then (none) else (some (.inr ()))
def cH (a:Int) (b:Int) (h0:(List bY)):Option (Unit):=
 (aJ (fL a b) ()).bind fun x2=>some ()
def gQ (a:Int) (b:Int) (h0:(List bY)):Unit→Option (Unit ⊕ Unit):=fun s1 =>
 if (decide ((aH b a)≤12)) then ((cH a b h0).bind fun r9=>some (.inr ())) else (none)
def dB (a:Int) (b:Int) (limit:Int) (h0:(List bY)):Option (Unit):=
 (aJ (gQ a b h0) ()).bind fun a0=>some ()
def cK (h0:(List bY)):Option (Unit):=
 (Bz (IntKind.wrap .u64 (h0.length:Int))).bind fun r3=>(dB 0 (h0.length:Int) r3 h0).bind fun r4=>some ()
def wT (s0:jO) (y:Int) (a3:aX):Int×(List bY)→Option (Int×(List bY) ⊕ (List bY)):=fun a0 =>
 if (decide (a0.1<(s0.uR.length:Int))) then ((idx s0.uR a0.1).bind fun a4=>(rX a3 a4 y).bind fun a2=>(app a0.2 a2).bind fun a1=>some (.inl ((aE a0.1 1),a1))) else (some (.inr a0.2))
def wU (s0:jO) (y:Int):Int×(List bY)→Option (Int×(List bY) ⊕ (List bY)):=fun a0 =>
 if (decide (a0.1<(s0.cO.length:Int))) then ((idx s0.cO a0.1).bind fun a1=>(aJ (wT s0 y a1) (0,a0.2)).bind fun a2=>some (.inl ((aE a0.1 1),a2))) else (some (.inr a0.2))
def rY (s0:jO) (y:Int):Option ((List bY)):=
 (aJ (wU s0 y) (0,[])).bind fun a0=>(cK a0).bind fun a1=>some a0
def sX (a1:Int×Bool×Int):(Int×Bool)→Option ((Int×Bool×Int) ⊕ (Int×Bool)):=fun a0 =>
 some (.inl (a0.1,a0.2,(aE a1.2.2 1)))
def Hl (l:(List bY)) (lo:Int) (hi:Int):(Int×Bool×Int)→Option ((Int×Bool×Int) ⊕ (Int×Bool)):=fun a0 =>
 if (decide (a0.2.2<(l.length:Int))) then ((idx l a0.2.2).bind fun a1=>if (decide (a1.lo<a0.1)) then (if (decide (a0.1<a1.hi)) then (sX a0 (a1.hi,true)) else (sX a0 (a0.1,a0.2.1))) else (none)) else (some (.inr (a0.1,a0.2.1)))
def Hm (l:(List bY)) (lo:Int) (hi:Int):(Int×Bool)→Option ((Int×Bool) ⊕ Int):=fun a1 =>
 if a1.2 then ((aJ (Hl l lo hi) (a1.1,false,0)).bind fun a0=>some (.inl (a0.1,a0.2))) else (some (.inr a1.1))
def Eb (l:(List bY)) (lo:Int) (hi:Int):Option (Int×Bool):=
 (aJ (Hm l lo hi) (lo,true)).bind fun a0=>some (a0,(decide (a0≤hi)))
def zJ (s0:jO) (a0:(List Int)):Unit→Option (Unit ⊕ (Int×Int)):=fun a4 =>
 if (decide (0<(a0.length:Int))) then ((idx a0 0).bind fun a2=>(rY s0 a2).bind fun a3=>(Eb a3 s0.gE.X (aH (aE s0.gE.X s0.gE.W) s0.w)).bind fun a1=>if a1.2 then (some (.inr (a1.1,a2))) else (none)) else (none)
def uE (s0:jO):Option (Int×Int×Bool):=
 if (decide (s0.w>s0.gE.W)) then (none) else (if (decide (s0.h>s0.gE.H)) then (none) else ((rZ s0).bind fun a1=>(aJ (zJ s0 a1) ()).bind fun a0=>some (a0.1,a0.2,true)))
def vY (a1:Bool×Int×Int×Int×Int):(Bool×Int×Int×Int)→Option ((Bool×Int×Int×Int×Int) ⊕ (Bool×Int×Int×Int)):=fun a0 =>
 some (.inl (a0.1,(aE a1.2.1 1),a0.2.1,a0.2.2.1,a0.2.2.2))
def Lv (a2:jW×Int×ByteArray×ByteArray×Int×Int):(Int×Int×Int)→Option ((Int×Int×Int) ⊕ (Int×Int)):=fun a0 =>
 if (decide (a0.1<(a2.1.bU.length:Int))) then ((idx a2.1.bU a0.1).bind fun a1=>some (.inl ((aE a0.1 1),(imax a0.2.1 (aE a1.X a1.W)),(imax a0.2.2 (aE a1.Y a1.H))))) else (some (.inr (a0.2.1,a0.2.2)))
def Lw (s0:bM) (x2:jW) (a6:aF×Bool) (a7:(List aX)):(Bool×Int×Int×Int×Int)→Option ((Bool×Int×Int×Int×Int) ⊕ (Bool×Int×Int×Int)):=fun a0 =>
 if (decide (a0.2.1<4)) then ((Gm x2 s0 a0.2.1).bind fun a5=>if (!a5) then (none) else ((Mb x2 (dP.mk 0 0 0 0 a0.2.1)).bind fun a2=>if (a2.2.1 != 0) then (none) else ((aJ (Lv a2) (0,0,0)).bind fun a4=>(uE (jO.mk a2.1.bU a7 a6.1 a4.1 a4.2)).bind fun a1=>(if a1.2.2 then (if a0.1 then (if (decide (a1.2.1<a0.2.2.2.1)) then (some (true,true)) else (if (a1.2.1==a0.2.2.2.1) then (some (true,(decide (a1.1<a0.2.2.1)))) else (some (true,false)))) else (some (false,true))) else (none)).bind fun a3=>if a3.2 then (vY a0 (true,a1.1,a1.2.1,a0.2.1)) else (vY a0 (a3.1,a0.2.2.1,a0.2.2.2.1,a0.2.2.2.2))))) else (some (.inr (a0.1,a0.2.2.1,a0.2.2.2.1,a0.2.2.2.2)))
def Cp (s0:bM) (taken:(List (List aF))) (x2:jW) (set3:nC):Option (dP×Bool×Int×Int×Int×Int):=
 (bX s0).bind fun r4=>if (r4 != 0) then (none) else ((wA taken).bind fun r8=>if (r8 != 0) then (none) else ((qU x2).bind fun a2=>if (a2 != 0) then (none) else ((qT set3).bind fun a3=>if (!a3) then (none) else ((lT s0 set3.Sr).bind fun a1=>if (!a1.2) then (none) else ((uQ s0 taken set3).bind fun a4=>(aJ (Lw s0 x2 a1 a4) (false,0,0,0,0)).bind fun a0=>some ((dP.mk 0 0 a0.2.1 a0.2.2.1 a0.2.2.2),a0.1,0,a0.2.1,a0.2.2.1,a0.2.2.2))))))
def Ho (sheets:(List bM)):Int→Option (Int ⊕ Unit):=fun a0 =>
 if (decide (a0<(sheets.length:Int))) then ((idx sheets a0).bind fun a2=>(bX a2).bind fun a1=>if (a1 != 0) then (none) else (some (.inl (aE a0 1)))) else (some (.inr ()))
def Hq (pieces:(List jW)):Int→Option (Int ⊕ Unit):=fun a1 =>
 if (decide (a1<(pieces.length:Int))) then ((idx pieces a1).bind fun a2=>(qU a2).bind fun a0=>if (a0 != 0) then (none) else (some (.inl (aE a1 1)))) else (some (.inr ()))
def Ec (sheets:(List bM)) (pieces:(List jW)):Option (Int):=
 if (decide ((sheets.length:Int)>4)) then (none) else (if (decide ((pieces.length:Int)>8)) then (none) else ((aJ (Ho sheets) 0).bind fun a1=>(aJ (Hq pieces) 0).bind fun a0=>some 0))
def Jm (sheets:(List bM)) (set2:nC) (a1:Int×(List (List (List aF)))×(List dP)) (a2:jW):Unit→Option (Unit ⊕ ((List (List (List aF)))×(List dP))):=fun a9 =>
 if (decide (0<(sheets.length:Int))) then ((idx sheets 0).bind fun a6=>(idx a1.2.1 0).bind fun a7=>(Cp a6 a7 a2 set2).bind fun a0=>if (a0.2.2.1 != 0) then (none) else (if (!a0.2.1) then (none) else ((Mb a2 (dP.mk a1.1 0 a0.1.X a0.1.Y a0.1.Su)).bind fun a5=>(idx a1.2.1 0).bind fun a8=>(app a8 [a5.1.bU]).bind fun a3=>(idx a1.2.1 0).bind fun b0=>(app a1.2.2 [(dP.mk a1.1 0 a0.1.X a0.1.Y a0.1.Su)]).bind fun a4=>some (.inr ((List.set a1.2.1 (Int.toNat 0) a3),a4))))) else (none)
def Jn (sheets:(List bM)) (pieces:(List jW)) (set2:nC):(Int×(List (List (List aF)))×(List dP))→Option ((Int×(List (List (List aF)))×(List dP)) ⊕ (List dP)):=fun a0 =>
 if (decide (a0.1<(pieces.length:Int))) then ((idx pieces a0.1).bind fun a2=>(aJ (Jm sheets set2 a0 a2) ()).bind fun a1=>some (.inl ((aE a0.1 1),a1.1,a1.2))) else (some (.inr a0.2.2))
def Gp (sheets:(List bM)) (pieces:(List jW)) (set2:nC):Option ((List dP)×(List Int)×Int):=
 (Ec sheets pieces).bind fun r4=>if (r4 != 0) then (none) else ((qT set2).bind fun r8=>if (!r8) then (none) else ((mk (sheets.length:Int) []).bind fun a1=>(aJ (Jn sheets pieces set2) (0,a1,[])).bind fun a0=>some (a0,[],0)))
def pL (a:(List dP)) (b:(List dP)):Int→Option (Int ⊕ Unit):=fun a2 =>
 if (decide (a2<(a.length:Int))) then ((idx a a2).bind fun a0=>(idx b a2).bind fun a1=>if (!((a0.jW==a1.jW)&&((a0.bM==a1.bM)&&((a0.X==a1.X)&&((a0.Y==a1.Y)&&((a0.Su==a1.Su)&&true)))))) then (none) else (some (.inl (aE a2 1)))) else (some (.inr ()))
def kK (a:(List dP)) (b:(List dP)):Option (Bool):=
 if ((a.length:Int) != (b.length:Int)) then (none) else ((aJ (pL a b) 0).bind fun a0=>some true)
def iA:Option (Bool):=
 (Cp (bM.mk (ByteArray.mk #[115]) (ByteArray.mk #[115,116,101,101,108]) 10 0 1000 1000 [] []) [] (jW.mk (ByteArray.mk #[112]) (ByteArray.mk #[115,116,101,101,108]) 10 0 [(aF.mk 0 0 100 50)] [] []) (nC.mk 0 10 false)).bind fun r2=>(Gp [(bM.mk (ByteArray.mk #[115]) (ByteArray.mk #[115,116,101,101,108]) 10 0 1000 1000 [] [])] [(jW.mk (ByteArray.mk #[112]) (ByteArray.mk #[115,116,101,101,108]) 10 0 [(aF.mk 0 0 100 50)] [] []),(jW.mk (ByteArray.mk #[112]) (ByteArray.mk #[115,116,101,101,108]) 10 0 [(aF.mk 0 0 100 50)] [] [])] (nC.mk 5 10 false)).bind fun r4=>if (r2.2.2.1==0) then (if r2.2.1 then (if ((r2.1.jW==0)&&((r2.1.bM==0)&&((r2.1.X==10)&&((r2.1.Y==10)&&((r2.1.Su==0)&&true))))) then (if (r4.2.2==0) then (if ((r4.2.1.length:Int)==0) then ((kK r4.1 [(dP.mk 0 0 10 10 0),(dP.mk 1 0 115 10 0)]).bind fun r6=>some r6) else (none)) else (none)) else (none)) else (none)) else (none)
def iX (s0:bM) (l:(List aF)):Option (Bool):=
 (rE s0).bind fun r2=>(iL s0).bind fun r4=>(uY s0 l).bind fun r6=>(iR s0 l).bind fun r8=>(if (r2.1 != r4.1) then (some true) else (if (r2.2 != r4.2) then (some true) else (if (r6.2.1 != r8.2.1) then (some true) else ((gL (bM.mk r6.1.Name r6.1.bA r6.1.fT r6.1.fE r6.1.aW r6.1.aQ r6.1.aN r6.1.Used) (bM.mk r8.1.Name r8.1.bA r8.1.fT r8.1.fE r8.1.aW r8.1.aQ r8.1.aN r8.1.Used)).bind fun a4=>some (!a4))))).bind fun a2=>if a2 then (some false) else (if (r6.2.1 != 0) then ((iA).bind fun a5=>some a5) else ((rE (bM.mk r6.1.Name r6.1.bA r6.1.fT r6.1.fE r6.1.aW r6.1.aQ r6.1.aN r6.1.Used)).bind fun a0=>(yQ l).bind fun a1=>(if (a0.2==0) then (if (a1.2==0) then (if (a0.1==(aH r2.1 a1.1)) then ((iA).bind fun a6=>some a6) else (some false)) else (some false)) else (some false)).bind fun a3=>some a3))
end Go.SM
namespace Go.SM
open Go Go.VI Go.Cells
theorem Dh {l:List Int} (h:l.Pairwise fun x y=>x<y) (hl:l.length≤10000) (n:Int) :
  ∃ r,dF n l=some r∧r.Pairwise (fun x y=>x<y)∧(∀ x,x ∈ r↔x ∈ l∨x=n)∧r.length≤l.length+1:=by
 obtain ⟨i',q1,i,rfl,hi,ha,hb⟩:=jB (fun s:Int=>s.toNat)
  (fun s:Int=>∃ k:Nat,s=k∧k≤l.length∧∀ x ∈ l.drop k,n<x)
  (fun r:Int=>∃ k:Nat,r=k∧k≤l.length∧(∀ x ∈ l.drop k,n<x)∧(0<k→∀ y,l[k-1]?=some y→y≤n)) (kM n l) (by
   rintro s ⟨k,rfl,hk,hI⟩
   unfold kM
   by_cases h0:0<k
   ·obtain ⟨x,hx⟩:∃ x,l[k-1]?=some x:=⟨_,List.getElem?_eq_getElem (by omega)⟩
    have e1:aH (k:Int) 1=((k-1:Nat):Int):=by rw [aR (by omega) (by omega)];omega
    have d:decide ((k:Int)>0)=true:=by simp;omega
    simp only [d,if_true,e1,bS hx,Option.bind_some]
    by_cases hg:x>n
    ·left
     refine ⟨((k-1:Nat):Int),by simp [hg],⟨k-1,rfl,by omega,fun y hy=>?_⟩,by omega⟩
     rw [List.drop_eq_getElem_cons (show k-1<l.length by omega),show k-1+1=k by omega] at hy
     rcases List.mem_cons.1 hy with rfl | hy
     ·rw [List.getElem?_eq_getElem (by omega)] at hx;injection hx with hx;rw [hx];exact hg
     ·exact hI y hy
    ·right
     refine ⟨(k:Int),by simp [hg],k,rfl,hk,hI,fun _ y hy=>?_⟩
     rw [hx] at hy;injection hy with hy;omega
   ·right
    have d:decide ((k:Int)>0)=false:=by simp;omega
    exact ⟨(k:Int),by simp only [d,Bool.false_eq_true,if_false,Option.bind_some],k,rfl,hk,hI,fun q=>absurd q h0⟩) (l.length:Int) ⟨l.length,rfl,Nat.le_refl _,by simp⟩
 unfold dF
 rw [q1,Option.bind_some]
 have hj:∃ b:Bool,(if decide ((i:Int)>0) then (idx l (aH (i:Int) 1)).bind (fun x48=>some (x48==n)) else some false)=some b∧(b=true↔0<i∧l[i-1]?=some n):=by
  by_cases h0:0<i
  ·obtain ⟨x,hx⟩:∃ x,l[i-1]?=some x:=⟨_,List.getElem?_eq_getElem (by omega)⟩
   have e1:aH (i:Int) 1=((i-1:Nat):Int):=by rw [aR (by omega) (by omega)];omega
   have d:decide ((i:Int)>0)=true:=by simp;omega
   refine ⟨x==n,by simp only [d,if_true,e1,bS hx,Option.bind_some], ?_⟩
   rw [beq_iff_eq,hx]
   exact ⟨fun q=>⟨h0,by rw [q]⟩,fun q=>Option.some.inj q.2⟩
  ·have d:decide ((i:Int)>0)=false:=by simp;omega
   exact ⟨false,by simp only [d,Bool.false_eq_true,if_false],by simp;omega⟩
 obtain ⟨b,hj1,hj2⟩:=hj
 rw [hj1,Option.bind_some]
 cases b with
 | true =>
   obtain ⟨h0,hn⟩:=hj2.1 rfl
   refine ⟨l,rfl,h,fun x=>⟨.inl,fun q=>q.elim id fun e=>by rw [e];exact List.mem_of_getElem? hn⟩,by omega⟩
 | false =>
   have hnot:¬ (0<i∧l[i-1]?=some n):=fun q=>by have:=hj2.2 q;cases this
   rw [if_neg (by simp),xU (by simp [LIM];omega)]
   have hlen:aH ((l++[0]).length:Int) 1=(l.length:Int):=by rw [List.length_append,List.length_singleton,aR (by omega) (by omega)];omega
   obtain ⟨r,t1,z,rfl⟩:=jB (fun s:Int×List Int=>(s.1-(i:Int)).toNat)
    (fun s:Int×List Int=>∃ j:Nat,s.1=j∧i≤j∧j≤l.length∧∃ z,s.2=l.take j++z::l.drop j)
    (fun r:List Int=>∃ z,r=l.take i++z::l.drop i) (kO (i:Int)) (by
     rintro ⟨s,c⟩ ⟨j,hs,hij,hjl,z,hc⟩
     simp only at hs hc
     subst hs hc
     unfold kO
     by_cases hg:i<j
     ·left
      have d:decide ((j:Int)>(i:Int))=true:=by simp;omega
      have e1:aH (j:Int) 1=((j-1:Nat):Int):=by rw [aR (by omega) (by omega)];omega
      have ht:(l.take j).length=j:=by rw [List.length_take];omega
      have g1:(l.take j++z::l.drop j)[j-1]?=some (l[j-1]'(by omega)):=by
       rw [List.getElem?_append_left (by omega),List.getElem?_take,if_pos (by omega),List.getElem?_eq_getElem (by omega)]
      have g2:(l.take j++z::l.drop j)[j]?=some z:=by rw [List.getElem?_append_right (by omega),ht];simp
      simp only [d,if_true,e1,bS g1,bS g2,Option.bind_some,Int.toNat_natCast]
      refine ⟨_,rfl,⟨j-1,rfl,by omega,by omega,l[j-1]'(by omega), ?_⟩,by simp only;omega⟩
      simp only
      rw [List.set_append_right _ _ (by omega),ht]
      have e2:l.take j=l.take (j-1)++[l[j-1]'(by omega)]:=by
       conv=>lhs;rw [show j=(j-1)+1 by omega]
       rw [List.take_add_one,List.getElem?_eq_getElem (by omega)];rfl
      have e3:l.drop (j-1)=l[j-1]'(by omega)::l.drop j:=by
       rw [List.drop_eq_getElem_cons (show j-1<l.length by omega),show j-1+1=j by omega]
      rw [e2,e3,Nat.sub_self,List.set_cons_zero,List.append_assoc];rfl
     ·right
      have d:decide ((j:Int)>(i:Int))=false:=by simp;omega
      obtain rfl:j=i:=by omega
      exact ⟨l.take j++z::l.drop j,by simp only [d,Bool.false_eq_true,if_false],z,rfl⟩) (aH ((l++[0]).length:Int) 1,l++[0]) ⟨l.length,hlen,hi,Nat.le_refl _,0,by simp⟩
   have ht:(l.take i).length=i:=by rw [List.length_take];omega
   have g2:(l.take i++z::l.drop i)[i]?=some z:=by rw [List.getElem?_append_right (by omega),ht];simp
   have e4:(l.take i++z::l.drop i).set i n=l.take i++n::l.drop i:=by rw [List.set_append_right _ _ (by omega),ht];simp
   simp only [Option.bind_some,t1,bS g2,Int.toNat_natCast,e4]
   have hlow:∀ x ∈ l.take i,x<n:=fun x hx=>by
    rcases Nat.eq_zero_or_pos i with q | q
    ·subst q;simp at hx
    ·obtain ⟨y,hy⟩:∃ y,l[i-1]?=some y:=⟨_,List.getElem?_eq_getElem (by omega)⟩
     have hyn:y<n:=by
      have h1:=hb q y hy
      have h2:y≠n:=fun e=>hnot ⟨q,by rw [hy,e]⟩
      omega
     obtain ⟨k,hk⟩:=List.mem_iff_getElem?.1 hx
     have hkl:=bG hk
     rw [List.getElem?_take,if_pos (by omega)] at hk
     by_cases e:k=i-1
     ·subst e;rw [hy] at hk;injection hk with hk;omega
     ·have:=Dc h (show k<i-1 by omega) hk hy;omega
   refine ⟨_,rfl, ?_,fun x=>?_,by rw [List.length_append,List.length_cons,List.length_take,List.length_drop];omega⟩
   ·have hp:=h
    rw [← List.take_append_drop i l,List.pairwise_append] at hp
    rw [List.pairwise_append,List.pairwise_cons]
    refine ⟨hp.1,⟨ha,hp.2.1⟩,fun x hx y hy=>?_⟩
    rcases List.mem_cons.1 hy with rfl | hy
    ·exact hlow x hx
    ·exact hp.2.2 x hx y hy
   ·conv=>rhs;rw [← List.take_append_drop i l]
    simp only [List.mem_append,List.mem_cons]
    grind
theorem CM {l:List aF} (hv:sL l) (hl:l.length≤400):∃ xs ys,lD l=some (xs,ys)∧xS xs (xsL l)∧xS ys (ysL l):=by
 obtain ⟨⟨xs,ys⟩,q1,⟨gx1,gx2⟩,⟨gy1,gy2⟩,lx,ly⟩:=uD l (fun k (s:List Int×List Int)=>((k:Int),s.1,s.2)) (iQ l) (fun s=>(s.1,s.2)) (fun k s=>xS s.1 (xsL (l.take k))∧xS s.2 (ysL (l.take k))∧s.1.length≤2*k∧s.2.length≤2*k) ([],[])
  ⟨⟨.nil,by simp [xsL]⟩,⟨.nil,by simp [ysL]⟩,by simp,by simp⟩
  (fun k r s hr hI=>by
   obtain ⟨⟨a1,a2⟩,⟨b1,b2⟩,la,lb⟩:=hI
   have h1:=bG hr
   have hd:decide ((k:Int)<(l.length:Int))=true:=by simp [h1]
   obtain ⟨e1,e2⟩:=Ih (hv r (List.mem_of_getElem? hr))
   obtain ⟨c1,i1,p1,m1,n1⟩:=Dh a1 (by omega) r.X
   obtain ⟨c2,i2,p2,m2,n2⟩:=Dh p1 (by omega) (r.X+r.W)
   obtain ⟨c3,i3,p3,m3,n3⟩:=Dh b1 (by omega) r.Y
   obtain ⟨c4,i4,p4,m4,n4⟩:=Dh p3 (by omega) (r.Y+r.H)
   unfold iQ
   simp only [hd,if_true,bS hr,Option.bind_some,e1,e2,i1,i2,i3,i4,bH k (by omega)]
   refine ⟨(c2,c4),rfl,⟨p2,fun x=>?_⟩,⟨p4,fun x=>?_⟩,by simp only;omega,by simp only;omega⟩
   ·rw [m2,m1,a2,tG hr,Ms]
    simp [xsL,or_assoc]
   ·rw [m4,m3,b2,tG hr,Mt]
    simp [ysL,or_assoc]) (fun s _=>by simp [iQ])
 rw [List.take_length] at gx2 gy2
 simp only at gx1 gx2 gy1 gy2
 refine ⟨xs,ys, ?_,⟨gx1,gx2⟩,⟨gy1,gy2⟩⟩
 unfold lD
 rw [show ((0:Int),([]:List Int),([]:List Int))=(((0:Nat):Int),(([],[]):List Int×List Int).1,(([],[]):List Int×List Int).2) from rfl,q1]
 rfl
end Go.SM
namespace Go.SM
open Go Go.VI
theorem AP {s sub:List UInt8} {i:Nat} (hne:sub≠[]) (h:Go.Lib.occAt s sub i=true):i+sub.length≤s.length:=by
 rcases Go.Lib.occAt_room h with h' | h'
 ·omega
 ·exact absurd h' hne
theorem Ky {s sub:List UInt8} (hne:sub≠[]):Go.Lib.contains s sub=(List.range (s.length+1-sub.length)).any (Go.Lib.occAt s sub):=by
 unfold Go.Lib.contains
 rcases Go.Lib.index_spec s sub with ⟨h1,h2⟩ | ⟨i,h1,h2,h3,h4⟩
 ·rw [h1]
  have:(List.range (s.length+1-sub.length)).any (Go.Lib.occAt s sub)=false:=by
   rw [List.any_eq_false];intro j hj
   rw [h2 j (by have:=List.mem_range.1 hj;omega)];simp
  rw [this];rfl
 ·rw [h1]
  have:(List.range (s.length+1-sub.length)).any (Go.Lib.occAt s sub)=true:=List.any_eq_true.2 ⟨i,List.mem_range.2 (by have:=AP hne h3;omega),h3⟩
  rw [this];simp
theorem Kk {a b:ByteArray} (h:a.size+b.size≤9223372036854775807):Jv a b=some (a++b):=by unfold Jv;rw [if_pos h]
theorem Xc (T s1:ByteArray) (hT:T.size<4294967281) (hs:s1.size≤8):jF T s1=some (Go.Lib.contains T.data.toList ((ByteArray.mk #[32]++s1)++ByteArray.mk #[32]).data.toList):=by
 have hsz:((ByteArray.mk #[32]++s1)++ByteArray.mk #[32]).size=s1.size+2:=by
  rw [ByteArray.size_append,ByteArray.size_append];show 1+s1.size+1=_;omega
 have hsub:s1.size+2=((ByteArray.mk #[32]++s1)++ByteArray.mk #[32]).data.toList.length:=by rw [← hsz];rfl
 have hne:((ByteArray.mk #[32]++s1)++ByteArray.mk #[32]).data.toList≠[]:=by
  intro h;rw [h] at hsub;simp at hsub
 have e1:Jv (ByteArray.mk #[32]) s1=some (ByteArray.mk #[32]++s1):=Kk (by show 1+s1.size≤_;omega)
 have e2:Jv (ByteArray.mk #[32]++s1) (ByteArray.mk #[32])=some ((ByteArray.mk #[32]++s1)++ByteArray.mk #[32]):=Kk (by rw [ByteArray.size_append];show 1+s1.size+1≤_;omega)
 generalize (ByteArray.mk #[32]++s1)++ByteArray.mk #[32]=W at hsz hsub hne e2 ⊢
 rw [Ky hne]
 have hTl:T.data.toList.length=T.size:=rfl
 have key:aJ (eJ T s1) 0=some (if (List.range (T.data.toList.length+1-W.data.toList.length)).any (Go.Lib.occAt T.data.toList W.data.toList) then .inl () else .inr ()):=by
  refine zI _ (eJ T s1) (fun k=>(k:Int)) _ _ _ rfl (fun k hk=>?_) ?_
  ·unfold eJ
   rw [hTl,← hsub] at hk
   rw [aO (a:=(k:Int)) (by omega) (by omega),aO (b:=2) (by omega) (by omega)]
   have h1:decide ((k:Int)+(s1.size:Int)+2≤(T.size:Int))=true:=by simp;omega
   simp only [h1,if_true]
   have e3:BZ T k ((k:Int)+(s1.size:Int)+2)=some (T.extract k (k+W.size)):=by
    unfold BZ
    rw [if_pos (by omega)]
    have:((k:Int)+(s1.size:Int)+2).toNat=k+W.size:=by omega
    rw [this];simp
   rw [e3]
   simp only [Option.bind_some,e1,e2]
   rw [Go.Lib.occ_of_piece T W k (by omega),aO (a:=(k:Int)) (by omega) (by omega)]
   cases (T.extract k (k+W.size)).toList==W.toList <;> simp
  ·unfold eJ
   rw [hTl,← hsub]
   rw [aO (b:=(s1.size:Int)) (by omega) (by omega),aO (b:=2) (by omega) (by omega)]
   have h1:decide (((T.size+1-(s1.size+2):Nat):Int)+(s1.size:Int)+2≤(T.size:Int))=false:=by simp;omega
   simp only [h1];rfl
 unfold jF
 rw [key]
 cases (List.range (T.data.toList.length+1-W.data.toList.length)).any (Go.Lib.occAt T.data.toList W.data.toList) <;> rfl
def FK (x:Int):Bool:=decide (¬ (97≤x∧x≤122)∧(x<48∨x>57))
theorem Pv {s:ByteArray} {k:Nat} (h:k<s.size):Cw s (k:Int)=some ((s[k].toNat:Nat):Int):=by
 unfold Cw
 rw [if_pos (Int.natCast_nonneg k),Int.toNat_natCast]
 simp [h]
def FL (s:ByteArray):Bool:=(List.range s.size).any fun k=>if h:k<s.size then FK s[k].toNat else false
theorem Xg (s:ByteArray) (hs:s.size≤8):aJ (lB s) 0=some (if FL s then .inl () else .inr ()):=by
 refine zI s.size (lB s) (fun k=>(k:Int)) _ _ _ rfl (fun k hk=>?_) ?_
 ·unfold lB
  have h1:decide ((k:Int)<(s.size:Int))=true:=by simp;omega
  simp only [h1,if_true,Pv hk,Option.bind_some,dif_pos hk]
  rw [aO (a:=(k:Int)) (by omega) (by omega)]
  generalize ((s[k].toNat:Nat):Int)=x
  unfold FK
  by_cases q1:x<97
  ·have:¬ (97≤x∧x≤122):=by omega
   by_cases q2:x<48
   ·simp [q1,q2]
   ·by_cases q3:x>57 <;> simp [q1,q2,q3]
  ·by_cases q4:x>122
   ·have q5:¬ x<48:=by omega
    have q6:x>57:=by omega
    simp [q1,q4,q5,q6]
   ·simp [q1,q4]
 ·simp [lB]
theorem Ty (s:ByteArray) (hs:s.size≤8):aJ (dL s) 0=some (if FL s then .inl () else .inr ()):=by
 refine zI s.size (dL s) (fun k=>(k:Int)) _ _ _ rfl (fun k hk=>?_) ?_
 ·unfold dL
  have h1:decide ((k:Int)<(s.size:Int))=true:=by simp;omega
  simp only [h1,if_true,Pv hk,Option.bind_some,dif_pos hk]
  rw [aO (a:=(k:Int)) (by omega) (by omega)]
  generalize ((s[k].toNat:Nat):Int)=x
  unfold FK
  by_cases q1:x ≥ 97
  ·by_cases q4:x≤122
   ·simp [q1,q4]
   ·have q5:¬ x<48:=by omega
    have q6:x>57:=by omega
    simp [q1,q4,q5,q6]
  ·by_cases q2:x<48
   ·simp [q1,q2]
   ·by_cases q3:x>57 <;> simp [q1,q2,q3]
 ·simp [dL]
theorem Cz (s:ByteArray):∃ b,jZ s=some b∧cC s=some b:=by
 unfold jZ cC mZ lW
 by_cases h1:(s.size:Int)<1
 ·exact ⟨false,by simp [h1],by simp [show ¬ (s.size:Int) ≥ 1 by omega]⟩
 by_cases h2:(s.size:Int)>8
 ·exact ⟨false,by simp [h1,h2],by simp [show (s.size:Int) ≥ 1 by omega,show ¬ (s.size:Int)≤8 by omega]⟩
 have g1:(s.size:Int) ≥ 1:=by omega
 have g2:(s.size:Int)≤8:=by omega
 have e0:Cw s 0=some ((s[0]'(by omega)).toNat:Int):=Pv (k:=0) (by omega)
 generalize ((s[0]'(by omega)).toNat:Int)=x at e0
 by_cases h3:x<97
 ·exact ⟨false,by simp [h1,h2,e0,h3],by simp only [g1,g2,decide_true,if_true,Option.bind_some,e0,h3]⟩
 by_cases h4:x>122
 ·exact ⟨false,by simp [h1,h2,e0,h3,h4],by simp only [g1,g2,decide_true,if_true,Option.bind_some,e0,h3,h4,decide_false,Bool.false_eq_true,if_false]⟩
 simp only [g1,g2,h1,h2,h3,h4,decide_true,decide_false,if_true,Bool.false_eq_true,if_false,Option.bind_some,e0,Xg s (by omega),Ty s (by omega)]
 cases FL s with
 | true=>exact ⟨false,rfl,rfl⟩
 | false =>
   have e1:Jv (ByteArray.mk #[32]) s=some (ByteArray.mk #[32]++s):=Kk (by show 1+s.size≤_;omega)
   have e2:Jv (ByteArray.mk #[32]++s) (ByteArray.mk #[32])=some ((ByteArray.mk #[32]++s)++ByteArray.mk #[32]):=Kk (by rw [ByteArray.size_append];show 1+s.size+1≤_;omega)
   simp only [Bool.false_eq_true,if_false,e1,e2,Option.bind_some]
   unfold nA
   rw [Xc _ s (by decide +kernel) (by omega),if_pos (by decide +kernel)]
   exact ⟨_,rfl,rfl⟩
theorem Pd (n lo hi:Int):nL n lo hi=some (decide (lo≤n∧n≤hi)):=by
 unfold nL
 by_cases h1:lo≤n <;> simp [h1]
theorem Rz (g r:Int):vZ g r=some (decide ((1≤g∧g≤60)∧0≤r∧r≤2)):=by
 unfold vZ
 simp only [Pd,Option.bind_some]
 by_cases h1:1≤g∧g≤60
 ·simp [h1]
 ·simp only [h1,decide_false,false_and];rfl
theorem CH {n m:ByteArray} {a b:Bool} (hn:cC n=some a) (hm:cC m=some b) (g r:Int):kH n m g r=some (if a&&b then (if (1≤g∧g≤60)∧0≤r∧r≤2 then 0 else 1) else 2):=by
 unfold kH
 rw [hn,hm]
 cases a
 ·rfl
 ·cases b
  ·rfl
  ·by_cases h1:g<1
   ·have:¬ ((1≤g∧g≤60)∧0≤r∧r≤2):=by omega
    simp [h1,this]
   ·by_cases h2:g>60
    ·have:¬ ((1≤g∧g≤60)∧0≤r∧r≤2):=by omega
     simp [h1,h2,this]
    ·by_cases h3:r<0
     ·have:¬ ((1≤g∧g≤60)∧0≤r∧r≤2):=by omega
      simp [h1,h2,h3,this]
     ·by_cases h4:r>2
      ·have:¬ ((1≤g∧g≤60)∧0≤r∧r≤2):=by omega
       simp [h1,h2,h3,h4,this]
      ·have:((1≤g∧g≤60)∧0≤r∧r≤2):=by omega
       simp [h1,h2,h3,h4,this]
theorem Cy (l:List aF) (hl:l.length≤9223372036854775806):gS l=some (!(l.any fun x=>!decide (vR x))):=by
 have key:aJ (pX l) 0=some (if (l.any fun x=>!decide (vR x)) then .inl () else .inr ()):=by
  refine oX l (pX l) (fun k=>(k:Int)) _ _ _ rfl (fun k x hx=>?_) ?_
  ·have hk:=(List.getElem?_eq_some_iff.1 hx).1
   unfold pX
   have h1:decide ((k:Int)<(l.length:Int))=true:=by simp;omega
   simp only [h1,if_true,bS hx,Option.bind_some,mX]
   rw [aO (a:=(k:Int)) (by omega) (by omega)]
   rfl
  ·simp [pX]
 unfold gS
 rw [key]
 cases (l.any fun x=>!decide (vR x)) <;> rfl
theorem Gz (l:List aF) (hl:l.length≤9223372036854775806):eH l=some (!(l.any fun x=>!decide (vR x))):=by
 have key:aJ (eK l) 0=some (if (l.any fun x=>!decide (vR x)) then .inl () else .inr ()):=by
  refine oX l (eK l) (fun k=>(k:Int)) _ _ _ rfl (fun k x hx=>?_) ?_
  ·have hk:=(List.getElem?_eq_some_iff.1 hx).1
   unfold eK
   have h1:decide ((k:Int)<(l.length:Int))=true:=by simp;omega
   simp only [h1,if_true,bS hx,Option.bind_some,Kp]
   rw [aO (a:=(k:Int)) (by omega) (by omega)]
   rfl
  ·simp [eK]
 unfold eH
 rw [key]
 cases (l.any fun x=>!decide (vR x)) <;> rfl
def outs (r:aF) (l:List aF):Bool:=l.any fun x=>!decide (xZ x r)
theorem Zz (r:aF×Bool) (l:List aF) (hl:l.length≤9223372036854775806):aJ (gO r l) 0=some (if outs r.1 l then .inl () else .inr ()):=by
 refine oX l (gO r l) (fun k=>(k:Int)) _ _ _ rfl (fun k x hx=>?_) ?_
 ·have hk:=(List.getElem?_eq_some_iff.1 hx).1
  unfold gO
  have h1:decide ((k:Int)<(l.length:Int))=true:=by simp;omega
  simp only [h1,if_true,bS hx,Option.bind_some,Np]
  rw [aO (a:=(k:Int)) (by omega) (by omega)]
  rfl
 ·simp [gO]
theorem Hj (s:bM) (l:List aF) (hl:l.length≤9223372036854775806):eI s l=some (!(outs ⟨0,0,s.aW,s.aQ⟩ l)):=by
 have key:aJ (eM s l) 0=some (if outs ⟨0,0,s.aW,s.aQ⟩ l then .inl () else .inr ()):=by
  refine oX l (eM s l) (fun k=>(k:Int)) _ _ _ rfl (fun k x hx=>?_) ?_
  ·have hk:=(List.getElem?_eq_some_iff.1 hx).1
   unfold eM
   have h1:decide ((k:Int)<(l.length:Int))=true:=by simp;omega
   simp only [h1,if_true,bS hx,Option.bind_some,Wb]
   rw [aO (a:=(k:Int)) (by omega) (by omega)]
   rfl
  ·simp [eM]
 unfold eI
 rw [key]
 cases outs ⟨0,0,s.aW,s.aQ⟩ l <;> rfl
theorem Rl (s:bM) (r:aF×Bool) (h1:s.aN.length≤9223372036854775806) (h2:s.Used.length≤9223372036854775806):aJ (gP s r) 0=some (if outs r.1 s.aN || outs r.1 s.Used then .inl () else .inr ()):=by
 have:=oX [s.aN,s.Used] (gP s r) (fun k=>(k:Int)) (fun l=>outs r.1 l) (.inr ()) (.inl ()) rfl (fun k x hx=>?_) ?_
 ·refine this.trans ?_;simp
 ·have hk:=(List.getElem?_eq_some_iff.1 hx).1
  unfold gP
  have hm:x=s.aN∨x=s.Used:=by have:=List.mem_of_getElem? hx;simpa using this
  have hl:x.length≤9223372036854775806:=by rcases hm with rfl | rfl <;> assumption
  have h3:decide ((k:Int)<(([s.aN,s.Used]:List (List aF)).length:Int))=true:=by rw [decide_eq_true_eq];exact Int.ofNat_lt.2 hk
  simp only [h3,if_true,bS hx,Option.bind_some,Zz r x hl]
  have hk':k<2:=hk
  rw [aO (a:=(k:Int)) (by omega) (by omega)]
  cases outs r.1 x <;> simp
 ·simp [gP]
def Zc (h x:aF):Bool:=if h.X>x.X then (if h.Y>x.Y then (if aE h.X h.W<aE x.X x.W then decide (aE h.Y h.H<aE x.Y x.H) else false) else false) else false
def Rs (p:aF→aF→Bool) (l:List aF) (k:Nat):Bool:=match l[k]? with
 | some x=>(l.take k).any (p x)
 | none=>false
def CK (x y:aF):Bool:=Zd x y==0
def mW (x y:aF):Bool:=decide (ovR x y)
theorem Mn {l:List aF} {k:Nat} (h:k≤l.length):slc l 0 (k:Int)=some (l.take k):=by
 unfold slc;rw [if_pos (by omega)];simp
theorem Ko (x:aF) (l:List aF) (hl:l.length≤1000):eV x l=some (l.any (mW x)):=by
 have key:aJ (eY x l) 0=some (if l.any (mW x) then .inl () else .inr ()):=by
  refine oX l (eY x l) (fun k=>(k:Int)) _ _ _ rfl (fun k y hy=>?_) ?_
  ·have hk:=(List.getElem?_eq_some_iff.1 hy).1
   unfold eY
   have h1:decide ((k:Int)<(l.length:Int))=true:=by simp;omega
   simp only [h1,if_true,bS hy,Option.bind_some,Qe]
   rw [aO (a:=(k:Int)) (by omega) (by omega)]
   rfl
  ·simp [eY]
 unfold eV
 rw [key]
 cases l.any (mW x) <;> rfl
def GV (l:List aF) (a:Int):Int:=l.foldl (fun s r=>min s r.X) a
def GW (l:List aF) (a:Int):Int:=l.foldl (fun s r=>min s r.Y) a
end Go.SM
namespace Go.SM
open Go Go.VI Go.Cells
theorem Ij {r x:aF} (h:ovR r x):([(aF.mk r.X r.Y (aH (imax r.X x.X) r.X) r.H),(aF.mk (dJ (aE r.X r.W) (aE x.X x.W)) r.Y (aH (aE r.X r.W) (dJ (aE r.X r.W) (aE x.X x.W))) r.H),(aF.mk (imax r.X x.X) r.Y (aH (dJ (aE r.X r.W) (aE x.X x.W)) (imax r.X x.X)) (aH (imax r.Y x.Y) r.Y)),(aF.mk (imax r.X x.X) (dJ (aE r.Y r.H) (aE x.Y x.H)) (aH (dJ (aE r.X r.W) (aE x.X x.W)) (imax r.X x.X)) (aH (aE r.Y r.H) (dJ (aE r.Y r.H) (aE x.Y x.H))))]:List aF)=[pF r x,rF r x,sJ r x,xN r x]:=by
 obtain ⟨h1,h2,h3,h4,h5,h6⟩:=h
 obtain ⟨a1,a2⟩:=Ih h1
 obtain ⟨b1,b2⟩:=Ih h2
 unfold vR at h1 h2
 rw [a1,a2,b1,b2]
 simp only [Va,DL]
 rw [aR (a:=max r.X x.X) (b:=r.X) (by omega) (by omega),aR (a:=r.X+r.W) (b:=min (r.X+r.W) (x.X+x.W)) (by omega) (by omega),aR (a:=min (r.X+r.W) (x.X+x.W)) (b:=max r.X x.X) (by omega) (by omega),aR (a:=max r.Y x.Y) (b:=r.Y) (by omega) (by omega),aR (a:=r.Y+r.H) (b:=min (r.Y+r.H) (x.Y+x.H)) (by omega) (by omega)]
 rfl
theorem Qj {self:aF→List aF→Option Int} {r x:aF} (h:ovR r x) {l:List aF} (hl:l.length≤1000) {k:Nat} (hk:k<l.length) (hself:∀ p,vR p→self p (l.drop (k+1))=some (dD p (l.drop (k+1)))) :
  aJ (lS self r l (k:Int) x) (0,0)=some (dD (pF r x) (l.drop (k+1))+dD (rF r x) (l.drop (k+1))+dD (sJ r x) (l.drop (k+1))+dD (xN r x) (l.drop (k+1))):=by
 have hsl:slc l (aE (k:Int) 1) (l.length:Int)=some (l.drop (k+1)):=by
  rw [bH k (by omega)]
  unfold slc
  rw [if_pos (by omega)]
  congr 1
  simp
 have step:∀ (i:Nat) (p:aF) (acc:Int),[pF r x,rF r x,sJ r x,xN r x][i]?=some p→(0≤acc∧acc≤17592186044416)→lS self r l (k:Int) x (acc,(i:Int))=some (.inl (acc+dD p (l.drop (k+1)),((i+1:Nat):Int))):=fun i p acc hp hacc=>by
  have hi:=bG hp
  have hpm:=List.mem_of_getElem? hp
  have b1:=pN p (l.drop (k+1))
  have b2:=yJ p (l.drop (k+1))
  unfold lS
  rw [Ij h]
  have hd:decide ((i:Int)<(([pF r x,rF r x,sJ r x,xN r x]:List aF).length:Int))=true:=by rw [decide_eq_true_eq];exact Int.ofNat_lt.2 hi
  simp only [hd,if_true,bS hp,Option.bind_some,tV]
  have hi4:(i:Int)<9223372036854775807:=by simp at hi;omega
  by_cases hw:p.W>0
  ·by_cases hh:p.H>0
   ·simp only [hw,hh,decide_true,if_true,Option.bind_some,hsl,hself p (FP h p hpm hw hh),aO (a:=acc) (b:=dD p (l.drop (k+1))) (by omega) (by omega),bH i hi4]
   ·have:=Fk (r:=p) (l.drop (k+1)) (fun q=>hh q.2)
    simp only [hw,hh,decide_true,decide_false,if_true,Bool.false_eq_true,if_false,Option.bind_some,this,Int.add_zero,bH i hi4]
  ·have:=Fk (r:=p) (l.drop (k+1)) (fun q=>hw q.1)
   simp only [hw,decide_false,Bool.false_eq_true,if_false,Option.bind_some,this,Int.add_zero,bH i hi4]
 have n1:=pN (pF r x) (l.drop (k+1));have m1:=yJ (pF r x) (l.drop (k+1))
 have n2:=pN (rF r x) (l.drop (k+1));have m2:=yJ (rF r x) (l.drop (k+1))
 have n3:=pN (sJ r x) (l.drop (k+1));have m3:=yJ (sJ r x) (l.drop (k+1))
 have s0:=step 0 (pF r x) 0 rfl (by omega)
 have s1:=step 1 (rF r x) _ rfl (show 0≤0+dD (pF r x) (l.drop (k+1))∧0+dD (pF r x) (l.drop (k+1))≤17592186044416 by omega)
 have s2:=step 2 (sJ r x) _ rfl (show 0≤0+dD (pF r x) (l.drop (k+1))+dD (rF r x) (l.drop (k+1))∧0+dD (pF r x) (l.drop (k+1))+dD (rF r x) (l.drop (k+1))≤17592186044416 by omega)
 have s3:=step 3 (xN r x) _ rfl (show 0≤0+dD (pF r x) (l.drop (k+1))+dD (rF r x) (l.drop (k+1))+dD (sJ r x) (l.drop (k+1))∧0+dD (pF r x) (l.drop (k+1))+dD (rF r x) (l.drop (k+1))+dD (sJ r x) (l.drop (k+1))≤17592186044416 by omega)
 have s0':lS self r l (k:Int) x (0,0)=_:=s0
 rw [tT s0',tT s1,tT s2,tT s3]
 have last:∀ acc:Int,lS self r l (k:Int) x (acc,(((3+1:Nat):Int)))=some (.inr acc):=fun acc=>by
  unfold lS
  rw [Ij h]
  have hd:decide ((((3+1:Nat):Int))<(([pF r x,rF r x,sJ r x,xN r x]:List aF).length:Int))=false:=rfl
  simp only [hd,Bool.false_eq_true,if_false]
 rw [pU (last _),Int.zero_add]
theorem Kq {self:aF→List aF→Option Int} {r:aF} (hr:vR r) {l:List aF} (hl:l.length≤1000) (hv:sL l) (hself:∀ k,k<l.length→∀ p,vR p→self p (l.drop (k+1))=some (dD p (l.drop (k+1)))):∀ (m k:Nat),k+m=l.length→∃ o,aJ (nK self r l) (k:Int)=some o∧(match o with | .inl j=>j | .inr _=>eG r.W r.H)=dD r (l.drop k)
 | 0,k,hk=>by
   refine ⟨.inr (),pU ?_, ?_⟩
   ·unfold nK
    have:decide ((k:Int)<(l.length:Int))=false:=by rw [decide_eq_false_iff_not];omega
    simp only [this,Bool.false_eq_true,if_false]
   ·rw [List.drop_eq_nil_of_le (by omega),Sv hr]
    unfold vR at hr
    have h1:r.W*r.H≤2097152*2097152:=Int.mul_le_mul (by omega) (by omega) (by omega) (by omega)
    have h0:0≤r.W*r.H:=Int.mul_nonneg (by omega) (by omega)
    exact oW (by omega) (by omega)
 | m+1,k,hk=>by
   have hkl:k<l.length:=by omega
   have hx:l[k]?=some l[k]:=List.getElem?_eq_getElem hkl
   have hxv:=hv _ (List.getElem_mem hkl)
   have hdr:l.drop k=l[k]::l.drop (k+1):=List.drop_eq_getElem_cons hkl
   have hd:decide ((k:Int)<(l.length:Int))=true:=by rw [decide_eq_true_eq];omega
   by_cases ho:ovR r l[k]
   ·refine ⟨.inl (dD r (l.drop k)),pU ?_,rfl⟩
    unfold nK
    have hdo:decide (ovR r l[k])=true:=by rw [decide_eq_true_eq];exact ho
    simp only [hd,if_true,bS hx,Option.bind_some,El,hdo,Bool.not_true,Bool.false_eq_true,if_false,Qj ho hl hkl (hself k hkl)]
    rw [hdr,Ow ho]
   ·obtain ⟨o,h1,h2⟩:=Kq hr hl hv hself m (k+1) (by omega)
    refine ⟨o, ?_,by rw [hdr,Qi hr hxv ho];exact h2⟩
    rw [tT (s':=((k+1:Nat):Int))]
    ·exact h1
    ·unfold nK
     have hdo:decide (ovR r l[k])=false:=by rw [decide_eq_false_iff_not];exact ho
     simp only [hd,if_true,bS hx,Option.bind_some,El,hdo,Bool.not_false,bH k (by omega)]
theorem Um:∀ (n:Nat) (l:List aF),l.length≤n→l.length≤1000→sL l→∀ r,vR r→jC (n+1) r l=some (dD r l)
 | n,l,hn,hl,hv,r,hr=>by
   show qO (jC n) r l=_
   have hself:∀ k,k<l.length→∀ p,vR p→jC n p (l.drop (k+1))=some (dD p (l.drop (k+1))):=fun k hk p hp=>by
    cases n with
    | zero=>omega
    | succ n=>exact Um n (l.drop (k+1)) (by simp;omega) (by simp;omega) (fun s hs=>hv s (List.mem_of_mem_drop hs)) p hp
   obtain ⟨o,h1,h2⟩:=Kq hr hl hv hself l.length 0 (by omega)
   have h1':aJ (nK (jC n) r l) 0=some o:=h1
   unfold qO
   rw [h1']
   rw [List.drop_zero] at h2
   cases o with
   | inl j=>exact congrArg some h2
   | inr u=>exact congrArg some h2
 termination_by n=>n
theorem Yj {l:List aF} (hl:l.length≤900) (hv:sL l) {r:aF} (hr:vR r):Ex r l=some (dD r l):=Um 999 l (by omega) (by omega) hv r hr
theorem CR {l:List aF} (hl:l.length≤900) (hv:sL l):Dm l=some (gE MM (cov l)):=by
 unfold Dm
 have key:=Dl l (rS l) (fun k=>(gE MM (cov (l.take k)),(k:Int))) (gE MM (cov l)) (fun k r hk=>?_) ?_
 ·have e0:gE MM (cov (l.take 0))=0:=by
   exact Ag fun x _ _=>Ag fun y _ _=>rfl
  rw [e0] at key
  have key':aJ (rS l) (0,0)=some (gE MM (cov l)):=key
  rw [key'];rfl
 ·have hkl:=bG hk
  have hsl:slc l 0 (k:Int)=some (l.take k):=Mn (by omega)
  have hal:=Yj (l:=l.take k) (by simp;omega) (fun s hs=>hv s (List.mem_of_mem_take hs)) (hv r (List.mem_of_getElem? hk))
  have b1:=pN r (l.take k);have b2:=yJ r (l.take k)
  have c1:=tY (M:=MM) (cov (l.take k));have c2:=tX (cov (l.take k))
  unfold rS
  have hd:decide ((k:Int)<(l.length:Int))=true:=by rw [decide_eq_true_eq];omega
  simp only [hd,if_true,bS hk,Option.bind_some,hsl,hal,bH k (show (k:Int)<9223372036854775807 by omega)]
  rw [tG hk,Wl,aO (by omega) (by omega)]
 ·unfold rS
  simp
theorem So {l:List aF} (hv:sL l) (hl:l.length≤1000) (x y:Int):jG l x y=some (cov l x y):=by
 unfold jG cov
 rw [AL l (gK l x y) (fun r=>inC r x y) (.inr ()) (.inl ()) (fun k r hr=>?s) ?f]
 ·cases l.any (fun r=>inC r x y) <;> rfl
 case s =>
  have h1:=bG hr
  obtain ⟨e1,e2⟩:=Ih (hv r (List.mem_of_getElem? hr))
  unfold gK
  simp only [h1,Int.ofNat_lt,decide_true,if_true,bS hr,Option.bind_some,e1,e2]
  have hb':(if decide (r.X≤x) then (if decide (x<r.X+r.W) then (if decide (r.Y≤y) then some (decide (y<r.Y+r.H)) else some false) else some false) else some false)=some (inC r x y):=by
   unfold inC
   cases decide (r.X≤x) <;> cases decide (x<r.X+r.W) <;> cases decide (r.Y≤y) <;> simp
  rw [hb',Option.bind_some,bH k (by omega)]
 case f=>simp [gK]
theorem EU {xs:List Int} (h:Kn xs) {g:Int→Int} {c:Int} (hc:0≤c) (hg:∀ x,0≤g x∧g x≤c) {k:Nat} (hk:k<xs.length):0≤ps g xs k∧ps g xs k≤c*2097152:=by
 obtain ⟨b1,b2⟩:=Cr h.asc hc hg k hk
 obtain ⟨x,hx⟩:∃ x,xs[k]?=some x:=⟨_,List.getElem?_eq_getElem hk⟩
 obtain ⟨y,hy⟩:∃ y,xs[0]?=some y:=⟨_,List.getElem?_eq_getElem (by omega)⟩
 rw [nR hx,nR hy] at b2
 have wx:=h.within x (List.mem_of_getElem? hx)
 have wy:=h.within y (List.mem_of_getElem? hy)
 have:c*(x-y)≤c*2097152:=Int.mul_le_mul_of_nonneg_left (by omega) hc
 exact ⟨b1,by omega⟩
theorem Sc {l:List aF} (hv:sL l) (hl:l.length≤1000) {xs ys:List Int} (hY:Kn ys) {i:Nat} (hi:i≤1000) {x x':Int} (hx:xs[i]?=some x) (hx':xs[i+1]?=some x') (hxx:0≤x'-x∧x'-x≤2097152) (hb:(-1048576≤x∧x≤1048576)∧-1048576≤x'∧x'≤1048576) (z:Int) {acc:Int} (ha:0≤acc∧acc≤17592186044416) :
  aJ (fJ l (xs,ys) (z,(i:Int))) (acc,0)=some (acc+(x'-x)*pS (fun y=>one (cov l x y)) ys):=by
 have hone:∀ y,0≤one (cov l x y)∧one (cov l x y)≤1:=fun y=>one_le _
 have hi1:aE (i:Int) 1=((i+1:Nat):Int):=bH i (by omega)
 have hlen:=hY.len
 have key:=Dl (List.range (ys.length-1)) (fJ l (xs,ys) (z,(i:Int))) (fun k=>(acc+(x'-x)*ps (fun y=>one (cov l x y)) ys k,(k:Int))) (acc+(x'-x)*pS (fun y=>one (cov l x y)) ys) (fun k _ hk=>?_) ?_
 ·have e0:acc+(x'-x)*ps (fun y=>one (cov l x y)) ys 0=acc:=by simp [ps,wO]
  rw [e0] at key
  exact key
 ·have hkn:k<ys.length-1:=by have:=bG hk;simpa using this
  have hy:ys[k]?=some (ys[k]'(by omega)):=List.getElem?_eq_getElem (by omega)
  have hy':ys[k+1]?=some (ys[k+1]'(by omega)):=List.getElem?_eq_getElem (by omega)
  have hyy:=Dc hY.asc (Nat.lt_succ_self k) hy hy'
  have wy:=hY.within _ (List.mem_of_getElem? hy)
  have wy':=hY.within _ (List.mem_of_getElem? hy')
  generalize ys[k]'(by omega)=y at hy hyy wy
  generalize ys[k+1]'(by omega)=y' at hy' hyy wy'
  obtain ⟨p1,p2⟩:=EU hY (c:=1) (by omega) hone (k:=k) (by omega)
  have q1:0≤(x'-x)*ps (fun y=>one (cov l x y)) ys k:=Int.mul_nonneg hxx.1 p1
  have q2:(x'-x)*ps (fun y=>one (cov l x y)) ys k≤2097152*2097152:=Int.mul_le_mul hxx.2 (by omega) p1 (by omega)
  have r1:0≤(x'-x)*(y'-y):=Int.mul_nonneg hxx.1 (by omega)
  have r2:(x'-x)*(y'-y)≤2097152*2097152:=Int.mul_le_mul hxx.2 (by omega) (by omega) (by omega)
  have hk1:aE (k:Int) 1=((k+1:Nat):Int):=bH k (by omega)
  unfold fJ
  have hd:decide (((k+1:Nat):Int)<(ys.length:Int))=true:=by rw [decide_eq_true_eq];omega
  simp only [hk1,hd,if_true,hi1,bS hx,bS hx',bS hy,bS hy',Option.bind_some,So hv hl,iP]
  rw [Kh _ hy hy',Int.mul_add]
  cases hcv:cov l x y with
  | true =>
    rw [show one true=1 from rfl,Int.mul_one]
    rw [aR (a:=x') (b:=x) (by omega) (by omega),aR (a:=y') (b:=y) (by omega) (by omega),oW (a:=x'-x) (b:=y'-y) (by omega) (by omega),aO (b:=(x'-x)*(y'-y)) (by omega) (by omega)]
    simp only [if_true,Int.add_assoc]
  | false =>
    rw [show one false=0 from rfl,Int.mul_zero,Int.mul_zero,Int.add_zero]
    simp only [Bool.false_eq_true,if_false]
 ·rw [List.length_range,Dn]
  unfold fJ
  have:aE ((ys.length-1:Nat):Int) 1=((ys.length-1+1:Nat):Int):=bH _ (by omega)
  have hd:decide (((ys.length-1+1:Nat):Int)<(ys.length:Int))=false:=by rw [decide_eq_false_iff_not];omega
  simp only [this,hd,Bool.false_eq_true,if_false]
theorem BJ {l:List aF} (hv:sL l) (hl:l.length≤400):lC l=some (gE MM (cov l)):=by
 obtain ⟨xs,ys,hg,hx,hy⟩:=CM hv hl
 have hH:Has xs ys l:=Zw hv hl hx hy fun r hr=>hr
 have hX:=hH.X
 have hY:=hH.Y
 have hG:∀ x,0≤pS (fun y=>one (cov l x y)) ys∧pS (fun y=>one (cov l x y)) ys≤2097152:=fun x=>by
  have:=Lj hY (c:=1) (by omega) (g:=fun y=>one (cov l x y)) fun y=>one_le _
  omega
 unfold lC
 rw [hg]
 simp only [Option.bind_some]
 have key:=Dl (List.range (xs.length-1)) (fK l (xs,ys)) (fun k=>(ps (fun x=>pS (fun y=>one (cov l x y)) ys) xs k,(k:Int))) (pS (fun x=>pS (fun y=>one (cov l x y)) ys) xs) (fun k _ hk=>?_) ?_
 ·have e0:ps (fun x=>pS (fun y=>one (cov l x y)) ys) xs 0=0:=by simp [ps,wO]
  rw [e0,Ql hH] at key
  have key':aJ (fK l (xs,ys)) (0,0)=some (gE MM (cov l)):=key
  rw [key'];rfl
 ·have hkn:k<xs.length-1:=by have:=bG hk;simpa using this
  have hlen:=hX.len
  have h1:xs[k]?=some (xs[k]'(by omega)):=List.getElem?_eq_getElem (by omega)
  have h2:xs[k+1]?=some (xs[k+1]'(by omega)):=List.getElem?_eq_getElem (by omega)
  have hxx:=Dc hX.asc (Nat.lt_succ_self k) h1 h2
  have w1:=hX.within _ (List.mem_of_getElem? h1)
  have w2:=hX.within _ (List.mem_of_getElem? h2)
  obtain ⟨p1,p2⟩:=EU hX (c:=2097152) (by omega) hG (k:=k) (by omega)
  have hin:=Sc hv (show l.length≤1000 by omega) hY (show k≤1000 by omega) h1 h2 (by omega) ⟨w1,w2⟩ (ps (fun x=>pS (fun y=>one (cov l x y)) ys) xs k) (acc:=ps (fun x=>pS (fun y=>one (cov l x y)) ys) xs k) (by omega)
  have hk1:aE (k:Int) 1=((k+1:Nat):Int):=bH k (by omega)
  unfold fK
  have hd:decide (((k+1:Nat):Int)<(xs.length:Int))=true:=by rw [decide_eq_true_eq];omega
  simp only [hk1,hd,if_true,hin,Option.bind_some]
  rw [Kh _ h1 h2]
 ·rw [List.length_range,Dn]
  have hlen:=hX.len
  unfold fK
  have:aE ((xs.length-1:Nat):Int) 1=((xs.length-1+1:Nat):Int):=bH _ (by omega)
  have hd:decide (((xs.length-1+1:Nat):Int)<(xs.length:Int))=false:=by rw [decide_eq_false_iff_not];omega
  simp only [this,hd,Bool.false_eq_true,if_false]
end Go.SM
namespace Go.SM
open Go Go.VI
def inB (a b:Int) (r:aF):Prop:=a≤r.X∧r.X+r.W≤a+1048576∧b≤r.Y∧r.Y+r.H≤b+1048576
def qR (r:aF):aF:=⟨-(r.Y+r.H),r.X,r.H,r.W⟩
theorem GZ {r:aF} (h:vR r):vR (qR r):=by unfold vR at h ⊢;simp only [qR];omega
theorem GY {a b:Int} {r:aF} (h:inB a b r):inB (-(b+1048576)) a (qR r):=by unfold inB at h ⊢;simp only [qR];omega
def Good (a b:Int) (l:List aF):Prop:=l.length≤12∧∀ r ∈ l,vR r∧inB a b r
theorem Good.q {a b:Int} {l:List aF} (h:Good a b l):Good (-(b+1048576)) a (l.map qR):=by
 refine ⟨by rw [List.length_map];exact h.1,fun r hr=>?_⟩
 obtain ⟨x,hx,rfl⟩:=List.mem_map.1 hr
 exact ⟨GZ (h.2 x hx).1,GY (h.2 x hx).2⟩
def mvR (x y:Int) (r:aF):aF:=⟨aE r.X x,aE r.Y y,r.W,r.H⟩
structure Iso (g:aF→aF) (l:List aF):Prop where
 v:∀ a ∈ l,vR a→vR (g a)
 ov:∀ a ∈ l,∀ b ∈ l,mW (g a) (g b)=mW a b
 to:∀ a ∈ l,∀ b ∈ l,sZ (g a) (g b)=sZ a b
 de:∀ a ∈ l,∀ b ∈ l,Zc (g a) (g b)=Zc a b
 ze:∀ a ∈ l,∀ b ∈ l,CK (g a) (g b)=CK a b
 th:∀ a ∈ l,(((g a).W==1) || ((g a).H==1))=((a.W==1) || (a.H==1))
theorem Rt {g:aF→aF} {p:aF→aF→Bool} {l:List aF} (h:∀ a ∈ l,∀ b ∈ l,p (g a) (g b)=p a b) (k:Nat):Rs p (l.map g) k=Rs p l k:=by
 unfold Rs
 rw [List.getElem?_map]
 cases e:l[k]? with
 | none=>rfl
 | some x =>
   have hx:=List.mem_of_getElem? e
   simp only [Option.map_some]
   rw [← List.map_take,List.any_map,Bool.eq_iff_iff,List.any_eq_true,List.any_eq_true]
   constructor
   ·rintro ⟨y,hy,q⟩;exact ⟨y,hy,by rw [← h x hx y (List.mem_of_mem_take hy)];exact q⟩
   ·rintro ⟨y,hy,q⟩;exact ⟨y,hy,by show p (g x) (g y)=true;rw [h x hx y (List.mem_of_mem_take hy)];exact q⟩
theorem Uz {α β:Type} (g:α→β) (l:List α) (i:Int):idx (l.map g) i=(idx l i).map g:=by
 unfold idx
 split
 ·rw [List.getElem?_map]
 ·rfl
theorem CW {g:aF→aF} {l:List aF} (h:∀ a ∈ l,∀ b ∈ l,sZ (g a) (g b)=sZ a b):mO (l.map g)=mO l:=by
 have mem:∀ {i:Int} {x:aF},idx l i=some x→x ∈ l:=fun {i x} e=>by
  unfold idx at e
  split at e
  ·exact List.mem_of_getElem? e
  ·cases e
 have b2:∀ x:Int,nU (l.map g) x=nU l x:=by
  intro x
  funext s
  unfold nU
  rw [List.length_map,Uz,Uz]
  cases e1:idx l x with
  | none=>rfl
  | some u =>
    cases e2:idx l s.1 with
    | none=>rfl
    | some w =>
      simp only [Option.map_some,Option.bind_some]
      rw [h u (mem e1) w (mem e2)]
 have b3:nV (l.map g)=nV l:=by
  funext s
  unfold nV
  simp only [b2]
 unfold mO
 rw [List.length_map,b3]
structure VG (R C F:List aF):Prop where
 n1:R.length≤12
 n0:0<R.length
 n2:C.length≤12
 n3:F.length≤12
 v:∀ r ∈ R++(C++F),vR r
 ov:∀ k,k<R.length→Rs mW R k=false
 co:mO R=some true
 ho:∀ k,k<(C++F).length→∃ x,(C++F)[k]?=some x∧R.any (Zc x)=true∧(k<C.length→((x.W==1) || (x.H==1))=false)
 ze:∀ k,k<(C++F).length→Rs CK (C++F) k=false
theorem VG.map {R C F:List aF} {g:aF→aF} (h:VG R C F) (i:Iso g (R++(C++F))):VG (R.map g) (C.map g) (F.map g):=by
 have mR:∀ {a:aF},a ∈ R→a ∈ R++(C++F):=fun h=>List.mem_append.2 (.inl h)
 have mC:∀ {a:aF},a ∈ C++F→a ∈ R++(C++F):=fun h=>List.mem_append.2 (.inr h)
 refine ⟨by rw [List.length_map];exact h.n1,by rw [List.length_map];exact h.n0,by rw [List.length_map];exact h.n2,by rw [List.length_map];exact h.n3,fun r hr=>?_,fun k hk=>?_, ?_,fun k hk=>?_,fun k hk=>?_⟩
 ·rw [← List.map_append,← List.map_append] at hr
  obtain ⟨a,ha,rfl⟩:=List.mem_map.1 hr
  exact i.v a ha (h.v a ha)
 ·rw [Rt (fun a ha b hb=>i.ov a (mR ha) b (mR hb))]
  exact h.ov k (by rw [List.length_map] at hk;exact hk)
 ·rw [CW (fun a ha b hb=>i.to a (mR ha) b (mR hb))];exact h.co
 ·rw [← List.map_append,List.length_map] at hk
  obtain ⟨x,h1,h2,h3⟩:=h.ho k hk
  have hx:=List.mem_of_getElem? h1
  refine ⟨g x,by rw [← List.map_append,List.getElem?_map,h1];rfl, ?_,fun hc=>?_⟩
  ·obtain ⟨r,hr,q⟩:=List.any_eq_true.1 h2
   rw [List.any_eq_true]
   exact ⟨g r,List.mem_map_of_mem hr,by rw [i.de x (mC hx) r (mR hr)];exact q⟩
  ·rw [i.th x (mC hx)];exact h3 (by rw [List.length_map] at hc;exact hc)
 ·rw [← List.map_append] at hk ⊢
  rw [Rt (fun a ha b hb=>i.ze a (mC ha) b (mC hb))]
  exact h.ze k (by rw [List.length_map] at hk;exact hk)
def lo (l:List aF):Int×Int:=match l with
 | []=>(0,0)
 | r::_=>(GV l r.X,GW l r.Y)
theorem Rq {a b:List aF} (ha:a.length≤1000) (hb:b.length≤1000):lU a b=some (a.any fun x=>b.any (mW x)):=by
 have inner:∀ x,aJ (mP b x) 0=some (if b.any (mW x) then .inl () else .inr ()):=by
  intro x
  refine oX b (mP b x) (fun k=>(k:Int)) _ _ _ rfl (fun k y hy=>?_) ?_
  ·have hk:=(List.getElem?_eq_some_iff.1 hy).1
   unfold mP
   have h1:decide ((k:Int)<(b.length:Int))=true:=by simp;omega
   simp only [h1,if_true,bS hy,Option.bind_some,El]
   rw [aO (a:=(k:Int)) (by omega) (by omega)]
   rfl
  ·simp [mP]
 have key:aJ (mQ a b) 0=some (if (a.any fun x=>b.any (mW x)) then .inl () else .inr ()):=by
  refine oX a (mQ a b) (fun k=>(k:Int)) _ _ _ rfl (fun k x hx=>?_) ?_
  ·have hk:=(List.getElem?_eq_some_iff.1 hx).1
   unfold mQ
   have h1:decide ((k:Int)<(a.length:Int))=true:=by simp;omega
   simp only [h1,if_true,bS hx,Option.bind_some,inner]
   rw [aO (a:=(k:Int)) (by omega) (by omega)]
   cases b.any (mW x) <;> rfl
  ·simp [mQ]
 unfold lU
 rw [key]
 cases (a.any fun x=>b.any (mW x)) <;> rfl
end Go.SM
namespace Go.SM
open Go Go.VI Go.Cells
def lay (base:Nat→List aF) (items:List (Nat×List aF)) (k:Nat):List aF:=items.flatMap (fun it=>if it.1=k then it.2 else [])++base k
structure VS (s:bM):Prop where
 w:1≤s.aW∧s.aW≤1048576
 h:1≤s.aQ∧s.aQ≤1048576
 v:sL (s.aN++s.Used)
 i:∀ r ∈ s.aN++s.Used,0≤r.X∧r.X+r.W≤s.aW∧0≤r.Y∧r.Y+r.H≤s.aQ
 n1:s.aN.length≤4
 n2:s.Used.length≤48
end Go.SM
namespace Go.SM
open Go Go.VI
end Go.SM
namespace Go.SM
open Go Go.VI Go.Cells
theorem GR {s:bM} (h2:1≤s.aW∧s.aW≤1048576) (h3:1≤s.aQ∧s.aQ≤1048576) (n1:s.aN.length≤4) (n2:s.Used.length≤48) (v1:(s.aN.any fun x=>!decide (vR x))=false) (v2:(s.Used.any fun x=>!decide (vR x))=false) (o1:outs ⟨0,0,s.aW,s.aQ⟩ s.aN=false) (o2:outs ⟨0,0,s.aW,s.aQ⟩ s.Used=false):VS s:=by
 have hv:∀ {l:List aF},(l.any fun x=>!decide (vR x))=false→sL l:=fun {l} h r hr=>by
  have:=List.any_eq_false.1 h r hr
  simpa using this
 have hi:∀ {l:List aF},outs ⟨0,0,s.aW,s.aQ⟩ l=false→∀ r ∈ l,0≤r.X∧r.X+r.W≤s.aW∧0≤r.Y∧r.Y+r.H≤s.aQ:=fun {l} h r hr=>by
  have:=List.any_eq_false.1 h r hr
  have h2:xZ r ⟨0,0,s.aW,s.aQ⟩:=by simpa using this
  obtain ⟨_,_,a,b,c,d⟩:=h2
  simp only at a b c d
  omega
 refine ⟨h2,h3,fun r hr=>?_,fun r hr=>?_,n1,n2⟩
 ·rcases List.mem_append.1 hr with h | h
  ·exact hv v1 r h
  ·exact hv v2 r h
 ·rcases List.mem_append.1 hr with h | h
  ·exact hi o1 r h
  ·exact hi o2 r h
theorem Bx (s:bM):∃ b,bX s=some b∧dA s=some b∧(b=0→VS s):=by
 obtain ⟨a,ha,ha'⟩:=Cz s.Name
 obtain ⟨b,hb,hb'⟩:=Cz s.bA
 unfold bX dA
 rw [ha,hb,CH ha' hb']
 cases a with
 | false=>exact ⟨2,rfl,rfl,fun h=>absurd h (by decide)⟩
 | true =>
 cases b with
 | false=>exact ⟨2,rfl,rfl,fun h=>absurd h (by decide)⟩
 | true =>
 simp only [Option.bind_some,Rz,Pd,Bool.and_self,if_true,Bool.not_true,Bool.false_eq_true,if_false]
 by_cases h1:(1≤s.fT∧s.fT≤60)∧0≤s.fE∧s.fE≤2
 ·simp only [h1,and_self,decide_true,if_true,Option.bind_some]
  by_cases h2:1≤s.aW∧s.aW≤1048576
  ·by_cases h3:1≤s.aQ∧s.aQ≤1048576
   ·have q1:¬ s.aW<1:=by omega
    have q2:¬ s.aW>1048576:=by omega
    have q3:¬ s.aQ<1:=by omega
    have q4:¬ s.aQ>1048576:=by omega
    simp only [h2,h3,q1,q2,q3,q4,and_self,decide_true,decide_false,if_true,Option.bind_some,Bool.not_true,Bool.false_eq_true,if_false,bne_self_eq_false]
    by_cases h4:(s.aN.length:Int)>4
    ·exact ⟨4,by simp [h4],by simp [h4],fun h=>absurd h (by decide)⟩
    by_cases h5:(s.Used.length:Int)>48
    ·exact ⟨4,by simp [h5],by simp [h5],fun h=>absurd h (by decide)⟩
    simp only [h4,h5,decide_false,Bool.false_eq_true,if_false,Option.bind_some,Cy s.aN (by omega),Cy s.Used (by omega),Gz s.aN (by omega),Gz s.Used (by omega),Hj s s.aN (by omega),Hj s s.Used (by omega)]
    cases v1:(s.aN.any fun x=>!decide (vR x)) with
    | true=>exact ⟨1,rfl,rfl,fun h=>absurd h (by decide)⟩
    | false =>
    cases v2:(s.Used.any fun x=>!decide (vR x)) with
    | true=>exact ⟨1,rfl,rfl,fun h=>absurd h (by decide)⟩
    | false =>
    have hi:lT s 0=some (⟨0,0,s.aW,s.aQ⟩,decide (vR ⟨0,0,s.aW,s.aQ⟩)):=by
     unfold lT
     rw [mX]
     have e0:eG 2 0=0:=by rw [oW (by omega) (by omega)];rfl
     rw [e0,aR (by omega) (by omega),aR (by omega) (by omega),Int.sub_zero,Int.sub_zero]
     rfl
    simp only [hi,Option.bind_some,Rl s _ (show s.aN.length≤_ by omega) (show s.Used.length≤_ by omega),Bool.not_false,if_true,Bool.not_true,Bool.false_eq_true,if_false]
    cases o1:outs ⟨0,0,s.aW,s.aQ⟩ s.aN with
    | true=>exact ⟨13,rfl,rfl,fun h=>absurd h (by decide)⟩
    | false =>
    cases o2:outs ⟨0,0,s.aW,s.aQ⟩ s.Used with
    | true=>exact ⟨13,rfl,rfl,fun h=>absurd h (by decide)⟩
    | false=>exact ⟨0,rfl,rfl,fun _=>GR h2 h3 (by omega) (by omega) v1 v2 o1 o2⟩
   ·refine ⟨1,by simp [h2,h3], ?_,fun h=>absurd h (by decide)⟩
    by_cases q3:s.aQ<1
    ·simp [q3]
    ·have q4:s.aQ>1048576:=by omega
     simp [q3,q4]
  ·refine ⟨1,by simp [h2], ?_,fun h=>absurd h (by decide)⟩
   by_cases q3:s.aW<1
   ·simp [q3]
   ·have q4:s.aW>1048576:=by omega
    simp [q3,q4]
 ·exact ⟨1,by simp only [h1,decide_false];rfl,by simp only [h1,if_false];rfl,fun h=>absurd h (by decide)⟩
def Io (s:bM):Int:=s.aW*s.aQ-gE MM (cov (s.aN++s.Used))
theorem Oa {s:bM} (h:bX s=some 0):VS s∧rE s=some (Io s,0)∧lF s=some (Io s):=by
 obtain ⟨b,b1,_,b3⟩:=Bx s
 rw [h] at b1
 have v:=b3 (Option.some.inj b1).symm
 have n1:=v.n1
 have n2:=v.n2
 have ap1:app [] s.aN=some s.aN:=by rw [xU (by unfold LIM;simp;omega)];rfl
 have ap2:app s.aN s.Used=some (s.aN++s.Used):=xU (by unfold LIM;omega)
 have hl:(s.aN++s.Used).length≤100:=by simp;omega
 have c1:=tY (M:=MM) (cov (s.aN++s.Used));have c2:=tX (cov (s.aN++s.Used))
 have w:=v.w;have hh:=v.h
 have m1:s.aW*s.aQ≤1048576*1048576:=Int.mul_le_mul w.2 hh.2 (by omega) (by omega)
 have m0:0≤s.aW*s.aQ:=Int.mul_nonneg (by omega) (by omega)
 refine ⟨v, ?_, ?_⟩
 ·unfold rE
  rw [h]
  simp only [Option.bind_some,bne_self_eq_false,Bool.false_eq_true,if_false,ap1,ap2,CR (show _≤900 by omega) v.v]
  rw [oW (a:=s.aW) (b:=s.aQ) (by omega) (by omega),aR (a:=s.aW*s.aQ) (by omega) (by omega)]
  rfl
 ·unfold lF
  simp only [ap1,ap2,Option.bind_some,BJ v.v (show _≤400 by omega)]
  rw [oW (a:=s.aW) (b:=s.aQ) (by omega) (by omega),aR (a:=s.aW*s.aQ) (by omega) (by omega)]
  rfl
end Go.SM
namespace Go.SM
open Go Go.VI
set_option maxRecDepth 10000
theorem Ue (h:List Int):bV h=Ci (brC aV) h:=by kernel_rfl
theorem My (h:List Int):iT h=Eu (fun x y=>x==y) 0 h:=by kernel_rfl
def ltI (x y:Int):Bool:=decide (x<y)
theorem FB:Iz ltI where
 asymm x y h:=by unfold ltI at *;simp at *;omega
 neg x y z h:=by unfold ltI at *;simp at *;omega
theorem GS (x y:Int):aV x y=some (if x<y then -1 else if y<x then 1 else 0):=by
 unfold aV pO
 have e:∀ z:Int,(z != z)=false:=fun z=>by simp
 simp only [e,Option.bind_some,Bool.false_eq_true,if_false]
 by_cases h1:x<y
 ·simp [h1]
 ·by_cases h2:x>y
  ·have:y<x:=h2
   simp [h1,h2,this]
  ·have:¬ y<x:=h2
   simp [h1,h2,this]
theorem brI (β:Type) (x y:Int) (k:Bool→Option β):brC aV β x y k=k (ltI x y):=by
 unfold brC ltI
 rw [GS,Option.bind_some]
 congr 1
 by_cases h1:x<y
 ·simp [h1]
 ·by_cases h2:y<x <;> simp [h1,h2]
theorem Uf {l:List Int} (hl:l.length≤1073741824):∃ r,bV l=some r∧r.Perm l∧r.Pairwise fun x y=>ltI y x=false:=by
 rw [Ue]
 exact Sj (P:=fun _=>True) (d:=0) (fun β x y k _ _=>brI β x y k) FB ⟨by omega,fun _ _ _=>trivial⟩
theorem Gy {l:List Int} (hl:l.length≤1073741824):∃ r,cG l=some r∧r.Pairwise (fun x y=>x<y)∧∀ x,x ∈ r↔x ∈ l:=by
 obtain ⟨r,h1,h2,h3⟩:=Uf hl
 have hr:r.length=l.length:=h2.length_eq
 obtain ⟨q,q1,q2,q3⟩:=Sy FB (fun x y a b=>by unfold ltI at a b;simp at a b;omega) (eqb:=fun x y=>x==y) (fun x y=>by simp) (0:Int) (l:=r) (by omega) h3
 refine ⟨q, ?_,q2.imp (fun h=>by unfold ltI at h;simpa using h),fun x=>by rw [q3,h2.mem_iff]⟩
 unfold cG nP
 rw [xU (by simp [LIM];omega)]
 simp only [List.nil_append,Option.bind_some,h1,My,q1]
end Go.SM
namespace Go.SM
open Go Go.VI Go.Cells
theorem Lu {l:List aF} (hl:l.length≤60) (x y:Int):oK l x y=some (l.map (mvR x y)):=by
 unfold oK
 have hmk:mk (l.length:Int) (aF.mk 0 0 0 0)=some (List.replicate l.length ⟨0,0,0,0⟩):=by
  unfold mk;rw [if_pos (by unfold LIM;omega)];simp
 have hc:cpy (List.replicate l.length (aF.mk 0 0 0 0)) 0 (List.take (min l.length (List.replicate l.length (aF.mk 0 0 0 0)).length) l)=l:=by
  unfold cpy;simp
 rw [hmk]
 simp only [Option.bind_some,hc]
 have key:aJ (pV l x y (List.replicate l.length ⟨0,0,0,0⟩)) (0,l)=some (l.map (mvR x y)):=by
  refine Dl l (pV l x y (List.replicate l.length ⟨0,0,0,0⟩)) (fun k=>((k:Int),(l.take k).map (mvR x y)++l.drop k)) _ (fun k r hr=>?_) ?_
  ·have hk:=(List.getElem?_eq_some_iff.1 hr).1
   unfold pV
   rw [hc]
   have h1:decide ((k:Int)<(l.length:Int))=true:=by simp;omega
   have ht:((l.take k).map (mvR x y)).length=k:=by simp;omega
   have ed:l.drop k=r::l.drop (k+1):=by rw [List.drop_eq_getElem_cons hk];congr 1;exact (List.getElem?_eq_some_iff.1 hr).2
   have i1:∀ z:aF,idx ((l.take k).map (mvR x y)++z::l.drop (k+1)) (k:Int)=some z:=fun z=>bS (by rw [List.getElem?_append_right (by omega),ht];simp)
   have s1:∀ z z':aF,List.set ((l.take k).map (mvR x y)++z::l.drop (k+1)) k z'=(l.take k).map (mvR x y)++z'::l.drop (k+1):=fun z z'=>by rw [List.set_append_right _ _ (by omega),ht];simp
   simp only [h1,if_true,ed,i1,s1,Option.bind_some,Int.toNat_natCast]
   rw [aO (a:=(k:Int)) (by omega) (by omega)]
   have e:l.take (k+1)=l.take k++[r]:=by rw [List.take_add_one,hr];rfl
   rw [e,List.map_append,List.append_assoc]
   rfl
  ·unfold pV
   rw [hc]
   simp
 rw [key]
 rfl
theorem Vj {l:List aF} (hv:sL l):l.map (mvR 0 0)=l:=by
 have:∀ r ∈ l,mvR 0 0 r=r:=fun r hr=>by
  have h:=hv r hr
  unfold vR at h
  unfold mvR
  rw [aO (by omega) (by omega),aO (by omega) (by omega),Int.add_zero,Int.add_zero]
 rw [List.map_congr_left this,List.map_id']
def Ox (s:bM) (l:List aF) (k:Nat):Bool:=match l[k]? with
 | some x=>s.aN.any (mW x) || (s.Used.any (mW x) || (l.take k).any (mW x))
 | none=>false
structure Rem (s:bM) (l:List aF):Prop where
 val:bX s=some 0
 vs:VS s
 n:s.Used.length+l.length≤48
 v:sL l
 i:outs ⟨0,0,s.aW,s.aQ⟩ l=false
 d:(List.range l.length).any (Ox s l)=false
theorem Ov (s:bM) (l:List aF) (hl:l.length≤4611686018427387904):∃ r,uY s l=some r∧iR s l=some r∧((r.2.1≠0∧r.1=⟨ByteArray.empty,ByteArray.empty,0,0,0,0,[],[]⟩)∨(r.2.1=0∧Rem s l∧r.1=⟨s.Name,s.bA,s.fT,s.fE,s.aW,s.aQ,s.aN,s.Used++l⟩)):=by
 obtain ⟨b,b1,b2,b3⟩:=Bx s
 unfold uY iR
 rw [b1,b2]
 simp only [Option.bind_some]
 by_cases hb:b=0
 case neg =>
  have hb':(b != 0)=true:=by rw [bne_iff_ne];exact hb
  simp only [hb',if_true]
  exact ⟨_,rfl,rfl,.inl ⟨hb,rfl⟩⟩
 subst hb
 have v:=b3 rfl
 have n1:=v.n1
 have n2:=v.n2
 have w:=v.w;have hh:=v.h
 simp only [bne_self_eq_false,Bool.false_eq_true,if_false]
 have e1:aH 48 (s.Used.length:Int)=48-(s.Used.length:Int):=aR (by omega) (by omega)
 have e2:aE (s.Used.length:Int) (l.length:Int)=(s.Used.length:Int)+(l.length:Int):=aO (by omega) (by omega)
 rw [e1,e2]
 by_cases hn:s.Used.length+l.length≤48
 case neg =>
  have d1:decide ((l.length:Int)>48-(s.Used.length:Int))=true:=by rw [decide_eq_true_eq];omega
  have d2:decide ((s.Used.length:Int)+(l.length:Int)>48)=true:=by rw [decide_eq_true_eq];omega
  simp only [d1,d2,if_true]
  exact ⟨_,rfl,rfl,.inl ⟨by decide,rfl⟩⟩
 have d1:decide ((l.length:Int)>48-(s.Used.length:Int))=false:=by rw [decide_eq_false_iff_not];omega
 have d2:decide ((s.Used.length:Int)+(l.length:Int)>48)=false:=by rw [decide_eq_false_iff_not];omega
 simp only [d1,d2,Bool.false_eq_true,if_false,Cy l (by omega),Gz l (by omega),Option.bind_some,Hj s l (by omega)]
 cases hv:(l.any fun x=>!decide (vR x)) with
 | true=>exact ⟨_,rfl,rfl,.inl ⟨by decide,rfl⟩⟩
 | false =>
 have hvl:sL l:=fun r hr=>by
  have:=List.any_eq_false.1 hv r hr
  simpa using this
 have hi:lT s 0=some (⟨0,0,s.aW,s.aQ⟩,decide (vR ⟨0,0,s.aW,s.aQ⟩)):=by
  unfold lT
  rw [mX]
  have e0:eG 2 0=0:=by rw [oW (by omega) (by omega)];rfl
  rw [e0,aR (by omega) (by omega),aR (by omega) (by omega),Int.sub_zero,Int.sub_zero]
  rfl
 have l1:aJ (nF l (⟨0,0,s.aW,s.aQ⟩,decide (vR ⟨0,0,s.aW,s.aQ⟩))) 0=some (if outs ⟨0,0,s.aW,s.aQ⟩ l then .inl () else .inr ()):=by
  refine oX l (nF l (⟨0,0,s.aW,s.aQ⟩,decide (vR ⟨0,0,s.aW,s.aQ⟩))) (fun k=>(k:Int)) (fun x=>!decide (xZ x ⟨0,0,s.aW,s.aQ⟩)) _ _ rfl (fun k x hx=>?_) ?_
  ·have hk:=bG hx
   unfold nF
   have hd:decide ((k:Int)<(l.length:Int))=true:=by simp [hk]
   simp only [hd,if_true,bS hx,Option.bind_some,Np,bH k (by omega)]
  ·simp [nF]
 simp only [Bool.not_false,Bool.not_true,if_true,Bool.false_eq_true,if_false,hi,Option.bind_some,l1]
 cases ho:outs ⟨0,0,s.aW,s.aQ⟩ l with
 | true=>exact ⟨_,rfl,rfl,.inl ⟨by decide,rfl⟩⟩
 | false =>
 have cores:∀ k x,l[k]?=some x→Ox s l k=(s.aN.any (mW x) || (s.Used.any (mW x) || (l.take k).any (mW x))):=fun k x hx=>by unfold Ox;rw [hx]
 have l2:aJ (nG s l) 0=some (if (List.range l.length).any (Ox s l) then .inl () else .inr ()):=by
  refine zI l.length (nG s l) (fun k=>(k:Int)) (Ox s l) _ _ rfl (fun k hk=>?_) ?_
  ·have hx:l[k]?=some l[k]:=List.getElem?_eq_getElem hk
   have hsl:slc l 0 (k:Int)=some (l.take k):=Mn (by omega)
   unfold nG
   have hd:decide ((k:Int)<(l.length:Int))=true:=by simp [hk]
   have o:∀ b:List aF,b.length≤1000→lU [l[k]] b=some (b.any (mW l[k])):=fun b hb=>by
    rw [Rq (by simp) hb];simp
   simp only [hd,if_true,bS hx,Option.bind_some,o _ (show s.aN.length≤1000 by omega),o _ (show s.Used.length≤1000 by omega),hsl,o _ (show (l.take k).length≤1000 by simp;omega),cores k _ hx,bH k (by omega)]
   cases s.aN.any (mW l[k]) <;> cases s.Used.any (mW l[k]) <;> cases (l.take k).any (mW l[k]) <;> rfl
  ·simp [nG]
 have l3:aJ (eC s l) 0=some (if (List.range l.length).any (Ox s l) then .inl () else .inr ()):=by
  refine zI l.length (eC s l) (fun k=>(k:Int)) (Ox s l) _ _ rfl (fun k hk=>?_) ?_
  ·have hx:l[k]?=some l[k]:=List.getElem?_eq_getElem hk
   have hsl:slc l 0 (k:Int)=some (l.take k):=Mn (by omega)
   unfold eC
   have hd:decide ((k:Int)<(l.length:Int))=true:=by simp [hk]
   simp only [hd,if_true,bS hx,Option.bind_some,Ko _ _ (show s.aN.length≤1000 by omega),Ko _ _ (show s.Used.length≤1000 by omega),hsl,Ko _ _ (show (l.take k).length≤1000 by simp;omega),cores k _ hx,bH k (by omega)]
   cases s.aN.any (mW l[k]) <;> cases s.Used.any (mW l[k]) <;> cases (l.take k).any (mW l[k]) <;> rfl
  ·simp [eC]
 simp only [Bool.not_false,Bool.not_true,if_true,Bool.false_eq_true,if_false,Option.bind_some,l2,l3]
 cases hd:(List.range l.length).any (Ox s l) with
 | true=>exact ⟨_,rfl,rfl,.inl ⟨by decide,rfl⟩⟩
 | false =>
 have vc:sL s.aN:=fun r hr=>v.v r (List.mem_append.2 (.inl hr))
 have vu:sL s.Used:=fun r hr=>v.v r (List.mem_append.2 (.inr hr))
 have ap1:app [] s.aN=some s.aN:=by rw [xU (by unfold LIM;simp;omega)];rfl
 have ap2:app [] s.Used=some s.Used:=by rw [xU (by unfold LIM;simp;omega)];rfl
 have ap3:app s.Used l=some (s.Used++l):=xU (by unfold LIM;omega)
 simp only [Bool.false_eq_true,if_false,Lu (show s.aN.length≤60 by omega),Lu (show s.Used.length≤60 by omega),Vj vc,Vj vu,ap1,ap2,ap3,Option.bind_some]
 exact ⟨_,rfl,rfl,.inr ⟨rfl,⟨b1,v,hn,hvl,ho,hd⟩,rfl⟩⟩
theorem Ye {s:bM} {l:List aF} (h:Rem s l):bX ⟨s.Name,s.bA,s.fT,s.fE,s.aW,s.aQ,s.aN,s.Used++l⟩=some 0:=by
 have hval:=h.val
 obtain ⟨a,ha,_⟩:=Cz s.Name
 obtain ⟨b,hb,_⟩:=Cz s.bA
 have v:=h.vs
 have n1:=v.n1
 have n2:=v.n2
 have n:=h.n
 have w:=v.w;have hh:=v.h
 unfold bX at hval ⊢
 simp only at hval ⊢
 rw [ha,hb] at hval ⊢
 cases a with
 | false=>exact absurd (Option.some.inj hval) (by decide)
 | true =>
 cases b with
 | false=>exact absurd (Option.some.inj hval) (by decide)
 | true =>
 simp only [Option.bind_some,Rz,Pd,if_true,Bool.not_true,Bool.false_eq_true,if_false] at hval ⊢
 by_cases h1:(1≤s.fT∧s.fT≤60)∧0≤s.fE∧s.fE≤2
 case neg =>
  simp only [h1,decide_false] at hval
  exact absurd (Option.some.inj hval) (by decide)
 have hnv:∀ L:List aF,sL L→(L.any fun x=>!decide (vR x))=false:=fun L hL=>by
  rw [List.any_eq_false]
  intro r hr
  simp [hL r hr]
 have vc:sL s.aN:=fun r hr=>v.v r (List.mem_append.2 (.inl hr))
 have vu:sL (s.Used++l):=fun r hr=>by
  rcases List.mem_append.1 hr with hr | hr
  ·exact v.v r (List.mem_append.2 (.inr hr))
  ·exact h.v r hr
 have hw:vR ⟨0,0,s.aW,s.aQ⟩:=by unfold vR;simp only;omega
 have hin:∀ r ∈ s.aN++s.Used,xZ r ⟨0,0,s.aW,s.aQ⟩:=fun r hr=>by
  have:=v.i r hr
  refine ⟨v.v r hr,hw, ?_⟩
  simp only;omega
 have oc:outs ⟨0,0,s.aW,s.aQ⟩ s.aN=false:=by
  unfold outs;rw [List.any_eq_false]
  intro r hr
  simp [hin r (List.mem_append.2 (.inl hr))]
 have ou:outs ⟨0,0,s.aW,s.aQ⟩ (s.Used++l)=false:=by
  unfold outs;rw [List.any_append,Bool.or_eq_false_iff]
  refine ⟨?_,h.i⟩
  rw [List.any_eq_false]
  intro r hr
  simp [hin r (List.mem_append.2 (.inr hr))]
 have hi:lT ⟨s.Name,s.bA,s.fT,s.fE,s.aW,s.aQ,s.aN,s.Used++l⟩ 0=some (⟨0,0,s.aW,s.aQ⟩,decide (vR ⟨0,0,s.aW,s.aQ⟩)):=by
  unfold lT
  rw [mX]
  have e0:eG 2 0=0:=by rw [oW (by omega) (by omega)];rfl
  simp only
  rw [e0,aR (by omega) (by omega),aR (by omega) (by omega),Int.sub_zero,Int.sub_zero]
  rfl
 have h4:¬ (s.aN.length:Int)>4:=by omega
 have h5:¬ ((s.Used++l).length:Int)>48:=by rw [List.length_append];omega
 have hl2:(s.Used++l).length≤100:=by rw [List.length_append];omega
 have i2:=Rl ⟨s.Name,s.bA,s.fT,s.fE,s.aW,s.aQ,s.aN,s.Used++l⟩ (⟨0,0,s.aW,s.aQ⟩,decide (vR ⟨0,0,s.aW,s.aQ⟩)) (show s.aN.length≤_ by omega) (show (s.Used++l).length≤_ by omega)
 simp only at i2
 rw [oc,ou] at i2
 simp only [h1,w,hh,and_self,decide_true,if_true,Option.bind_some,Bool.not_true,Bool.false_eq_true,if_false,h4,h5,decide_false,Cy s.aN (by omega),Cy (s.Used++l) (by omega),hnv _ vc,hnv _ vu,Bool.not_false,hi,i2]
 rfl
theorem Ym {s:bM} {l:List aF} (h:Rem s l):gE MM (cov (s.aN++(s.Used++l)))=gE MM (cov (s.aN++s.Used))+gE MM (cov l):=by
 refine Wh (fun x y=>by rw [← List.append_assoc,Kz]) fun x y h1 h2=>?_
 obtain ⟨b,hb,cb⟩:=Uq.1 h1
 obtain ⟨r,hr,cr⟩:=Uq.1 h2
 obtain ⟨k,hk⟩:=List.mem_iff_getElem?.1 hr
 have hd:=List.any_eq_false.1 h.d k (List.mem_range.2 (bG hk))
 unfold Ox at hd
 rw [hk] at hd
 simp only [Bool.or_eq_true,not_or] at hd
 have hov:mW r b=true:=by
  unfold mW
  rw [decide_eq_true_eq]
  exact (Rp (h.v r hr) (h.vs.v b hb)).2 ⟨x,y,cr,cb⟩
 rcases List.mem_append.1 hb with hb | hb
 ·exact hd.1 (List.any_eq_true.2 ⟨b,hb,hov⟩)
 ·exact hd.2.1 (List.any_eq_true.2 ⟨b,hb,hov⟩)
theorem Zr {s:bM} {l:List aF} (h:Rem s l):rE ⟨s.Name,s.bA,s.fT,s.fE,s.aW,s.aQ,s.aN,s.Used++l⟩=some (Io s-gE MM (cov l),0):=by
 obtain ⟨_,f1,_⟩:=Oa (Ye h)
 rw [f1]
 unfold Io
 simp only
 rw [Ym h]
 congr 2
 omega
theorem Cu (a:List aF) (h:a.length≤1048576):eL a a=some true:=by
 unfold eL
 simp only [bne_self_eq_false,Bool.false_eq_true,if_false]
 rw [Co a (fD a a) (fun _=>true) (.inl ()) (.inr ()) (fun k x hx=>?s) ?f]
 ·simp
 case s =>
  have h1:=bG hx
  unfold fD
  simp [h1,bS hx,bH k (show (k:Int)<9223372036854775807 by omega)]
 case f=>simp [fD]
theorem Cv (s:bM) (h1:s.aN.length≤1048576) (h2:s.Used.length≤1048576):gL s s=some true:=by
 unfold gL
 simp [Cu _ h1,Cu _ h2]
def Cx (l:List aF):Bool:=l.all fun r=>decide (vR r)
theorem Uj {l:List aF}:Cx l=true↔sL l:=by unfold Cx sL;simp
def mat {β:Type} (xs ys:List Int) (p:Int→Int→β):List (List β):=xs.dropLast.map fun x=>ys.dropLast.map fun y=>p x y
def Fm (lists:List (List aF)):Int:=if lists.any (fun l=>decide (l.length>48)) then 4 else if lists.all Cx then 0 else 1
theorem BL {lists:List (List aF)} (hl:lists.length≤10):Am lists=some (Fm lists):=by
 unfold Am Fm
 rw [Co lists (tL lists) (fun l=>!decide (l.length>48)) (.inl ()) (.inr ()) (fun k x hx=>?s1) ?f1]
 case s1 =>
  have h1:decide ((k:Int)<(lists.length:Int))=true:=by simp [bG hx]
  unfold tL
  simp only [h1,if_true,bS hx,Option.bind_some,bH k (by have:=bG hx;omega)]
  by_cases h:x.length>48
  ·have:(x.length:Int)>48:=by omega
   simp [h,this]
  ·have:¬ (x.length:Int)>48:=by omega
   simp [h,this]
 case f1=>simp [tL]
 by_cases ha:lists.any (fun l=>decide (l.length>48))=true
 ·have:lists.all (fun l=>!decide (l.length>48))=false:=by
   rw [List.all_eq_not_any_not,Bool.not_eq_false']
   simpa using ha
  rw [this,ha];rfl
 ·have h2:lists.all (fun l=>!decide (l.length>48))=true:=by
   rw [List.all_eq_not_any_not]
   simpa using ha
  have h48:∀ l ∈ lists,l.length≤48:=fun l hl=>by
   have:=List.all_eq_true.1 h2 l hl
   simpa using this
  rw [h2,if_pos rfl,Bool.eq_false_iff.2 ha]
  simp only [Option.bind_some,Bool.false_eq_true,if_false]
  rw [Co lists (tO lists) Cx (.inl ()) (.inr ()) (fun k x hx=>?s2) ?f2]
  case s2 =>
   have h1:decide ((k:Int)<(lists.length:Int))=true:=by simp [bG hx]
   have hx48:=h48 x (List.mem_of_getElem? hx)
   unfold tO
   simp only [h1,if_true,bS hx,Option.bind_some,bH k (by have:=bG hx;omega)]
   rw [Co x (tM x) (fun r=>decide (vR r)) (.inl ()) (.inr ()) (fun k x hx=>?s3) ?f3]
   case s3 =>
    have h1:=bG hx
    unfold tM
    rw [if_pos (by simp;omega),bS hx]
    simp only [Option.bind_some,mX,bH k (by omega)]
    cases decide (vR x) <;> rfl
   case f3=>simp [tM]
   unfold Cx
   cases x.all (fun r=>decide (vR r)) <;> rfl
  case f2=>simp [tO]
  cases lists.all Cx <;> rfl
theorem Ni {l:List aF} (hv:sL l) (hl:l.length≤1000) (a b:List Int) (ha:a.length≤10000) (hb:b.length≤10000) :
  aJ (nD l) (0,a,b)=some (a++xsL l,b++ysL l):=by
 obtain ⟨r,q1,q2⟩:=uD l (fun k (s:List Int×List Int)=>((k:Int),s.1,s.2)) (nD l) (fun s=>(s.1,s.2)) (fun k s=>s=(a++xsL (l.take k),b++ysL (l.take k))) (a,b) (by simp [xsL,ysL])
  (fun k x s hx hI=>by
   have h1:=bG hx
   have hd:decide ((k:Int)<(l.length:Int))=true:=by simp [h1]
   obtain ⟨e1,e2⟩:=Ih (hv x (List.mem_of_getElem? hx))
   subst hI
   unfold nD
   simp only [hd,if_true,bS hx,Option.bind_some,e1,e2]
   rw [xU (by simp [Qa,LIM];omega),xU (by simp [Qc,LIM];omega)]
   simp only [Option.bind_some,bH k (by omega)]
   refine ⟨(a++xsL (l.take (k+1)),b++ysL (l.take (k+1))), ?_,rfl⟩
   rw [tG hx,Ms,Mt]
   simp [xsL,ysL]) (fun s _=>by simp [nD])
 rw [List.take_length] at q2
 rw [show ((0:Int),a,b)=(((0:Nat):Int),(a,b).1,(a,b).2) from rfl,q1,q2]
theorem Tl {lists:List (List aF)} (hn:lists.length≤2) (hv:∀ l ∈ lists,sL l∧l.length≤200) :
  ∃ xs ys,uU lists=some ⟨xs,ys⟩∧xS xs (lists.flatMap xsL)∧xS ys (lists.flatMap ysL):=by
 have hlen:∀ ls:List (List aF),(∀ l ∈ ls,l.length≤200)→(ls.flatMap xsL).length≤400*ls.length∧(ls.flatMap ysL).length≤400*ls.length:=fun ls=>by
  induction ls with
  | nil=>intro _;simp
  | cons l ls ih =>
    intro h
    have:=ih fun x hx=>h x (List.mem_cons_of_mem _ hx)
    have:=h l List.mem_cons_self
    simp only [List.flatMap_cons,List.length_append,Qa,Qc,List.length_cons]
    omega
 obtain ⟨r,q1,q2⟩:=uD lists (fun k (s:List Int×List Int)=>((k:Int),s.1,s.2)) (qD lists) (fun s=>(s.1,s.2)) (fun k s=>s=((lists.take k).flatMap xsL,(lists.take k).flatMap ysL)) ([],[]) (by simp)
  (fun k x s hx hI=>by
   have h1:=bG hx
   have hd:decide ((k:Int)<(lists.length:Int))=true:=by simp [h1]
   obtain ⟨v1,v2⟩:=hv x (List.mem_of_getElem? hx)
   have hl:=hlen (lists.take k) fun l hl=>(hv l (List.mem_of_mem_take hl)).2
   have:(lists.take k).length≤2:=by rw [List.length_take];omega
   subst hI
   unfold qD
   simp only [hd,if_true,bS hx,Option.bind_some,Ni v1 (show x.length≤1000 by omega) _ _ (show ((lists.take k).flatMap xsL).length≤10000 by omega) (show ((lists.take k).flatMap ysL).length≤10000 by omega),bH k (by omega)]
   refine ⟨((lists.take k).flatMap xsL++xsL x,(lists.take k).flatMap ysL++ysL x),rfl, ?_⟩
   rw [tG hx,List.flatMap_append,List.flatMap_append]
   simp) (fun s _=>by simp [qD])
 rw [List.take_length] at q2
 have hl:=hlen lists fun l hl=>(hv l hl).2
 obtain ⟨xs,x1,x2,x3⟩:=Gy (l:=lists.flatMap xsL) (by omega)
 obtain ⟨ys,y1,y2,y3⟩:=Gy (l:=lists.flatMap ysL) (by omega)
 refine ⟨xs,ys, ?_,⟨x2,x3⟩,⟨y2,y3⟩⟩
 unfold uU
 rw [show ((0:Int),([]:List Int),([]:List Int))=(((0:Nat):Int),(([],[]):List Int×List Int).1,(([],[]):List Int×List Int).2) from rfl,q1,q2]
 simp only [Option.bind_some,x1,y1]
theorem uS {α:Type} {l:List α} {k:Nat} {x:α} (h:l.dropLast[k]?=some x):l[k]?=some x∧k+1<l.length:=by
 have:=bG h
 rw [List.length_dropLast] at this
 rw [List.getElem?_dropLast,if_pos (by omega)] at h
 exact ⟨h,by omega⟩
theorem Il {α:Type} {l:List α} {k:Nat} (h:k+1<l.length):l.dropLast[k]?=l[k]?:=by
 rw [List.getElem?_dropLast,if_pos (by omega)]
theorem Rc {β:Type} {R:List β} {z v:β} {j:Nat} (h:R[j]?=some v):(R.take j++List.replicate (R.length-j) z)[j]?=some z:=by
 have:=bG h
 rw [List.getElem?_append_right (by rw [List.length_take];omega),List.length_take,List.getElem?_replicate,if_pos (by omega)]
theorem Re {β:Type} {R:List β} {z v:β} {j:Nat} (h:R[j]?=some v):(R.take j++List.replicate (R.length-j) z).set j v=R.take (j+1)++List.replicate (R.length-(j+1)) z:=by
 have:=bG h
 rw [List.set_append_right _ _ (by rw [List.length_take];omega),List.length_take,show j-min j R.length=0 from by omega,tG h,show R.length-j=R.length-(j+1)+1 from by omega,List.replicate_succ,List.set_cons_zero,List.append_assoc]
 rfl
theorem Ml {β:Type} {l:List β} {i:Nat} {v:β} (h:l[i]?=some v):l.set i v=l:=by
 refine List.ext_getElem? fun n=>?_
 rw [List.getElem?_set]
 split
 ·rename_i e;subst e
  rw [if_pos (bG h),h]
 ·rfl
theorem Pm {β:Type} (xs ys:List Int) (p:Int→Int→β):(mat xs ys p).length=xs.length-1:=by simp [mat]
theorem Ve {β:Type} {xs ys:List Int} {p:Int→Int→β} {i:Nat} {x:Int} (hx:xs[i]?=some x) (hi:i+1<xs.length):(mat xs ys p)[i]?=some (ys.dropLast.map fun y=>p x y):=by
 unfold mat
 rw [List.getElem?_map,Il hi,hx];rfl
theorem Vt {β:Type} {ys:List Int} {q:Int→β} {j:Nat} {y:Int} (hy:ys[j]?=some y) (hj:j+1<ys.length):(ys.dropLast.map q)[j]?=some (q y):=by
 rw [List.getElem?_map,Il hj,hy];rfl
theorem Sz {xs ys:List Int} {l:List aF} (hv:sL l) (hl:l.length≤1000) (hx:xs.length≤1000) (hy:ys.length≤1000) (hxy:2≤xs.length→1≤ys.length) :
  nQ ⟨xs,ys⟩ l=some (mat xs ys (cov l)):=by
 -- a cell
 have cell:∀ (i j:Nat) (x y:Int) (base b1 b2:List (List Bool)) (row:List Bool),xs[i]?=some x→ys[j]?=some y→base[i]?=some row→row[j]?=some false →
   aJ (iI ⟨xs,ys⟩ l ((i:Int),b1) ((j:Int),b2)) (0,base)=some (base.set i (row.set j (cov l x y))):=fun i j x y base b1 b2 row hx hy hb hr=>by
  obtain ⟨r,q1,q2⟩:=uD l (fun k (s:List (List Bool))=>((k:Int),s)) (iI ⟨xs,ys⟩ l ((i:Int),b1) ((j:Int),b2)) (fun s=>s) (fun k s=>s=base.set i (row.set j (cov (l.take k) x y))) base (by
    rw [show cov (l.take 0) x y=false from rfl,Ml hr,Ml hb])
   (fun k r s hr' hI=>by
    have h1:=bG hr'
    have hd:decide ((k:Int)<(l.length:Int))=true:=by simp [h1]
    obtain ⟨e1,e2⟩:=Ih (hv r (List.mem_of_getElem? hr'))
    have hi:=bG hb
    have hj:=bG hr
    have g1:(base.set i (row.set j (cov (l.take k) x y)))[i]?=some (row.set j (cov (l.take k) x y)):=by rw [List.getElem?_set,if_pos rfl,if_pos hi]
    have g2:(row.set j (cov (l.take k) x y))[j]?=some (cov (l.take k) x y):=by rw [List.getElem?_set,if_pos rfl,if_pos hj]
    have hc:cov (l.take (k+1)) x y=(cov (l.take k) x y || inC r x y):=by rw [tG hr'];simp [cov]
    subst hI
    unfold iI
    simp only [hd,if_true,bS hr',bS hx,bS hy,Option.bind_some,e1,e2]
    have hb':(if decide (r.X≤x) then (if decide (x<r.X+r.W) then (if decide (r.Y≤y) then some (decide (y<r.Y+r.H)) else some false) else some false) else some false)=some (inC r x y):=by
     unfold inC
     cases decide (r.X≤x) <;> cases decide (x<r.X+r.W) <;> cases decide (r.Y≤y) <;> simp
    rw [hb',Option.bind_some]
    cases hin:inC r x y with
    | false =>
      simp only [Bool.false_eq_true,if_false,iH,bH k (by omega)]
      refine ⟨_,rfl, ?_⟩
      rw [hc,hin,Bool.or_false]
    | true =>
      simp only [if_true,bS g1,bS g2,Option.bind_some,iH,bH k (by omega),Int.toNat_natCast]
      refine ⟨_,rfl, ?_⟩
      rw [hc,hin,Bool.or_true,List.set_set,List.set_set]) (fun s _=>by simp [iI])
  rw [List.take_length] at q2
  rw [show ((0:Int),base)=(((0:Nat):Int),base) from rfl,q1,q2]
 -- a column
 have col:∀ (i:Nat) (x:Int) (base b1:List (List Bool)),xs[i]?=some x→base[i]?=some (List.replicate (ys.length-1) false) →
   aJ (iJ ⟨xs,ys⟩ l ((i:Int),b1) (List.replicate (ys.length-1) false)) (0,base)=some (base.set i (ys.dropLast.map fun y=>cov l x y)):=fun i x base b1 hx hb=>by
  obtain ⟨R,hR⟩:∃ R,(ys.dropLast.map fun y=>cov l x y)=R:=⟨_,rfl⟩
  have hRl:R.length=ys.length-1:=by rw [← hR];simp
  have hi:=bG hb
  obtain ⟨r,q1,q2⟩:=uD ys.dropLast (fun k (s:List (List Bool))=>((k:Int),s)) (iJ ⟨xs,ys⟩ l ((i:Int),b1) (List.replicate (ys.length-1) false)) (fun s=>s) (fun k s=>s=base.set i (R.take k++List.replicate (R.length-k) false)) base (by
    rw [List.take_zero,List.nil_append,Nat.sub_zero,hRl,Ml hb])
   (fun k y s hy' hI=>by
    obtain ⟨gy,ky⟩:=uS hy'
    have hd:decide ((k:Int)<((List.replicate (ys.length-1) false).length:Int))=true:=by simp;omega
    have hRk:R[k]?=some (cov l x y):=by rw [← hR];exact Vt gy ky
    subst hI
    have gb:(base.set i (R.take k++List.replicate (R.length-k) false))[i]?=some (R.take k++List.replicate (R.length-k) false):=by rw [List.getElem?_set,if_pos rfl,if_pos hi]
    unfold iJ
    simp only [hd,if_true,cell i k x y _ b1 (base.set i (R.take k++List.replicate (R.length-k) false)) _ hx gy gb (Rc hRk),Option.bind_some,bH k (by omega)]
    refine ⟨_,rfl, ?_⟩
    rw [List.set_set,Re hRk]) (fun s _=>by simp [iJ])
  rw [List.length_dropLast,← hRl,List.take_length,Nat.sub_self,List.replicate_zero,List.append_nil] at q2
  rw [show ((0:Int),base)=(((0:Nat):Int),base) from rfl,q1,q2,hR]
 obtain ⟨R,hR⟩:∃ R,mat xs ys (cov l)=R:=⟨_,rfl⟩
 have hRl:R.length=xs.length-1:=by rw [← hR,Pm]
 have hmk:mk (imax 0 (aH (xs.length:Int) 1)) ([]:List Bool)=some (List.replicate (xs.length-1) []):=by
  rw [aR (by omega) (by omega),Va]
  unfold mk
  rw [if_pos ⟨by omega,by simp [LIM];omega⟩,show (max 0 ((xs.length:Int)-1)).toNat=xs.length-1 from by omega]
 obtain ⟨r,q1,q2⟩:=uD xs.dropLast (fun k (s:List (List Bool))=>((k:Int),s)) (kT ⟨xs,ys⟩ l (List.replicate (xs.length-1) [])) (fun s=>s) (fun k s=>s=R.take k++List.replicate (R.length-k) []) (List.replicate (xs.length-1) []) (by
   rw [List.take_zero,List.nil_append,Nat.sub_zero,hRl])
  (fun k x s hx' hI=>by
   obtain ⟨gx,kx⟩:=uS hx'
   have hd:decide ((k:Int)<((List.replicate (xs.length-1) ([]:List Bool)).length:Int))=true:=by simp;omega
   have hRk:R[k]?=some (ys.dropLast.map fun y=>cov l x y):=by rw [← hR];exact Ve gx kx
   have hy1:=hxy (by omega)
   have hmk:mk (aH (ys.length:Int) 1) false=some (List.replicate (ys.length-1) false):=by
    rw [aR (by omega) (by omega)]
    unfold mk
    rw [if_pos ⟨by omega,by simp [LIM];omega⟩,show ((ys.length:Int)-1).toNat=ys.length-1 from by omega]
   have hkR:=bG hRk
   have g0:s[k]?=some []:=by rw [hI];exact Rc hRk
   have hks:=bG g0
   have g1:(s.set k (List.replicate (ys.length-1) false))[k]?=some (List.replicate (ys.length-1) false):=by rw [List.getElem?_set,if_pos rfl,if_pos hks]
   unfold kT
   simp only [hd,if_true,hmk,Option.bind_some,bS g0,Int.toNat_natCast,bS g1,col k x _ s gx g1,bH k (by omega)]
   refine ⟨_,rfl, ?_⟩
   rw [List.set_set,hI,Re hRk]) (fun s _=>by simp [kT])
 rw [List.length_dropLast,← hRl,List.take_length,Nat.sub_self,List.replicate_zero,List.append_nil] at q2
 unfold nQ
 rw [hmk,Option.bind_some,show ((0:Int),List.replicate (xs.length-1) ([]:List Bool))=(((0:Nat):Int),List.replicate (xs.length-1) []) from rfl,q1,q2,hR]
 rfl
section
variable {xs ys:List Int} (hX:Kn xs) (hY:Kn ys) (p:Int→Int→Bool)
include hX hY
theorem Sw {i:Nat} {x x':Int} (hx:xs[i]?=some x) (hx':xs[i+1]?=some x') (s s0:Int) (h0:0≤s0) (h1:s0≤8796093022208) :
  aJ (rK ⟨xs,ys⟩ (s,(i:Int)) (ys.dropLast.map fun y=>p x y)) (s0,0)=some (s0+(x'-x)*pS (fun y=>one (p x y)) ys):=by
 have hxx:=Dc hX.asc (Nat.lt_succ_self i) hx hx'
 have wx:=hX.within x (List.mem_of_getElem? hx)
 have wx':=hX.within x' (List.mem_of_getElem? hx')
 have hi:=bG hx
 have hXl:=hX.len
 have hYl:=hY.len
 obtain ⟨r,q1,q2⟩:=uD ys.dropLast (fun k (a:Int)=>(a,(k:Int))) (rK ⟨xs,ys⟩ (s,(i:Int)) (ys.dropLast.map fun y=>p x y)) (fun a=>a) (fun k a=>a=s0+(x'-x)*ps (fun y=>one (p x y)) ys k) s0 (by simp [ps,wO])
  (fun k y a hy hI=>by
   obtain ⟨gy,ky⟩:=uS hy
   have kl:=bG hy
   obtain ⟨y',gy'⟩:∃ y',ys[k+1]?=some y':=⟨_,List.getElem?_eq_getElem ky⟩
   have hyy:=Dc hY.asc (Nat.lt_succ_self k) gy gy'
   have wy:=hY.within y (List.mem_of_getElem? gy)
   have wy':=hY.within y' (List.mem_of_getElem? gy')
   have hd:decide ((k:Int)<((ys.dropLast.map fun y=>p x y).length:Int))=true:=by rw [List.length_map,List.length_dropLast];simp;omega
   have e1:aH x' x=x'-x:=aR (by omega) (by omega)
   have e2:aH y' y=y'-y:=aR (by omega) (by omega)
   have m1:0≤(x'-x)*(y'-y):=Int.mul_nonneg (by omega) (by omega)
   have m2:(x'-x)*(y'-y)≤2097152*2097152:=Int.mul_le_mul (by omega) (by omega) (by omega) (by omega)
   have e3:eG (x'-x) (y'-y)=(x'-x)*(y'-y):=oW (by omega) (by omega)
   obtain ⟨b1,b2⟩:=Cr hY.asc (g:=fun y=>one (p x y)) (c:=1) (by omega) (fun y=>one_le _) k (by omega)
   obtain ⟨y0,gy0⟩:∃ y0,ys[0]?=some y0:=⟨_,List.getElem?_eq_getElem (by omega)⟩
   rw [nR gy,nR gy0] at b2
   have wy0:=hY.within y0 (List.mem_of_getElem? gy0)
   have m3:0≤(x'-x)*ps (fun y=>one (p x y)) ys k:=Int.mul_nonneg (by omega) b1
   have m4:(x'-x)*ps (fun y=>one (p x y)) ys k≤2097152*2097152:=Int.mul_le_mul (by omega) (by omega) b1 (by omega)
   have st:=Kh (fun y=>one (p x y)) gy gy'
   unfold rK
   have hrow:=Vt (q:=fun y=>p x y) gy ky
   have si:aE (i:Int) 1=((i+1:Nat):Int):=bH i (by omega)
   have sk:aE (k:Int) 1=((k+1:Nat):Int):=bH k (by omega)
   simp only [hd,if_true,bS hrow,Option.bind_some,si,sk,bS hx,bS hx',bS gy,bS gy',e1,e2,e3,uT]
   subst hI
   cases hp:p x y with
   | true =>
     simp only [if_true]
     rw [aO (by omega) (by omega)]
     refine ⟨_,rfl, ?_⟩
     rw [st,hp,show one true=1 from rfl]
     grind
   | false =>
     simp only [Bool.false_eq_true,if_false]
     refine ⟨_,rfl, ?_⟩
     rw [st,hp,show one false=0 from rfl,Int.mul_zero,Int.add_zero]) (fun a _=>by simp [rK])
 rw [List.length_dropLast,Dn] at q2
 rw [show (s0,(0:Int))=(s0,((0:Nat):Int)) from rfl,q1,q2]
theorem Wj:aJ (rL ⟨xs,ys⟩ (mat xs ys p)) (0,0)=some (pS (fun x=>pS (fun y=>one (p x y)) ys) xs):=by
 have hXl:=hX.len
 have hg:=fun x=>Lj hY (g:=fun y=>one (p x y)) (c:=1) (by omega) (fun y=>one_le _)
 obtain ⟨r,q1,q2⟩:=uD xs.dropLast (fun k (a:Int)=>(a,(k:Int))) (rL ⟨xs,ys⟩ (mat xs ys p)) (fun a=>a) (fun k a=>a=ps (fun x=>pS (fun y=>one (p x y)) ys) xs k) 0 (by simp [ps,wO])
  (fun k x a hx hI=>by
   obtain ⟨gx,kx⟩:=uS hx
   have kl:=bG hx
   obtain ⟨x',gx'⟩:∃ x',xs[k+1]?=some x':=⟨_,List.getElem?_eq_getElem kx⟩
   obtain ⟨b1,b2⟩:=Cr hX.asc (g:=fun x=>pS (fun y=>one (p x y)) ys) (c:=2097152) (by omega) (fun x=>by have:=hg x;omega) k (by omega)
   obtain ⟨x0,gx0⟩:∃ x0,xs[0]?=some x0:=⟨_,List.getElem?_eq_getElem (by omega)⟩
   rw [nR gx,nR gx0] at b2
   have wx:=hX.within x (List.mem_of_getElem? gx)
   have wx0:=hX.within x0 (List.mem_of_getElem? gx0)
   have hd:decide ((k:Int)<((mat xs ys p).length:Int))=true:=by rw [Pm];simp;omega
   unfold rL
   subst hI
   simp only [hd,if_true,bS (Ve gx kx),Option.bind_some,Sw hX hY p gx gx' _ _ b1 (by omega),bH k (by omega)]
   exact ⟨_,rfl,(Kh _ gx gx').symm⟩) (fun a _=>by
   have:¬ ((xs.dropLast.length:Nat):Int)<((mat xs ys p).length:Int):=by rw [Pm];simp
   unfold rL
   simp only [this,decide_false,Bool.false_eq_true,if_false])
 rw [List.length_dropLast,Dn] at q2
 rw [show ((0:Int),(0:Int))=(0,((0:Nat):Int)) from rfl,q1,q2]
end
section
variable {xs ys:List Int} {l:List aF} (h:Has xs ys l)
include h
omit h in
end
theorem Wz {xs ys:List Int} {l:List aF} (hx:xS xs (xsL l)) (hy:xS ys (ysL l)):2≤xs.length→1≤ys.length:=fun h=>by
 cases l with
 | nil =>
   have:xs=[]:=by
    cases xs with
    | nil=>rfl
    | cons a t=>exact absurd ((hx.2 a).1 List.mem_cons_self) (by simp [xsL])
   rw [this] at h;simp at h
 | cons r l =>
   have:=(hy.2 r.Y).2 (Mu List.mem_cons_self).1
   cases ys with
   | nil=>simp at this
   | cons=>simp
def Yl (l:List aF):Int×Int:=if Fm [l]=0 then (gE MM (cov l),0) else (0,Fm [l])
theorem Zb {l:List aF}:Fm [l]=0→l.length≤48∧sL l:=by
 unfold Fm
 simp only [List.any_cons,List.any_nil,Bool.or_false,List.all_cons,List.all_nil,Bool.and_true,decide_eq_true_eq]
 intro h
 split at h
 ·cases h
 ·split at h
  ·rename_i q;exact ⟨by omega,Uj.1 q⟩
  ·cases h
theorem CL (l:List aF):yQ l=some (Yl l):=by
 unfold yQ Yl
 rw [BL (by simp),Option.bind_some]
 by_cases hc:Fm [l]=0
 case neg=>simp [hc]
 obtain ⟨hl,hv⟩:=Zb hc
 obtain ⟨xs,ys,g1,g2,g3⟩:=Tl (lists:=[l]) (by simp) (fun x hx=>by simp at hx;subst hx;exact ⟨hv,by omega⟩)
 simp only [List.flatMap_cons,List.flatMap_nil,List.append_nil] at g2 g3
 have hH:=Zw hv (by omega) g2 g3 (fun r hr=>hr)
 simp only [hc,bne_self_eq_false,Bool.false_eq_true,if_false,if_true,g1,Option.bind_some,Sz hv (show l.length≤1000 by omega) hH.X.len hH.Y.len (Wz g2 g3),Wj hH.X hH.Y,Ql hH]
end Go.SM
namespace Go.SM
open Go Go.VI
theorem Oc:iA=some true:=by kernel_rfl
end Go.SM
namespace Go.SM
open Go Go.VI Go.Cells
theorem Hk (s:bM) (l:List aF) (_:Qf s) (hl:RLN 1048576 Fh l):iX s l=some true:=by
 obtain ⟨r,r1,r2,r3⟩:=Ov s l (by have:=hl.1;omega)
 obtain ⟨b,b1,b2,b3⟩:=Bx s
 have fs:∃ n e,rE s=some (n,e)∧iL s=some (n,e)∧(b=0→n=Io s):=by
  by_cases hb:b=0
  ·subst hb
   obtain ⟨_,f1,f2⟩:=Oa b1
   refine ⟨Io s,0,f1, ?_,fun _=>rfl⟩
   unfold iL
   rw [b2]
   simp only [Option.bind_some,bne_self_eq_false,Bool.false_eq_true,if_false,f2]
  ·have hb':(b != 0)=true:=by rw [bne_iff_ne];exact hb
   refine ⟨0,b, ?_, ?_,fun h=>absurd h hb⟩
   ·unfold rE;rw [b1];simp only [Option.bind_some,hb',if_true]
   ·unfold iL;rw [b2];simp only [Option.bind_some,hb',if_true]
 obtain ⟨n,e,f1,f2,f3⟩:=fs
 obtain ⟨x,e',a1,a2,a3,a4,a5,a6⟩:=r
 unfold iX
 rw [f1,f2,r1,r2]
 simp only [Option.bind_some,bne_self_eq_false,Bool.false_eq_true,if_false]
 simp only at r3
 rcases r3 with ⟨h0,hx⟩ | ⟨h0,hR,hx⟩
 ·subst hx
  have h0':(e' != 0)=true:=by rw [bne_iff_ne];exact h0
  have hs:=Cv ⟨ByteArray.empty,ByteArray.empty,0,0,0,0,[],[]⟩ (by simp) (by simp)
  simp only [hs,Option.bind_some,Bool.not_true,Bool.false_eq_true,if_false,h0',if_true,Oc]
 ·subst hx
  have v:=hR.vs
  have n1:=v.n1
  have hn:=hR.n
  have hs:=Cv ⟨s.Name,s.bA,s.fT,s.fE,s.aW,s.aQ,s.aN,s.Used++l⟩ (by simp only;omega) (by simp only [List.length_append];omega)
  have hf:=Zr hR
  have hb:b=0:=by
   have:=hR.val
   rw [b1] at this
   exact Option.some.inj this
  have hc:Fm [l]=0:=by
   have hl48:¬ l.length>48:=by omega
   have hv:Cx l=true:=by
    unfold Cx
    rw [List.all_eq_true]
    intro r hr
    rw [decide_eq_true_eq]
    exact hR.v r hr
   unfold Fm
   simp only [List.any_cons,List.any_nil,hl48,decide_false,Bool.or_false,Bool.false_eq_true,if_false,List.all_cons,List.all_nil,hv,Bool.and_true,if_true]
  have ha:yQ l=some (gE MM (cov l),0):=by
   rw [CL];unfold Yl;rw [if_pos hc]
  have c1:=tY (M:=MM) (cov l);have c2:=tX (cov l)
  have d1:=tY (M:=MM) (cov (s.aN++s.Used));have d2:=tX (cov (s.aN++s.Used))
  have w:=v.w;have hh:=v.h
  have m1:s.aW*s.aQ≤1048576*1048576:=Int.mul_le_mul w.2 hh.2 (by omega) (by omega)
  have m0:0≤s.aW*s.aQ:=Int.mul_nonneg (by omega) (by omega)
  have hsub:aH n (gE MM (cov l))=Io s-gE MM (cov l):=by
   rw [f3 hb]
   have hF:Io s=s.aW*s.aQ-gE MM (cov (s.aN++s.Used)):=rfl
   generalize gE MM (cov l)=A at c1 c2
   generalize gE MM (cov (s.aN++s.Used))=B at d1 d2 hF
   generalize s.aW*s.aQ=C at m1 m0 hF
   exact aR (by omega) (by omega)
  subst h0
  simp only [hs,Option.bind_some,Bool.not_true,Bool.false_eq_true,if_false,bne_self_eq_false,hf,ha,beq_self_eq_true,if_true,hsub,Oc]
end Go.SM
end
