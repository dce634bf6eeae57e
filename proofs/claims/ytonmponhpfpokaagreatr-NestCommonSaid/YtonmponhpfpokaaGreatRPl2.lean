/- What the functions compute, part 2. -/
import Derived.Test.YtonmponhpfpokaaGreatRPl1
import Derived.Lib.IndexMore
set_option linter.unusedVariables false
set_option linter.unusedSimpArgs false
set_option linter.unusedSectionVars false
noncomputable section
namespace Go.SM
open Go Go.VI
def lA (n:Int) (h380:(List Int)):Int→Option (Int ⊕ Int):=fun a0 =>
 (if (decide (a0>0)) then ((idx h380 (aE a0 1)).bind fun a2=>some (decide (a2>n))) else (some false)).bind fun a1=>if a1 then (some (.inl (aE a0 1))) else (some (.inr a0))
def lB (a3:Int):Int×(List Int)→Option (Int×(List Int) ⊕ (List Int)):=fun a0 =>
 if (decide (a0.1>a3)) then ((idx a0.2 (aE a0.1 1)).bind fun a1=>(idx a0.2 a0.1).bind fun a2=>some (.inl ((aE a0.1 1),(List.set a0.2 (Int.toNat a0.1) a1)))) else (some (.inr a0.2))
def dO (n:Int) (h380:(List Int)):Option ((List Int)):=
 (aM (lA n h380) (h380.length:Int)).bind fun a1=>(if (decide (a1>0)) then ((idx h380 (aE a1 1)).bind fun a5=>some (a5==n)) else (some false)).bind fun a3=>if a3 then (some h380) else ((app h380 [0]).bind fun a2=>(aM (lB a1) ((aE (a2.length:Int) 1),a2)).bind fun a0=>(idx a0 a1).bind fun a4=>some (List.set a0 (Int.toNat a1) n))
def jA (l:(List aK)):(Int×(List Int)×(List Int))→Option ((Int×(List Int)×(List Int)) ⊕ ((List Int)×(List Int))):=fun a0 =>
 if (decide (a0.1<(l.length:Int))) then ((idx l a0.1).bind fun a5=>(dO a5.X a0.2.1).bind fun a1=>(idx l a0.1).bind fun a6=>(idx l a0.1).bind fun a7=>(dO (aJ a6.X a7.W) a1).bind fun a2=>(idx l a0.1).bind fun a8=>(dO a8.Y a0.2.2).bind fun a3=>(idx l a0.1).bind fun a9=>(idx l a0.1).bind fun b0=>(dO (aJ a9.Y b0.H) a3).bind fun a4=>some (.inl ((aJ a0.1 1),a2,a4))) else (some (.inr (a0.2.1,a0.2.2)))
def lM (l:(List aK)):Option ((List Int)×(List Int)):=
 (aM (jA l) (0,[],[])).bind fun a0=>some (a0.1,a0.2)
def gU (l:(List aK)) (x1:Int) (y:Int):Int→Option (Int ⊕ (Unit ⊕ Unit)):=fun a1 =>
 if (decide (a1<(l.length:Int))) then ((idx l a1).bind fun a0=>(if (decide (a0.X≤x1)) then (if (decide (x1<(aJ a0.X a0.W))) then (if (decide (a0.Y≤y)) then (some (decide (y<(aJ a0.Y a0.H)))) else (some false)) else (some false)) else (some false)).bind fun a2=>if a2 then (some (.inr (.inl ()))) else (some (.inl (aJ a1 1)))) else (some (.inr (.inr (()))))
def jN (l:(List aK)) (x1:Int) (y:Int):Option (Bool):=
 (aM (gU l x1 y) 0).bind fun a0=>match a0 with | .inl a1=>some true | .inr a2=>some false
def nB (b:(List aK)) (a2:aK):Int→Option (Int ⊕ (Unit ⊕ Unit)):=fun a0 =>
 if (decide (a0<(b.length:Int))) then ((idx b a0).bind fun a3=>(rP a2 a3).bind fun a1=>if a1 then (some (.inr (.inl ()))) else (some (.inl (aJ a0 1)))) else (some (.inr (.inr (()))))
def nC (a:(List aK)) (b:(List aK)):Int→Option (Int ⊕ (Unit ⊕ Unit)):=fun a0 =>
 if (decide (a0<(a.length:Int))) then ((idx a a0).bind fun a1=>(aM (nB b a1) 0).bind fun a2=>match a2 with | .inl a3=>some (.inr (.inl ())) | .inr a4=>some (.inl (aJ a0 1))) else (some (.inr (.inr (()))))
def tX (a:(List aK)) (b:(List aK)):Option (Bool):=
 (aM (nC a b) 0).bind fun a0=>match a0 with | .inl a1=>some true | .inr a2=>some false
def tQ (lists:(List (List aK))):Int→Option (Int ⊕ (Unit ⊕ Unit)):=fun a0 =>
 if (decide (a0<(lists.length:Int))) then ((idx lists a0).bind fun a1=>if (decide ((a1.length:Int)>48)) then (some (.inr (.inl ()))) else (some (.inl (aJ a0 1)))) else (some (.inr (.inr (()))))
def tR (a1:(List aK)):Int→Option (Int ⊕ (Unit ⊕ Unit)):=fun a0 =>
 if (decide (a0<(a1.length:Int))) then ((idx a1 a0).bind fun a3=>(cD a3).bind fun a2=>if (!a2) then (some (.inr (.inl ()))) else (some (.inl (aJ a0 1)))) else (some (.inr (.inr (()))))
def tS (lists:(List (List aK))):Int→Option (Int ⊕ (Unit ⊕ Unit)):=fun a0 =>
 if (decide (a0<(lists.length:Int))) then ((idx lists a0).bind fun a1=>(aM (tR a1) 0).bind fun a2=>match a2 with | .inl a3=>some (.inr (.inl ())) | .inr a4=>some (.inl (aJ a0 1))) else (some (.inr (.inr (()))))
def Ak (lists:(List (List aK))):Option (Int):=
 (aM (tQ lists) 0).bind fun a3=>match a3 with | .inl a4=>some 4 | .inr a5=>(aM (tS lists) 0).bind fun a0=>match a0 with | .inl a1=>some 1 | .inr a2=>some 0
def nU (s:(List Int)):Option (List Int):=app [] s
def xY:(Int×Int)→Option (Int):=fun j3 =>
 (Ti (ByteArray.mk #[0,1,2,2,3,3,3,3,4,4,4,4,4,4,4,4,5,5,5,5,5,5,5,5,5,5,5,5,5,5,5,5,6,6,6,6,6,6,6,6,6,6,6,6,6,6,6,6,6,6,6,6,6,6,6,6,6,6,6,6,6,6,6,6,7,7,7,7,7,7,7,7,7,7,7,7,7,7,7,7,7,7,7,7,7,7,7,7,7,7,7,7,7,7,7,7,7,7,7,7,7,7,7,7,7,7,7,7,7,7,7,7,7,7,7,7,7,7,7,7,7,7,7,7,7,7,7,7,8,8,8,8,8,8,8,8,8,8,8,8,8,8,8,8,8,8,8,8,8,8,8,8,8,8,8,8,8,8,8,8,8,8,8,8,8,8,8,8,8,8,8,8,8,8,8,8,8,8,8,8,8,8,8,8,8,8,8,8,8,8,8,8,8,8,8,8,8,8,8,8,8,8,8,8,8,8,8,8,8,8,8,8,8,8,8,8,8,8,8,8,8,8,8,8,8,8,8,8,8,8,8,8,8,8,8,8,8,8,8,8,8,8,8,8,8,8,8,8,8,8,8,8,8,8,8,8]) (IntKind.wrap .u8 j3.1)).bind fun x5=>some (aJ j3.2 (IntKind.wrap .i64 x5))
def xZ:(Int×Int)→Option (Int):=fun j2 =>
 if (decide (j2.1 ≥ 256)) then (xY ((Int.fdiv j2.1 (2^(min (Int.toNat 8) 64))),(aJ j2.2 8))) else (xY (j2.1,j2.2))
def yA:(Int×Int)→Option (Int):=fun j1 =>
 if (decide (j1.1 ≥ 65536)) then (xZ ((Int.fdiv j1.1 (2^(min (Int.toNat 16) 64))),(aJ j1.2 16))) else (xZ (j1.1,j1.2))
def Lg (x0:Int):Option (Int):=
 if (decide (x0 ≥ 4294967296)) then (yA ((Int.fdiv x0 (2^(min (Int.toNat 32) 64))),32)) else (yA (x0,0))
def Cd (x0:Int):Option (Int):=
 (Lg x0).bind fun r2=>some r2
def pU (x0:Int):Option (Bool):=
 some (x0 != x0)
def aZ (x0:Int) (y:Int):Option (Int):=
 (pU x0).bind fun r2=>(pU y).bind fun r4=>if r2 then (if r4 then (some 0) else (some (-1))) else (if r4 then (some 1) else (if (decide (x0<y)) then (some (-1)) else (if (decide (x0>y)) then (some 1) else (some 0))))
def jY (a:Int):Int×(List Int)→Option (Int×(List Int) ⊕ (List Int)):=fun a0 =>
 (if (decide (a0.1>a)) then ((idx a0.2 a0.1).bind fun a4=>(idx a0.2 (aE a0.1 1)).bind fun a5=>(aZ a4 a5).bind fun a3=>some (decide (a3<0))) else (some false)).bind fun a2=>if a2 then ((idx a0.2 (aE a0.1 1)).bind fun a1=>(idx a0.2 a0.1).bind fun a6=>(idx a0.2 a0.1).bind fun a7=>(idx (List.set a0.2 (Int.toNat a0.1) a1) (aE a0.1 1)).bind fun a8=>some (.inl ((aE a0.1 1),(List.set (List.set a0.2 (Int.toNat a0.1) a1) (Int.toNat (aE a0.1 1)) a6)))) else (some (.inr a0.2))
def jZ (a:Int) (b:Int):Int×(List Int)→Option (Int×(List Int) ⊕ (List Int)):=fun a0 =>
 if (decide (a0.1<b)) then ((aM (jY a) (a0.1,a0.2)).bind fun a1=>some (.inl ((aJ a0.1 1),a1))) else (some (.inr a0.2))
def fF (a:Int) (b:Int) (h0:(List Int)):Option ((List Int)):=
 (aM (jZ a b) ((aJ a 1),h0)).bind fun a0=>some a0
def cN (first:Int) (a0:Int×(List Int)):Int→Option (Int×(List Int) ⊕ ((List Int) ⊕ (List Int))):=fun a1 =>
 (idx a0.2 (aJ first a0.1)).bind fun a4=>(idx a0.2 (aJ first a1)).bind fun a5=>(aZ a4 a5).bind fun a3=>if (!(decide (a3<0))) then (some (.inr (.inr a0.2))) else ((idx a0.2 (aJ first a1)).bind fun a2=>(idx a0.2 (aJ first a0.1)).bind fun a6=>(idx a0.2 (aJ first a0.1)).bind fun a7=>(idx (List.set a0.2 (Int.toNat (aJ first a0.1)) a2) (aJ first a1)).bind fun a8=>some (.inl (a1,(List.set (List.set a0.2 (Int.toNat (aJ first a0.1)) a2) (Int.toNat (aJ first a1)) a6))))
def mG (hi:Int) (first:Int):Int×(List Int)→Option (Int×(List Int) ⊕ ((List Int) ⊕ (List Int))):=fun a0 =>
 if (decide ((aJ (iT 2 a0.1) 1) ≥ hi)) then (some (.inr (.inl a0.2))) else ((if (decide ((aJ (aJ (iT 2 a0.1) 1) 1)<hi)) then ((idx a0.2 (aJ first (aJ (iT 2 a0.1) 1))).bind fun a3=>(idx a0.2 (aJ (aJ first (aJ (iT 2 a0.1) 1)) 1)).bind fun a4=>(aZ a3 a4).bind fun a2=>some (decide (a2<0))) else (some false)).bind fun a1=>if a1 then (cN first a0 (aJ (aJ (iT 2 a0.1) 1) 1)) else (cN first a0 (aJ (iT 2 a0.1) 1)))
def dK (lo:Int) (hi:Int) (first:Int) (h0:(List Int)):Option ((List Int)):=
 (aM (mG hi first) (lo,h0)).bind fun a2=>match a2 with | .inl a0=>some a0 | .inr a1=>some a1
def mD (a:Int) (b:Int):Int×(List Int)→Option (Int×(List Int) ⊕ (List Int)):=fun a0 =>
 if (decide (a0.1 ≥ 0)) then ((dK a0.1 (aE b a) a a0.2).bind fun a1=>some (.inl ((aE a0.1 1),a1))) else (some (.inr a0.2))
def mE (a:Int):Int×(List Int)→Option (Int×(List Int) ⊕ (List Int)):=fun a0 =>
 if (decide (a0.1 ≥ 0)) then ((idx a0.2 (aJ a a0.1)).bind fun a1=>(idx a0.2 a).bind fun a3=>(idx a0.2 a).bind fun a4=>(idx (List.set a0.2 (Int.toNat a) a1) (aJ a a0.1)).bind fun a5=>(dK 0 a0.1 a (List.set (List.set a0.2 (Int.toNat a) a1) (Int.toNat (aJ a a0.1)) a3)).bind fun a2=>some (.inl ((aE a0.1 1),a2))) else (some (.inr a0.2))
def gF (a:Int) (b:Int) (h0:(List Int)):Option ((List Int)):=
 (aM (mD a b) ((pR (aE (aE b a) 1) 2),h0)).bind fun a1=>(aM (mE a) ((aE (aE b a) 1),a1)).bind fun a0=>some a0
def sO (length:Int):Option (Int):=
 (Cd (IntKind.wrap .u64 length)).bind fun r2=>if (decide (0≤r2)) then (some (IntKind.wrap .u64 (1*2^(min (Int.toNat r2) 64)))) else none
def uH (h0_0:Int):Option (Int):=
 some (fQ .u64 (fQ .u64 (fQ .u64 h0_0 (IntKind.wrap .u64 (h0_0*2^(min (Int.toNat 13) 64)))) (Int.fdiv (fQ .u64 h0_0 (IntKind.wrap .u64 (h0_0*2^(min (Int.toNat 13) 64)))) (2^(min (Int.toNat 7) 64)))) (IntKind.wrap .u64 ((fQ .u64 (fQ .u64 h0_0 (IntKind.wrap .u64 (h0_0*2^(min (Int.toNat 13) 64)))) (Int.fdiv (fQ .u64 h0_0 (IntKind.wrap .u64 (h0_0*2^(min (Int.toNat 13) 64)))) (2^(min (Int.toNat 7) 64))))*2^(min (Int.toNat 17) 64))))
def bV (a:Int) (a0:Int×Int×(List Int)):Int→Option (Int×Int×(List Int) ⊕ (List Int)):=fun a1 =>
 (idx a0.2.2 (aJ a a1)).bind fun a2=>(idx a0.2.2 a0.1).bind fun a3=>(idx a0.2.2 a0.1).bind fun a4=>(idx (List.set a0.2.2 (Int.toNat a0.1) a2) (aJ a a1)).bind fun a5=>some (.inl ((aJ a0.1 1),(fQ .u64 (fQ .u64 (fQ .u64 a0.2.1 (IntKind.wrap .u64 (a0.2.1*2^(min (Int.toNat 13) 64)))) (Int.fdiv (fQ .u64 a0.2.1 (IntKind.wrap .u64 (a0.2.1*2^(min (Int.toNat 13) 64)))) (2^(min (Int.toNat 7) 64)))) (IntKind.wrap .u64 ((fQ .u64 (fQ .u64 a0.2.1 (IntKind.wrap .u64 (a0.2.1*2^(min (Int.toNat 13) 64)))) (Int.fdiv (fQ .u64 a0.2.1 (IntKind.wrap .u64 (a0.2.1*2^(min (Int.toNat 13) 64)))) (2^(min (Int.toNat 7) 64))))*2^(min (Int.toNat 17) 64)))),(List.set (List.set a0.2.2 (Int.toNat a0.1) a2) (Int.toNat (aJ a a1)) a3)))
def jW (a:Int) (b:Int) (r2:Int):Int×Int×(List Int)→Option (Int×Int×(List Int) ⊕ (List Int)):=fun a0 =>
 if (decide (a0.1≤(aJ (aJ a (iT (pR (aE b a) 4) 2)) 1))) then ((uH a0.2.1).bind fun a1=>if (decide ((IntKind.wrap .i64 (Gw .u64 a1 (IntKind.wrap .u64 (r2-1)))) ≥ (aE b a))) then (bV a a0 (aE (IntKind.wrap .i64 (Gw .u64 a1 (IntKind.wrap .u64 (r2-1)))) (aE b a))) else (bV a a0 (IntKind.wrap .i64 (Gw .u64 a1 (IntKind.wrap .u64 (r2-1)))))) else (some (.inr a0.2.2))
def fE (a:Int) (b:Int) (h0:(List Int)):Option ((List Int)):=
 if (decide ((aE b a) ≥ 8)) then ((sO (aE b a)).bind fun r2=>(aM (jW a b r2) ((aE (aJ a (iT (pR (aE b a) 4) 2)) 1),(IntKind.wrap .u64 (aE b a)),h0)).bind fun a0=>some a0) else (some h0)
def bY (data:(List Int)) (a:Int) (b:Int) (h0_0:Int):Option (Int×Int×Int):=
 (idx data b).bind fun a1=>(idx data a).bind fun a2=>(aZ a1 a2).bind fun a0=>if (decide (a0<0)) then (some (b,a,(aJ h0_0 1))) else (some (a,b,h0_0))
def eB (data:(List Int)) (a:Int) (b:Int) (c:Int) (h0_0:Int):Option (Int×Int):=
 (bY data a b h0_0).bind fun r2=>(bY data r2.2.1 c r2.2.2).bind fun r4=>(bY data r2.1 r4.1 r4.2.2).bind fun r6=>some (r6.2.1,r6.2.2)
def bG (data:(List Int)) (a:Int) (h0_0:Int):Option (Int×Int):=
 (eB data (aE a 1) a (aJ a 1) h0_0).bind fun r2=>some (r2.1,r2.2)
def bZ:(Int×Int)→Option (Int×Int):=fun a0 =>
 if (a0.2==0) then (some (a0.1,1)) else (if (a0.2==12) then (some (a0.1,2)) else (some (a0.1,0)))
def cA (data:(List Int)):(Int×Int×Int×Int)→Option (Int×Int):=fun a0 =>
 (eB data a0.1 a0.2.1 a0.2.2.1 a0.2.2.2).bind fun a1=>bZ (a1.1,a1.2)
def fO (data:(List Int)) (a:Int) (b:Int):Option (Int×Int):=
 if (decide ((aE b a) ≥ 8)) then (if (decide ((aE b a) ≥ 50)) then ((bG data (aJ a (iT (pR (aE b a) 4) 1)) 0).bind fun a0=>(bG data (aJ a (iT (pR (aE b a) 4) 2)) a0.2).bind fun a1=>(bG data (aJ a (iT (pR (aE b a) 4) 3)) a1.2).bind fun a2=>cA data (a0.1,a1.1,a2.1,a2.2)) else (cA data ((aJ a (iT (pR (aE b a) 4) 1)),(aJ a (iT (pR (aE b a) 4) 2)),(aJ a (iT (pR (aE b a) 4) 3)),0))) else (bZ ((aJ a (iT (pR (aE b a) 4) 2)),0))
def kP:Int×Int×(List Int)→Option (Int×Int×(List Int) ⊕ (List Int)):=fun a0 =>
 if (decide (a0.1<a0.2.1)) then ((idx a0.2.2 a0.2.1).bind fun a1=>(idx a0.2.2 a0.1).bind fun a2=>(idx a0.2.2 a0.1).bind fun a3=>(idx (List.set a0.2.2 (Int.toNat a0.1) a1) a0.2.1).bind fun a4=>some (.inl ((aJ a0.1 1),(aE a0.2.1 1),(List.set (List.set a0.2.2 (Int.toNat a0.1) a1) (Int.toNat a0.2.1) a2)))) else (some (.inr a0.2.2))
def fK (a:Int) (b:Int) (h0:(List Int)):Option ((List Int)):=
 (aM (kP) (a,(aE b 1),h0)).bind fun a0=>some a0
def bJ (a1:Int×Int×(List Int)):Int×(List Int)→Option (Int×Int×(List Int) ⊕ (Bool×(List Int) ⊕ (List Int))):=fun a0 =>
 some (.inl (a0.1,(aJ a1.2.1 1),a0.2))
def iA (b:Int) (a1:Int×Int×(List Int)):Int→Option (Int ⊕ Int):=fun a0 =>
 (if (decide (a0<b)) then ((idx a1.2.2 a0).bind fun a4=>(idx a1.2.2 (aE a0 1)).bind fun a5=>(aZ a4 a5).bind fun a3=>some (!(decide (a3<0)))) else (some false)).bind fun a2=>if a2 then (some (.inl (aJ a0 1))) else (some (.inr a0))
def iB (b:Int):Int×(List Int)→Option (Int×(List Int) ⊕ (List Int)):=fun a0 =>
 if (decide (a0.1<b)) then ((idx a0.2 a0.1).bind fun a3=>(idx a0.2 (aE a0.1 1)).bind fun a4=>(aZ a3 a4).bind fun a2=>if (!(decide (a2<0))) then (some (.inr a0.2)) else ((idx a0.2 (aE a0.1 1)).bind fun a1=>(idx a0.2 a0.1).bind fun a5=>(idx a0.2 a0.1).bind fun a6=>(idx (List.set a0.2 (Int.toNat a0.1) a1) (aE a0.1 1)).bind fun a7=>some (.inl ((aJ a0.1 1),(List.set (List.set a0.2 (Int.toNat a0.1) a1) (Int.toNat (aE a0.1 1)) a5))))) else (some (.inr a0.2))
def bK (b:Int) (a2:Int×Int×(List Int)) (a0:Int):(List Int)→Option (Int×Int×(List Int) ⊕ (Bool×(List Int) ⊕ (List Int))):=fun a1 =>
 if (decide ((aE b a0) ≥ 2)) then ((aM (iB b) ((aJ a0 1),a1)).bind fun a3=>bJ a2 (a0,a3)) else (bJ a2 (a0,a1))
def iD:Int×(List Int)→Option (Int×(List Int) ⊕ (List Int)):=fun a0 =>
 if (decide (a0.1 ≥ 1)) then ((idx a0.2 a0.1).bind fun a3=>(idx a0.2 (aE a0.1 1)).bind fun a4=>(aZ a3 a4).bind fun a2=>if (!(decide (a2<0))) then (some (.inr a0.2)) else ((idx a0.2 (aE a0.1 1)).bind fun a1=>(idx a0.2 a0.1).bind fun a5=>(idx a0.2 a0.1).bind fun a6=>(idx (List.set a0.2 (Int.toNat a0.1) a1) (aE a0.1 1)).bind fun a7=>some (.inl ((aE a0.1 1),(List.set (List.set a0.2 (Int.toNat a0.1) a1) (Int.toNat (aE a0.1 1)) a5))))) else (some (.inr a0.2))
def iE (a:Int) (b:Int):Int×Int×(List Int)→Option (Int×Int×(List Int) ⊕ (Bool×(List Int) ⊕ (List Int))):=fun a0 =>
 if (decide (a0.2.1<5)) then ((aM (iA b a0) a0.1).bind fun a1=>if (a1==b) then (some (.inr (.inl (true,a0.2.2)))) else (if (decide ((aE b a)<50)) then (some (.inr (.inl (false,a0.2.2)))) else ((idx a0.2.2 (aE a1 1)).bind fun a2=>(idx a0.2.2 a1).bind fun a3=>(idx a0.2.2 a1).bind fun a5=>(idx (List.set a0.2.2 (Int.toNat a1) a2) (aE a1 1)).bind fun a6=>if (decide ((aE a1 a) ≥ 2)) then ((aM (iD) ((aE a1 1),(List.set (List.set a0.2.2 (Int.toNat a1) a2) (Int.toNat (aE a1 1)) a3))).bind fun a4=>bK b a0 a1 a4) else (bK b a0 a1 (List.set (List.set a0.2.2 (Int.toNat a1) a2) (Int.toNat (aE a1 1)) a3))))) else (some (.inr (.inr a0.2.2)))
def dQ (a:Int) (b:Int) (h0:(List Int)):Option (Bool×(List Int)):=
 (aM (iE a b) ((aJ a 1),0,h0)).bind fun a2=>match a2 with | .inl a0=>some (a0.1,a0.2) | .inr a1=>some (false,a1)
def jP (a:Int) (a1:Int×Int×(List Int)):Int→Option (Int ⊕ Int):=fun a0 =>
 (if (decide (a0≤a1.2.1)) then ((idx a1.2.2 a).bind fun a4=>(idx a1.2.2 a0).bind fun a5=>(aZ a4 a5).bind fun a3=>some (!(decide (a3<0)))) else (some false)).bind fun a2=>if a2 then (some (.inl (aJ a0 1))) else (some (.inr a0))
def jQ (a:Int) (a1:Int×Int×(List Int)) (a4:Int):Int→Option (Int ⊕ Int):=fun a0 =>
 (if (decide (a4≤a0)) then ((idx a1.2.2 a).bind fun a5=>(idx a1.2.2 a0).bind fun a6=>(aZ a5 a6).bind fun a3=>some (decide (a3<0))) else (some false)).bind fun a2=>if a2 then (some (.inl (aE a0 1))) else (some (.inr a0))
def jR (a:Int):Int×Int×(List Int)→Option (Int×Int×(List Int) ⊕ Int×(List Int)):=fun a0 =>
 (aM (jP a a0) a0.1).bind fun a1=>(aM (jQ a a0 a1) a0.2.1).bind fun a2=>if (decide (a1>a2)) then (some (.inr (a1,a0.2.2))) else ((idx a0.2.2 a2).bind fun a3=>(idx a0.2.2 a1).bind fun a4=>(idx a0.2.2 a1).bind fun a5=>(idx (List.set a0.2.2 (Int.toNat a1) a3) a2).bind fun a6=>some (.inl ((aJ a1 1),(aE a2 1),(List.set (List.set a0.2.2 (Int.toNat a1) a3) (Int.toNat a2) a4))))
def eW (a:Int) (b:Int) (pivot:Int) (h0:(List Int)):Option (Int×(List Int)):=
 (idx h0 pivot).bind fun x9=>(idx h0 a).bind fun a1=>(idx h0 a).bind fun a2=>(idx (List.set h0 (Int.toNat a) x9) pivot).bind fun a3=>(aM (jR a) ((aJ a 1),(aE b 1),(List.set (List.set h0 (Int.toNat a) x9) (Int.toNat pivot) a1))).bind fun a0=>some (a0.1,a0.2)
def lN (a:Int) (b:Int) (pivot:Int) (h0:(List Int)) (x9:Int) (a5:Int):Int→Option (Int ⊕ Int):=fun a0 =>
 (if (decide (a0≤(aE b 1))) then ((idx (List.set (List.set h0 (Int.toNat a) x9) (Int.toNat pivot) a5) a0).bind fun a3=>(idx (List.set (List.set h0 (Int.toNat a) x9) (Int.toNat pivot) a5) a).bind fun a4=>(aZ a3 a4).bind fun a2=>some (decide (a2<0))) else (some false)).bind fun a1=>if a1 then (some (.inl (aJ a0 1))) else (some (.inr a0))
def lO (a:Int) (pivot:Int) (h0:(List Int)) (x9:Int) (a6:Int) (a3:Int):Int→Option (Int ⊕ Int):=fun a0 =>
 (if (decide (a3≤a0)) then ((idx (List.set (List.set h0 (Int.toNat a) x9) (Int.toNat pivot) a6) a0).bind fun a4=>(idx (List.set (List.set h0 (Int.toNat a) x9) (Int.toNat pivot) a6) a).bind fun a5=>(aZ a4 a5).bind fun a2=>some (!(decide (a2<0)))) else (some false)).bind fun a1=>if a1 then (some (.inl (aE a0 1))) else (some (.inr a0))
def lP (a:Int) (a1:Int×Int×(List Int)):Int→Option (Int ⊕ Int):=fun a0 =>
 (if (decide (a0≤a1.2.1)) then ((idx a1.2.2 a0).bind fun a4=>(idx a1.2.2 a).bind fun a5=>(aZ a4 a5).bind fun a3=>some (decide (a3<0))) else (some false)).bind fun a2=>if a2 then (some (.inl (aJ a0 1))) else (some (.inr a0))
def lQ (a:Int) (a1:Int×Int×(List Int)) (a4:Int):Int→Option (Int ⊕ Int):=fun a0 =>
 (if (decide (a4≤a0)) then ((idx a1.2.2 a0).bind fun a5=>(idx a1.2.2 a).bind fun a6=>(aZ a5 a6).bind fun a3=>some (!(decide (a3<0)))) else (some false)).bind fun a2=>if a2 then (some (.inl (aE a0 1))) else (some (.inr a0))
def lR (a:Int):Int×Int×(List Int)→Option (Int×Int×(List Int) ⊕ Int×(List Int)):=fun a0 =>
 (aM (lP a a0) a0.1).bind fun a1=>(aM (lQ a a0 a1) a0.2.1).bind fun a2=>if (decide (a1>a2)) then (some (.inr (a2,a0.2.2))) else ((idx a0.2.2 a2).bind fun a3=>(idx a0.2.2 a1).bind fun a4=>(idx a0.2.2 a1).bind fun a5=>(idx (List.set a0.2.2 (Int.toNat a1) a3) a2).bind fun a6=>some (.inl ((aJ a1 1),(aE a2 1),(List.set (List.set a0.2.2 (Int.toNat a1) a3) (Int.toNat a2) a4))))
def fZ (a:Int) (b:Int) (pivot:Int) (h0:(List Int)):Option (Int×Bool×(List Int)):=
 (idx h0 pivot).bind fun x9=>(idx h0 a).bind fun a3=>(idx h0 a).bind fun b6=>(idx (List.set h0 (Int.toNat a) x9) pivot).bind fun b7=>(aM (lN a b pivot h0 x9 a3) (aJ a 1)).bind fun a2=>(aM (lO a pivot h0 x9 a3 a2) (aE b 1)).bind fun a1=>if (decide (a2>a1)) then ((idx (List.set (List.set h0 (Int.toNat a) x9) (Int.toNat pivot) a3) a).bind fun a6=>(idx (List.set (List.set h0 (Int.toNat a) x9) (Int.toNat pivot) a3) a1).bind fun a8=>(idx (List.set (List.set h0 (Int.toNat a) x9) (Int.toNat pivot) a3) a1).bind fun b2=>(idx (List.set (List.set (List.set h0 (Int.toNat a) x9) (Int.toNat pivot) a3) (Int.toNat a1) a6) a).bind fun b3=>some (a1,true,(List.set (List.set (List.set (List.set h0 (Int.toNat a) x9) (Int.toNat pivot) a3) (Int.toNat a1) a6) (Int.toNat a) a8))) else ((idx (List.set (List.set h0 (Int.toNat a) x9) (Int.toNat pivot) a3) a1).bind fun a7=>(idx (List.set (List.set h0 (Int.toNat a) x9) (Int.toNat pivot) a3) a2).bind fun a9=>(idx (List.set (List.set h0 (Int.toNat a) x9) (Int.toNat pivot) a3) a2).bind fun b4=>(idx (List.set (List.set (List.set h0 (Int.toNat a) x9) (Int.toNat pivot) a3) (Int.toNat a2) a7) a1).bind fun b5=>(aM (lR a) ((aJ a2 1),(aE a1 1),(List.set (List.set (List.set (List.set h0 (Int.toNat a) x9) (Int.toNat pivot) a3) (Int.toNat a2) a7) (Int.toNat a1) a9))).bind fun a0=>(idx a0.2 a).bind fun a4=>(idx a0.2 a0.1).bind fun a5=>(idx a0.2 a0.1).bind fun b0=>(idx (List.set a0.2 (Int.toNat a0.1) a4) a).bind fun b1=>some (a0.1,false,(List.set (List.set a0.2 (Int.toNat a0.1) a4) (Int.toNat a) a5)))
def cU (self:Int→Int→Int→(List Int)→Option ((List Int))) (a1:Int×Int×Int×Bool×Bool×(List Int)) (a3:Int×(List Int)) (a4:Int×Int×(List Int)):Bool×Bool×(List Int)→Option (Int×Int×Int×Bool×Bool×(List Int) ⊕ (List Int)):=fun a2 =>
 (if (decide (a1.1>0)) then ((idx a2.2.2 (aE a1.1 1)).bind fun b0=>(idx a2.2.2 a4.1).bind fun b1=>(aZ b0 b1).bind fun a7=>some (!(decide (a7<0)))) else (some false)).bind fun a6=>if a6 then ((eW a1.1 a1.2.1 a4.1 a2.2.2).bind fun a5=>some (.inl (a5.1,a1.2.1,a3.1,a2.1,a2.2.1,a5.2))) else ((fZ a1.1 a1.2.1 a4.1 a2.2.2).bind fun a0=>if (decide ((aE a0.1 a1.1)<(aE a1.2.1 a0.1))) then ((self a1.1 a0.1 a3.1 a0.2.2).bind fun a8=>some (.inl ((aJ a0.1 1),a1.2.1,a3.1,(decide ((aE a0.1 a1.1) ≥ (pR (aE a1.2.1 a1.1) 8))),a0.2.1,a8))) else ((self (aJ a0.1 1) a1.2.1 a3.1 a0.2.2).bind fun a9=>some (.inl (a1.1,a0.1,a3.1,(decide ((aE a1.2.1 a0.1) ≥ (pR (aE a1.2.1 a1.1) 8))),a0.2.1,a9))))
def cW (self:Int→Int→Int→(List Int)→Option ((List Int))) (a3:Int×Int×Int×Bool×Bool×(List Int)) (a4:Int×(List Int)):Int×Int×(List Int)→Option (Int×Int×Int×Bool×Bool×(List Int) ⊕ (List Int)):=fun a0 =>
 (if a3.2.2.2.1 then (if a3.2.2.2.2.1 then (some (true,true,(a0.2.1==1))) else (some (true,false,false))) else (some (false,a3.2.2.2.2.1,false))).bind fun a1=>if a1.2.2 then ((dQ a3.1 a3.2.1 a0.2.2).bind fun a2=>if a2.1 then (some (.inr a2.2)) else (cU self a3 a4 a0 (a1.1,a1.2.1,a2.2))) else (cU self a3 a4 a0 (a1.1,a1.2.1,a0.2.2))
def cX (self:Int→Int→Int→(List Int)→Option ((List Int))) (a2:Int×Int×Int×Bool×Bool×(List Int)):Int×(List Int)→Option (Int×Int×Int×Bool×Bool×(List Int) ⊕ (List Int)):=fun a0 =>
 (fO a0.2 a2.1 a2.2.1).bind fun a1=>if (a1.2==2) then ((fK a2.1 a2.2.1 a0.2).bind fun a3=>cW self a2 a0 ((aE (aE a2.2.1 1) (aE a1.1 a2.1)),1,a3)) else (cW self a2 a0 (a1.1,a1.2,a0.2))
def mJ (self:Int→Int→Int→(List Int)→Option ((List Int))):Int×Int×Int×Bool×Bool×(List Int)→Option (Int×Int×Int×Bool×Bool×(List Int) ⊕ (List Int)):=fun a0 =>
 if (decide ((aE a0.2.1 a0.1)≤12)) then ((fF a0.1 a0.2.1 a0.2.2.2.2.2).bind fun a1=>some (.inr a1)) else (if (a0.2.2.1==0) then ((gF a0.1 a0.2.1 a0.2.2.2.2.2).bind fun a2=>some (.inr a2)) else (if (!a0.2.2.2.1) then ((fE a0.1 a0.2.1 a0.2.2.2.2.2).bind fun a3=>cX self a0 ((aE a0.2.2.1 1),a3)) else (cX self a0 (a0.2.2.1,a0.2.2.2.2.2))))
def fI (self:Int→Int→Int→(List Int)→Option ((List Int))) (a:Int) (b:Int) (limit:Int) (h0:(List Int)):Option ((List Int)):=
 (aM (mJ self) (a,b,limit,true,true,h0)).bind fun a0=>some a0
def bC:Nat→Int→Int→Int→(List Int)→Option ((List Int))
 | 0=>fun _ _ _ _=>none
 | n+1=>fI (bC n)
def gM (a:Int) (b:Int) (limit:Int) (h0:(List Int)):Option ((List Int)):=bC 1000 a b limit h0
def bX (h0:(List Int)):Option ((List Int)):=
 (Cd (IntKind.wrap .u64 (h0.length:Int))).bind fun r3=>(gM 0 (h0.length:Int) r3 h0).bind fun r4=>some r4
def kL (a1:Int×Int×(List Int)):Int×(List Int)→Option (Int×Int×(List Int) ⊕ Int×(List Int)):=fun a0 =>
 some (.inl (a0.1,(aJ a1.2.1 1),a0.2))
def wO (h380:(List Int)) (a1:Int):Int×Int×(List Int)→Option (Int×Int×(List Int) ⊕ Int×(List Int)):=fun a0 =>
 if (decide (a0.2.1<((Int.toNat (h380.length:Int)-Int.toNat a1:Nat):Int))) then ((idx (List.take (Int.toNat (h380.length:Int)-Int.toNat a1) (List.drop (Int.toNat a1) a0.2.2)) a0.2.1).bind fun a2=>(idx (List.take (Int.toNat (h380.length:Int)-Int.toNat a1) (List.drop (Int.toNat a1) a0.2.2)) (aE a0.2.1 1)).bind fun a3=>if (a2 != a3) then ((idx (List.take (Int.toNat (h380.length:Int)-Int.toNat a1) (List.drop (Int.toNat a1) a0.2.2)) a0.2.1).bind fun a4=>(idx a0.2.2 a0.1).bind fun a5=>kL a0 ((aJ a0.1 1),(List.set a0.2.2 (Int.toNat a0.1) a4))) else (kL a0 (a0.1,a0.2.2))) else (some (.inr (a0.1,a0.2.2)))
def wP (h380:(List Int)):Int→Option (Int ⊕ ((List Int) ⊕ Unit)):=fun a1 =>
 if (decide (a1<(h380.length:Int))) then ((idx h380 a1).bind fun a3=>(idx h380 (aE a1 1)).bind fun a4=>if (a3==a4) then (if (decide ((0:Int)≤a1)&&(decide (a1≤(h380.length:Int))&&decide ((h380.length:Int)≤(h380.length:Int)))) then ((aM (wO h380 a1) (a1,1,h380)).bind fun a0=>if (decide ((0:Int)≤a0.1)&&(decide (a0.1≤(a0.2.length:Int))&&decide ((a0.2.length:Int)≤(a0.2.length:Int)))) then ((slc (cpy a0.2 (Int.toNat a0.1) (List.replicate (Int.toNat (a0.2.length:Int)-Int.toNat a0.1) 0)) 0 a0.1).bind fun a2=>some (.inr (.inl a2))) else none) else none) else (some (.inl (aJ a1 1)))) else (some (.inr (.inr (()))))
def jC (h380:(List Int)):Option ((List Int)):=
 if (decide ((h380.length:Int)<2)) then (some h380) else ((aM (wP h380) 1).bind fun a1=>match a1 with | .inl a0=>some a0 | .inr a2=>some h380)
def cF (l:(List Int)):Option ((List Int)):=
 (nU l).bind fun r2=>(bX r2).bind fun r4=>(jC r4).bind fun r6=>some r6
def nN (a2:(List aK)):(Int×(List Int)×(List Int))→Option ((Int×(List Int)×(List Int)) ⊕ ((List Int)×(List Int))):=fun a0 =>
 if (decide (a0.1<(a2.length:Int))) then ((idx a2 a0.1).bind fun a1=>(app a0.2.1 [a1.X,(aJ a1.X a1.W)]).bind fun a3=>(app a0.2.2 [a1.Y,(aJ a1.Y a1.H)]).bind fun a4=>some (.inl ((aJ a0.1 1),a3,a4))) else (some (.inr (a0.2.1,a0.2.2)))
def qE (lists:(List (List aK))):(Int×(List Int)×(List Int))→Option ((Int×(List Int)×(List Int)) ⊕ ((List Int)×(List Int))):=fun a0 =>
 if (decide (a0.1<(lists.length:Int))) then ((idx lists a0.1).bind fun a2=>(aM (nN a2) (0,a0.2.1,a0.2.2)).bind fun a1=>some (.inl ((aJ a0.1 1),a1.1,a1.2))) else (some (.inr (a0.2.1,a0.2.2)))
def uU (lists:(List (List aK))):Option (rI):=
 (aM (qE lists) (0,[],[])).bind fun a0=>(cF a0.1).bind fun a1=>(cF a0.2).bind fun a2=>some (rI.mk a1 a2)
def iQ (a1:Int×(List (List Bool))):(List (List Bool))→Option (Int×(List (List Bool)) ⊕ (List (List Bool))):=fun a0 =>
 some (.inl ((aJ a1.1 1),a0))
def iR (g:rI) (l:(List aK)) (a2:Int×(List (List Bool))) (a3:Int×(List (List Bool))):Int×(List (List Bool))→Option (Int×(List (List Bool)) ⊕ (List (List Bool))):=fun a0 =>
 if (decide (a0.1<(l.length:Int))) then ((idx l a0.1).bind fun a1=>((idx g.x a2.1).bind fun a6=>if (decide (a1.X≤a6)) then ((idx g.x a2.1).bind fun a7=>if (decide (a7<(aJ a1.X a1.W))) then ((idx g.y a3.1).bind fun a8=>if (decide (a1.Y≤a8)) then ((idx g.y a3.1).bind fun a9=>some (decide (a9<(aJ a1.Y a1.H)))) else (some false)) else (some false)) else (some false)).bind fun a5=>if a5 then ((idx a0.2 a2.1).bind fun a4=>(idx a4 a3.1).bind fun b0=>iQ a0 (List.set a0.2 (Int.toNat a2.1) (List.set a4 (Int.toNat a3.1) true))) else (iQ a0 a0.2)) else (some (.inr a0.2))
def iS (g:rI) (l:(List aK)) (a1:Int×(List (List Bool))) (a2:(List Bool)):Int×(List (List Bool))→Option (Int×(List (List Bool)) ⊕ (List (List Bool))):=fun a0 =>
 if (decide (a0.1<(a2.length:Int))) then ((aM (iR g l a1 a0) (0,a0.2)).bind fun a3=>some (.inl ((aJ a0.1 1),a3))) else (some (.inr a0.2))
def lF (g:rI) (l:(List aK)) (l2:(List (List Bool))):Int×(List (List Bool))→Option (Int×(List (List Bool)) ⊕ (List (List Bool))):=fun a0 =>
 if (decide (a0.1<(l2.length:Int))) then ((mk (aE (g.y.length:Int) 1) false).bind fun a1=>(idx a0.2 a0.1).bind fun a4=>(idx (List.set a0.2 (Int.toNat a0.1) a1) a0.1).bind fun a2=>(aM (iS g l a0 a2) (0,(List.set a0.2 (Int.toNat a0.1) a1))).bind fun a3=>some (.inl ((aJ a0.1 1),a3))) else (some (.inr a0.2))
def nW (g:rI) (l:(List aK)):Option ((List (List Bool))):=
 (mk (imax 0 (aE (g.x.length:Int) 1)) []).bind fun l2=>(aM (lF g l l2) (0,l2)).bind fun a0=>some a0
end Go.SM
namespace Go.SM
open Go Go.VI Go.Cells
theorem Dh {l:List Int} (h:l.Pairwise fun x y=>x<y) (hl:l.length≤10000) (n:Int) :
  ∃ r,dO n l=some r∧r.Pairwise (fun x y=>x<y)∧(∀ x,x ∈ r↔x ∈ l∨x=n)∧r.length≤l.length+1:=by
 obtain ⟨i',q1,i,rfl,hi,ha,hb⟩:=iH (fun s:Int=>s.toNat)
  (fun s:Int=>∃ k:Nat,s=k∧k≤l.length∧∀ x ∈ l.drop k,n<x)
  (fun r:Int=>∃ k:Nat,r=k∧k≤l.length∧(∀ x ∈ l.drop k,n<x)∧(0<k→∀ y,l[k-1]?=some y→y≤n)) (lA n l) (by
   rintro s ⟨k,rfl,hk,hI⟩
   unfold lA
   by_cases h0:0<k
   ·obtain ⟨x,hx⟩:∃ x,l[k-1]?=some x:=⟨_,List.getElem?_eq_getElem (by omega)⟩
    have e1:aE (k:Int) 1=((k-1:Nat):Int):=by rw [aW (by omega) (by omega)];omega
    have d:decide ((k:Int)>0)=true:=by simp;omega
    simp only [d,if_true,e1,bD hx,Option.bind_some]
    by_cases hg:x>n
    ·left
     refine ⟨((k-1:Nat):Int),by simp [hg],⟨k-1,rfl,by omega,fun y hy=>?_⟩,by omega⟩
     rw [List.drop_eq_getElem_cons (show k-1<l.length by omega),show k-1+1=k by omega] at hy
     rcases List.mem_cons.1 hy with rfl | hy
     ·rw [List.getElem?_eq_getElem (by omega)] at hx;injection hx with hx;rw [hx];exact hg
     ·exact hI y hy
    ·right
     refine ⟨(k:Int),by simp [hg],k,rfl,hk,hI,fun _ y hy=>?_⟩
     rw [hx] at hy;injection hy with hy;omega
   ·right
    have d:decide ((k:Int)>0)=false:=by simp;omega
    exact ⟨(k:Int),by simp only [d,Bool.false_eq_true,if_false,Option.bind_some],k,rfl,hk,hI,fun q=>absurd q h0⟩) (l.length:Int) ⟨l.length,rfl,Nat.le_refl _,by simp⟩
 unfold dO
 rw [q1,Option.bind_some]
 have hj:∃ b:Bool,(if decide ((i:Int)>0) then (idx l (aE (i:Int) 1)).bind (fun x48=>some (x48==n)) else some false)=some b∧(b=true↔0<i∧l[i-1]?=some n):=by
  by_cases h0:0<i
  ·obtain ⟨x,hx⟩:∃ x,l[i-1]?=some x:=⟨_,List.getElem?_eq_getElem (by omega)⟩
   have e1:aE (i:Int) 1=((i-1:Nat):Int):=by rw [aW (by omega) (by omega)];omega
   have d:decide ((i:Int)>0)=true:=by simp;omega
   refine ⟨x==n,by simp only [d,if_true,e1,bD hx,Option.bind_some], ?_⟩
   rw [beq_iff_eq,hx]
   exact ⟨fun q=>⟨h0,by rw [q]⟩,fun q=>Option.some.inj q.2⟩
  ·have d:decide ((i:Int)>0)=false:=by simp;omega
   exact ⟨false,by simp only [d,Bool.false_eq_true,if_false],by simp;omega⟩
 obtain ⟨b,hj1,hj2⟩:=hj
 rw [hj1,Option.bind_some]
 cases b with
 | true =>
   obtain ⟨h0,hn⟩:=hj2.1 rfl
   refine ⟨l,rfl,h,fun x=>⟨.inl,fun q=>q.elim id fun e=>by rw [e];exact List.mem_of_getElem? hn⟩,by omega⟩
 | false =>
   have hnot:¬ (0<i∧l[i-1]?=some n):=fun q=>by have:=hj2.2 q;cases this
   rw [if_neg (by simp),uK (by simp [LIM];omega)]
   have hlen:aE ((l++[0]).length:Int) 1=(l.length:Int):=by rw [List.length_append,List.length_singleton,aW (by omega) (by omega)];omega
   obtain ⟨r,t1,z,rfl⟩:=iH (fun s:Int×List Int=>(s.1-(i:Int)).toNat)
    (fun s:Int×List Int=>∃ j:Nat,s.1=j∧i≤j∧j≤l.length∧∃ z,s.2=l.take j++z::l.drop j)
    (fun r:List Int=>∃ z,r=l.take i++z::l.drop i) (lB (i:Int)) (by
     rintro ⟨s,c⟩ ⟨j,hs,hij,hjl,z,hc⟩
     simp only at hs hc
     subst hs hc
     unfold lB
     by_cases hg:i<j
     ·left
      have d:decide ((j:Int)>(i:Int))=true:=by simp;omega
      have e1:aE (j:Int) 1=((j-1:Nat):Int):=by rw [aW (by omega) (by omega)];omega
      have ht:(l.take j).length=j:=by rw [List.length_take];omega
      have g1:(l.take j++z::l.drop j)[j-1]?=some (l[j-1]'(by omega)):=by
       rw [List.getElem?_append_left (by omega),List.getElem?_take,if_pos (by omega),List.getElem?_eq_getElem (by omega)]
      have g2:(l.take j++z::l.drop j)[j]?=some z:=by rw [List.getElem?_append_right (by omega),ht];simp
      simp only [d,if_true,e1,bD g1,bD g2,Option.bind_some,Int.toNat_natCast]
      refine ⟨_,rfl,⟨j-1,rfl,by omega,by omega,l[j-1]'(by omega), ?_⟩,by simp only;omega⟩
      simp only
      rw [List.set_append_right _ _ (by omega),ht]
      have e2:l.take j=l.take (j-1)++[l[j-1]'(by omega)]:=by
       conv=>lhs;rw [show j=(j-1)+1 by omega]
       rw [List.take_add_one,List.getElem?_eq_getElem (by omega)];rfl
      have e3:l.drop (j-1)=l[j-1]'(by omega)::l.drop j:=by
       rw [List.drop_eq_getElem_cons (show j-1<l.length by omega),show j-1+1=j by omega]
      rw [e2,e3,Nat.sub_self,List.set_cons_zero,List.append_assoc];rfl
     ·right
      have d:decide ((j:Int)>(i:Int))=false:=by simp;omega
      obtain rfl:j=i:=by omega
      exact ⟨l.take j++z::l.drop j,by simp only [d,Bool.false_eq_true,if_false],z,rfl⟩) (aE ((l++[0]).length:Int) 1,l++[0]) ⟨l.length,hlen,hi,Nat.le_refl _,0,by simp⟩
   have ht:(l.take i).length=i:=by rw [List.length_take];omega
   have g2:(l.take i++z::l.drop i)[i]?=some z:=by rw [List.getElem?_append_right (by omega),ht];simp
   have e4:(l.take i++z::l.drop i).set i n=l.take i++n::l.drop i:=by rw [List.set_append_right _ _ (by omega),ht];simp
   simp only [Option.bind_some,t1,bD g2,Int.toNat_natCast,e4]
   have hlow:∀ x ∈ l.take i,x<n:=fun x hx=>by
    rcases Nat.eq_zero_or_pos i with q | q
    ·subst q;simp at hx
    ·obtain ⟨y,hy⟩:∃ y,l[i-1]?=some y:=⟨_,List.getElem?_eq_getElem (by omega)⟩
     have hyn:y<n:=by
      have h1:=hb q y hy
      have h2:y≠n:=fun e=>hnot ⟨q,by rw [hy,e]⟩
      omega
     obtain ⟨k,hk⟩:=List.mem_iff_getElem?.1 hx
     have hkl:=aT hk
     rw [List.getElem?_take,if_pos (by omega)] at hk
     by_cases e:k=i-1
     ·subst e;rw [hy] at hk;injection hk with hk;omega
     ·have:=xJ h (show k<i-1 by omega) hk hy;omega
   refine ⟨_,rfl, ?_,fun x=>?_,by rw [List.length_append,List.length_cons,List.length_take,List.length_drop];omega⟩
   ·have hp:=h
    rw [← List.take_append_drop i l,List.pairwise_append] at hp
    rw [List.pairwise_append,List.pairwise_cons]
    refine ⟨hp.1,⟨ha,hp.2.1⟩,fun x hx y hy=>?_⟩
    rcases List.mem_cons.1 hy with rfl | hy
    ·exact hlow x hx
    ·exact hp.2.2 x hx y hy
   ·conv=>rhs;rw [← List.take_append_drop i l]
    simp only [List.mem_append,List.mem_cons]
    grind
theorem Vj {l:List aK} (hv:Eo l) (hl:l.length≤400):∃ xs ys,lM l=some (xs,ys)∧iO xs (xsL l)∧iO ys (ysL l):=by
 obtain ⟨⟨xs,ys⟩,q1,⟨gx1,gx2⟩,⟨gy1,gy2⟩,lx,ly⟩:=jJ l (fun k (s:List Int×List Int)=>((k:Int),s.1,s.2)) (jA l) (fun s=>(s.1,s.2)) (fun k s=>iO s.1 (xsL (l.take k))∧iO s.2 (ysL (l.take k))∧s.1.length≤2*k∧s.2.length≤2*k) ([],[])
  ⟨⟨.nil,by simp [xsL]⟩,⟨.nil,by simp [ysL]⟩,by simp,by simp⟩
  (fun k r s hr hI=>by
   obtain ⟨⟨a1,a2⟩,⟨b1,b2⟩,la,lb⟩:=hI
   have h1:=aT hr
   have hd:decide ((k:Int)<(l.length:Int))=true:=by simp [h1]
   obtain ⟨e1,e2⟩:=Qv (hv r (List.mem_of_getElem? hr))
   obtain ⟨c1,i1,p1,m1,n1⟩:=Dh a1 (by omega) r.X
   obtain ⟨c2,i2,p2,m2,n2⟩:=Dh p1 (by omega) (r.X+r.W)
   obtain ⟨c3,i3,p3,m3,n3⟩:=Dh b1 (by omega) r.Y
   obtain ⟨c4,i4,p4,m4,n4⟩:=Dh p3 (by omega) (r.Y+r.H)
   unfold jA
   simp only [hd,if_true,bD hr,Option.bind_some,e1,e2,i1,i2,i3,i4,bA k (by omega)]
   refine ⟨(c2,c4),rfl,⟨p2,fun x=>?_⟩,⟨p4,fun x=>?_⟩,by simp only;omega,by simp only;omega⟩
   ·rw [m2,m1,a2,gA hr,Ni]
    simp [xsL,or_assoc]
   ·rw [m4,m3,b2,gA hr,Nj]
    simp [ysL,or_assoc]) (fun s _=>by simp [jA])
 rw [List.take_length] at gx2 gy2
 simp only at gx1 gx2 gy1 gy2
 refine ⟨xs,ys, ?_,⟨gx1,gx2⟩,⟨gy1,gy2⟩⟩
 unfold lM
 rw [show ((0:Int),([]:List Int),([]:List Int))=(((0:Nat):Int),(([],[]):List Int×List Int).1,(([],[]):List Int×List Int).2) from rfl,q1]
 rfl
end Go.SM
namespace Go.SM
open Go Go.VI
theorem Xh (l:List aK) (hl:l.length≤9223372036854775806):eZ l=some (!(l.any fun x=>!decide (vR x))):=by
 have key:aM (fB l) 0=some (if (l.any fun x=>!decide (vR x)) then .inl () else .inr ()):=by
  refine vF l (fB l) (fun k=>(k:Int)) _ _ _ rfl (fun k x hx=>?_) ?_
  ·have hk:=(List.getElem?_eq_some_iff.1 hx).1
   unfold fB
   have h1:decide ((k:Int)<(l.length:Int))=true:=by simp;omega
   simp only [h1,if_true,bD hx,Option.bind_some,Ra]
   rw [aX (a:=(k:Int)) (by omega) (by omega)]
   rfl
  ·simp [fB]
 unfold eZ
 rw [key]
 cases (l.any fun x=>!decide (vR x)) <;> rfl
def AF (h x:aK):Bool:=if h.X>x.X then (if h.Y>x.Y then (if aJ h.X h.W<aJ x.X x.W then decide (aJ h.Y h.H<aJ x.Y x.H) else false) else false) else false
def So (p:aK→aK→Bool) (l:List aK) (k:Nat):Bool:=match l[k]? with
 | some x=>(l.take k).any (p x)
 | none=>false
def DV (x y:aK):Bool:=AG x y==0
def oH (x y:aK):Bool:=decide (ovR x y)
theorem Zm (x:aK) (l:List aK) (hl:l.length≤1000):kT x l=some (l.any (oH x)):=by
 have key:aM (fN x l) 0=some (if l.any (oH x) then .inl () else .inr ()):=by
  refine vF l (fN x l) (fun k=>(k:Int)) _ _ _ rfl (fun k y hy=>?_) ?_
  ·have hk:=(List.getElem?_eq_some_iff.1 hy).1
   unfold fN
   have h1:decide ((k:Int)<(l.length:Int))=true:=by simp;omega
   simp only [h1,if_true,bD hy,Option.bind_some,Qz]
   rw [aX (a:=(k:Int)) (by omega) (by omega)]
   rfl
  ·simp [fN]
 unfold kT
 rw [key]
 cases l.any (oH x) <;> rfl
def JA (l:List aK) (a:Int):Int:=l.foldl (fun s r=>min s r.X) a
def JB (l:List aK) (a:Int):Int:=l.foldl (fun s r=>min s r.Y) a
end Go.SM
namespace Go.SM
open Go Go.VI Go.Cells
end Go.SM
namespace Go.SM
open Go Go.VI
set_option maxRecDepth 10000
theorem Ve (h:List Int):bX h=Cm (brC aZ) h:=by kernel_rfl
theorem Nq (h:List Int):jC h=Ez (fun x y=>x==y) 0 h:=by kernel_rfl
def ltI (x y:Int):Bool:=decide (x<y)
theorem HC:Jr ltI where
 asymm x y h:=by unfold ltI at *;simp at *;omega
 neg x y z h:=by unfold ltI at *;simp at *;omega
theorem IY (x y:Int):aZ x y=some (if x<y then -1 else if y<x then 1 else 0):=by
 unfold aZ pU
 have e:∀ z:Int,(z != z)=false:=fun z=>by simp
 simp only [e,Option.bind_some,Bool.false_eq_true,if_false]
 by_cases h1:x<y
 ·simp [h1]
 ·by_cases h2:x>y
  ·have:y<x:=h2
   simp [h1,h2,this]
  ·have:¬ y<x:=h2
   simp [h1,h2,this]
theorem brI (β:Type) (x y:Int) (k:Bool→Option β):brC aZ β x y k=k (ltI x y):=by
 unfold brC ltI
 rw [IY,Option.bind_some]
 congr 1
 by_cases h1:x<y
 ·simp [h1]
 ·by_cases h2:y<x <;> simp [h1,h2]
theorem Vf {l:List Int} (hl:l.length≤1073741824):∃ r,bX l=some r∧r.Perm l∧r.Pairwise fun x y=>ltI y x=false:=by
 rw [Ve]
 exact Tj (P:=fun _=>True) (d:=0) (fun β x y k _ _=>brI β x y k) HC ⟨by omega,fun _ _ _=>trivial⟩
theorem Hv {l:List Int} (hl:l.length≤1073741824):∃ r,cF l=some r∧r.Pairwise (fun x y=>x<y)∧∀ x,x ∈ r↔x ∈ l:=by
 obtain ⟨r,h1,h2,h3⟩:=Vf hl
 have hr:r.length=l.length:=h2.length_eq
 obtain ⟨q,q1,q2,q3⟩:=Tz HC (fun x y a b=>by unfold ltI at a b;simp at a b;omega) (eqb:=fun x y=>x==y) (fun x y=>by simp) (0:Int) (l:=r) (by omega) h3
 refine ⟨q, ?_,q2.imp (fun h=>by unfold ltI at h;simpa using h),fun x=>by rw [q3,h2.mem_iff]⟩
 unfold cF nU
 rw [uK (by simp [LIM];omega)]
 simp only [List.nil_append,Option.bind_some,h1,Nq,q1]
def inB (a b:Int) (r:aK):Prop:=a≤r.X∧r.X+r.W≤a+1048576∧b≤r.Y∧r.Y+r.H≤b+1048576
def qR (r:aK):aK:=⟨-(r.Y+r.H),r.X,r.H,r.W⟩
theorem JE {r:aK} (h:vR r):vR (qR r):=by unfold vR at h ⊢;simp only [qR];omega
theorem JD {a b:Int} {r:aK} (h:inB a b r):inB (-(b+1048576)) a (qR r):=by unfold inB at h ⊢;simp only [qR];omega
def Good (a b:Int) (l:List aK):Prop:=l.length≤12∧∀ r ∈ l,vR r∧inB a b r
theorem Good.q {a b:Int} {l:List aK} (h:Good a b l):Good (-(b+1048576)) a (l.map qR):=by
 refine ⟨by rw [List.length_map];exact h.1,fun r hr=>?_⟩
 obtain ⟨x,hx,rfl⟩:=List.mem_map.1 hr
 exact ⟨JE (h.2 x hx).1,JD (h.2 x hx).2⟩
structure Iso (g:aK→aK) (l:List aK):Prop where
 v:∀ a ∈ l,vR a→vR (g a)
 ov:∀ a ∈ l,∀ b ∈ l,oH (g a) (g b)=oH a b
 to:∀ a ∈ l,∀ b ∈ l,tD (g a) (g b)=tD a b
 de:∀ a ∈ l,∀ b ∈ l,AF (g a) (g b)=AF a b
 ze:∀ a ∈ l,∀ b ∈ l,DV (g a) (g b)=DV a b
 th:∀ a ∈ l,(((g a).W==1) || ((g a).H==1))=((a.W==1) || (a.H==1))
theorem Sp {g:aK→aK} {p:aK→aK→Bool} {l:List aK} (h:∀ a ∈ l,∀ b ∈ l,p (g a) (g b)=p a b) (k:Nat):So p (l.map g) k=So p l k:=by
 unfold So
 rw [List.getElem?_map]
 cases e:l[k]? with
 | none=>rfl
 | some x =>
   have hx:=List.mem_of_getElem? e
   simp only [Option.map_some]
   rw [← List.map_take,List.any_map,Bool.eq_iff_iff,List.any_eq_true,List.any_eq_true]
   constructor
   ·rintro ⟨y,hy,q⟩;exact ⟨y,hy,by rw [← h x hx y (List.mem_of_mem_take hy)];exact q⟩
   ·rintro ⟨y,hy,q⟩;exact ⟨y,hy,by show p (g x) (g y)=true;rw [h x hx y (List.mem_of_mem_take hy)];exact q⟩
theorem Wa {α β:Type} (g:α→β) (l:List α) (i:Int):idx (l.map g) i=(idx l i).map g:=by
 unfold idx
 split
 ·rw [List.getElem?_map]
 ·rfl
theorem EM {g:aK→aK} {l:List aK} (h:∀ a ∈ l,∀ b ∈ l,tD (g a) (g b)=tD a b):nA (l.map g)=nA l:=by
 have mem:∀ {i:Int} {x:aK},idx l i=some x→x ∈ l:=fun {i x} e=>by
  unfold idx at e
  split at e
  ·exact List.mem_of_getElem? e
  ·cases e
 have b2:∀ x:Int,oB (l.map g) x=oB l x:=by
  intro x
  funext s
  unfold oB
  rw [List.length_map,Wa,Wa]
  cases e1:idx l x with
  | none=>rfl
  | some u =>
    cases e2:idx l s.1 with
    | none=>rfl
    | some w =>
      simp only [Option.map_some,Option.bind_some]
      rw [h u (mem e1) w (mem e2)]
 have b3:oD (l.map g)=oD l:=by
  funext s
  unfold oD
  simp only [b2]
 unfold nA
 rw [List.length_map,b3]
structure VG (R C F:List aK):Prop where
 n1:R.length≤12
 n0:0<R.length
 n2:C.length≤12
 n3:F.length≤12
 v:∀ r ∈ R++(C++F),vR r
 ov:∀ k,k<R.length→So oH R k=false
 co:nA R=some true
 ho:∀ k,k<(C++F).length→∃ x,(C++F)[k]?=some x∧R.any (AF x)=true∧(k<C.length→((x.W==1) || (x.H==1))=false)
 ze:∀ k,k<(C++F).length→So DV (C++F) k=false
theorem VG.map {R C F:List aK} {g:aK→aK} (h:VG R C F) (i:Iso g (R++(C++F))):VG (R.map g) (C.map g) (F.map g):=by
 have mR:∀ {a:aK},a ∈ R→a ∈ R++(C++F):=fun h=>List.mem_append.2 (.inl h)
 have mC:∀ {a:aK},a ∈ C++F→a ∈ R++(C++F):=fun h=>List.mem_append.2 (.inr h)
 refine ⟨by rw [List.length_map];exact h.n1,by rw [List.length_map];exact h.n0,by rw [List.length_map];exact h.n2,by rw [List.length_map];exact h.n3,fun r hr=>?_,fun k hk=>?_, ?_,fun k hk=>?_,fun k hk=>?_⟩
 ·rw [← List.map_append,← List.map_append] at hr
  obtain ⟨a,ha,rfl⟩:=List.mem_map.1 hr
  exact i.v a ha (h.v a ha)
 ·rw [Sp (fun a ha b hb=>i.ov a (mR ha) b (mR hb))]
  exact h.ov k (by rw [List.length_map] at hk;exact hk)
 ·rw [EM (fun a ha b hb=>i.to a (mR ha) b (mR hb))];exact h.co
 ·rw [← List.map_append,List.length_map] at hk
  obtain ⟨x,h1,h2,h3⟩:=h.ho k hk
  have hx:=List.mem_of_getElem? h1
  refine ⟨g x,by rw [← List.map_append,List.getElem?_map,h1];rfl, ?_,fun hc=>?_⟩
  ·obtain ⟨r,hr,q⟩:=List.any_eq_true.1 h2
   rw [List.any_eq_true]
   exact ⟨g r,List.mem_map_of_mem hr,by rw [i.de x (mC hx) r (mR hr)];exact q⟩
  ·rw [i.th x (mC hx)];exact h3 (by rw [List.length_map] at hc;exact hc)
 ·rw [← List.map_append] at hk ⊢
  rw [Sp (fun a ha b hb=>i.ze a (mC ha) b (mC hb))]
  exact h.ze k (by rw [List.length_map] at hk;exact hk)
def lo (l:List aK):Int×Int:=match l with
 | []=>(0,0)
 | r::_=>(JA l r.X,JB l r.Y)
def cZ (i:Int) (j1:Int) (a_0:(List (List Bool))):Option (Int):=
 (if (decide (i<0)) then (some true) else (if (decide (j1<0)) then (some true) else (if (decide (i ≥ (a_0.length:Int))) then (some true) else ((idx a_0 i).bind fun a1=>if (decide (j1 ≥ (a1.length:Int))) then (some true) else ((idx a_0 i).bind fun a2=>(idx a2 j1).bind fun a3=>some (!a3)))))).bind fun a0=>if a0 then (some 0) else (some 1)
def kE (i:Int) (a_0_0_0:(List (List Bool))) (a2_0:Int):Option (Int):=
 (cZ i a2_0 a_0_0_0).bind fun r5=>(cZ i (aE a2_0 1) a_0_0_0).bind fun r6=>some (aE r5 r6)
def oO (from0:Int) (to1:Int) (a_0:Int) (h381:(List aI)):Option ((List aI)):=
 (app h381 [(aI.mk from0 a_0 to1 a_0)]).bind fun l2=>some l2
def dA (a2:Int×Int×(List aI)) (a0:Int):(List aI)→Option (Int×Int×(List aI) ⊕ (List aI)):=fun a1 =>
 some (.inl (a0,(aJ a2.2.1 1),a1))
def mS (side_0_0_0_0:(List (List Bool))) (side_1_0:Int) (a3:Int×Int×(List aI)):Int→Option (Int ⊕ Int):=fun a0 =>
 (if (decide (a0>0)) then ((kE (aE a0 1) side_0_0_0_0 side_1_0).bind fun a2=>some (a2==a3.1)) else (some false)).bind fun a1=>if a1 then (some (.inl (aE a0 1))) else (some (.inr a0))
def dB (ends:(List Int)) (side_0_0_0_0:(List (List Bool))) (side_1_0:Int) (found_1_0:Int) (a0:Int×Int×(List aI)):Int→Option (Int×Int×(List aI) ⊕ (List aI)):=fun a1 =>
 (if (a1 != a0.1) then (some (a0.1 != 0)) else (some false)).bind fun a2=>if a2 then ((aM (mS side_0_0_0_0 side_1_0 a0) (aE a0.2.1 1)).bind fun a4=>(idx ends a4).bind fun a5=>(idx ends a0.2.1).bind fun a6=>(oO a5 a6 found_1_0 a0.2.2).bind fun a3=>dA a0 a1 a3) else (dA a0 a1 a0.2.2)
def mT (ends:(List Int)) (side_0_0_0_0:(List (List Bool))) (side_1_0:Int) (found_1_0:Int):Int×Int×(List aI)→Option (Int×Int×(List aI) ⊕ (List aI)):=fun a0 =>
 if (decide (a0.2.1<(ends.length:Int))) then (if (decide (a0.2.1<(aE (ends.length:Int) 1))) then ((kE a0.2.1 side_0_0_0_0 side_1_0).bind fun a1=>dB ends side_0_0_0_0 side_1_0 found_1_0 a0 a1) else (dB ends side_0_0_0_0 side_1_0 found_1_0 a0 0)) else (some (.inr a0.2.2))
def dU (ends:(List Int)) (side_0_0_0_0:(List (List Bool))) (side_1_0:Int) (found_1_0:Int) (h381:(List aI)):Option ((List aI)):=
 (aM (mT ends side_0_0_0_0 side_1_0 found_1_0) (0,0,h381)).bind fun a0=>some a0
def kF (j0:Int) (a_0_0_0:(List (List Bool))) (a2_0:Int):Option (Int):=
 (cZ a2_0 j0 a_0_0_0).bind fun r5=>(cZ (aE a2_0 1) j0 a_0_0_0).bind fun r6=>some (aE r5 r6)
def oQ (from0:Int) (to1:Int) (a_0:Int) (h381:(List aI)):Option ((List aI)):=
 (app h381 [(aI.mk a_0 from0 a_0 to1)]).bind fun l2=>some l2
def dD (a2:Int×Int×(List aI)) (a0:Int):(List aI)→Option (Int×Int×(List aI) ⊕ (List aI)):=fun a1 =>
 some (.inl (a0,(aJ a2.2.1 1),a1))
def mV (side_0_0_0_0:(List (List Bool))) (side_1_0:Int) (a3:Int×Int×(List aI)):Int→Option (Int ⊕ Int):=fun a0 =>
 (if (decide (a0>0)) then ((kF (aE a0 1) side_0_0_0_0 side_1_0).bind fun a2=>some (a2==a3.1)) else (some false)).bind fun a1=>if a1 then (some (.inl (aE a0 1))) else (some (.inr a0))
def dF (ends:(List Int)) (side_0_0_0_0:(List (List Bool))) (side_1_0:Int) (found_1_0:Int) (a0:Int×Int×(List aI)):Int→Option (Int×Int×(List aI) ⊕ (List aI)):=fun a1 =>
 (if (a1 != a0.1) then (some (a0.1 != 0)) else (some false)).bind fun a2=>if a2 then ((aM (mV side_0_0_0_0 side_1_0 a0) (aE a0.2.1 1)).bind fun a4=>(idx ends a4).bind fun a5=>(idx ends a0.2.1).bind fun a6=>(oQ a5 a6 found_1_0 a0.2.2).bind fun a3=>dD a0 a1 a3) else (dD a0 a1 a0.2.2)
def mW (ends:(List Int)) (side_0_0_0_0:(List (List Bool))) (side_1_0:Int) (found_1_0:Int):Int×Int×(List aI)→Option (Int×Int×(List aI) ⊕ (List aI)):=fun a0 =>
 if (decide (a0.2.1<(ends.length:Int))) then (if (decide (a0.2.1<(aE (ends.length:Int) 1))) then ((kF a0.2.1 side_0_0_0_0 side_1_0).bind fun a1=>dF ends side_0_0_0_0 side_1_0 found_1_0 a0 a1) else (dF ends side_0_0_0_0 side_1_0 found_1_0 a0 0)) else (some (.inr a0.2.2))
def dV (ends:(List Int)) (side_0_0_0_0:(List (List Bool))) (side_1_0:Int) (found_1_0:Int) (h381:(List aI)):Option ((List aI)):=
 (aM (mW ends side_0_0_0_0 side_1_0 found_1_0) (0,0,h381)).bind fun a0=>some a0
def nL (r6:rI) (r8:(List (List Bool))):Int×(List aI)→Option (Int×(List aI) ⊕ (List aI)):=fun a0 =>
 if (decide (a0.1<(r6.y.length:Int))) then ((idx r6.y a0.1).bind fun a2=>(dU r6.x r8 a0.1 a2 a0.2).bind fun a1=>some (.inl ((aJ a0.1 1),a1))) else (some (.inr a0.2))
def nM (r6:rI) (r8:(List (List Bool))):Int×(List aI)→Option (Int×(List aI) ⊕ (List aI)):=fun a0 =>
 if (decide (a0.1<(r6.x.length:Int))) then ((idx r6.x a0.1).bind fun a2=>(dV r6.y r8 a0.1 a2 a0.2).bind fun a1=>some (.inl ((aJ a0.1 1),a1))) else (some (.inr a0.2))
def lE (l:(List aK)):Option ((List aI)×Int):=
 (Ak [l]).bind fun r4=>if (r4 != 0) then (some ([],r4)) else ((uU [l]).bind fun r6=>(nW r6 l).bind fun r8=>(aM (nL r6 r8) (0,[])).bind fun a1=>(aM (nM r6 r8) (0,a1)).bind fun a0=>some (a0,0))
def sA (a1:Int×(List aI)):(List aI)→Option (Int×(List aI) ⊕ (List aI)):=fun a0 =>
 some (.inl ((aJ a1.1 1),a0))
def oW (r4:(List aI)×Int) (a0:aI):Int×(List aI)→Option (Int×(List aI) ⊕ (List aI)):=fun a2 =>
 if (decide (a2.1<(r4.1.length:Int))) then ((idx r4.1 a2.1).bind fun a1=>(if (a0.Y1==a0.Y2) then (if (a1.Y1==a1.Y2) then (if (a0.Y1==a1.Y1) then (if (decide ((imax a0.X1 a1.X1)<(rA a0.X2 a1.X2))) then (some true) else (if (a0.X1==a0.X2) then (if (a1.X1==a1.X2) then (if (a0.X1==a1.X1) then (some (decide ((imax a0.Y1 a1.Y1)<(rA a0.Y2 a1.Y2)))) else (some false)) else (some false)) else (some false))) else (if (a0.X1==a0.X2) then (if (a1.X1==a1.X2) then (if (a0.X1==a1.X1) then (some (decide ((imax a0.Y1 a1.Y1)<(rA a0.Y2 a1.Y2)))) else (some false)) else (some false)) else (some false))) else (if (a0.X1==a0.X2) then (if (a1.X1==a1.X2) then (if (a0.X1==a1.X1) then (some (decide ((imax a0.Y1 a1.Y1)<(rA a0.Y2 a1.Y2)))) else (some false)) else (some false)) else (some false))) else (if (a0.X1==a0.X2) then (if (a1.X1==a1.X2) then (if (a0.X1==a1.X1) then (some (decide ((imax a0.Y1 a1.Y1)<(rA a0.Y2 a1.Y2)))) else (some false)) else (some false)) else (some false))).bind fun a3=>if a3 then ((app a2.2 [(aI.mk (imax a0.X1 a1.X1) (imax a0.Y1 a1.Y1) (rA a0.X2 a1.X2) (rA a0.Y2 a1.Y2))]).bind fun a4=>sA a2 a4) else (sA a2 a2.2)) else (some (.inr a2.2))
def oX (r2:(List aI)×Int) (r4:(List aI)×Int):Int×(List aI)→Option (Int×(List aI) ⊕ (List aI)):=fun a0 =>
 if (decide (a0.1<(r2.1.length:Int))) then ((idx r2.1 a0.1).bind fun a1=>(aM (oW r4 a1) (0,a0.2)).bind fun a2=>some (.inl ((aJ a0.1 1),a2))) else (some (.inr a0.2))
def iU (a:(List aK)) (b:(List aK)):Option ((List aI)×Int):=
 (lE a).bind fun r2=>(lE b).bind fun r4=>(if (r2.2==4) then (some true) else (some (r4.2==4))).bind fun j9=>if j9 then (some ([],4)) else ((if (r2.2 != 0) then (some true) else (some (r4.2 != 0))).bind fun a1=>if a1 then (some ([],1)) else ((tX a b).bind fun a2=>if a2 then (some ([],7)) else ((aM (oX r2 r4) (0,[])).bind fun a0=>some (a0,0))))
def iK (regions:(List (List aK))) (x1:Int) (y:Int):Int→Option (Int ⊕ (Int ⊕ Unit)):=fun a0 =>
 if (decide (a0<(regions.length:Int))) then ((idx regions a0).bind fun a2=>(jN a2 x1 y).bind fun a1=>if a1 then (some (.inr (.inl a0))) else (some (.inl (aJ a0 1)))) else (some (.inr (.inr (()))))
def kU (regions:(List (List aK))) (x1:Int) (y:Int):Option (Int):=
 (aM (iK regions x1 y) 0).bind fun a1=>match a1 with | .inl a0=>some a0 | .inr a2=>some (-1)
def fC (a1:Int×(List (List Int))):(List (List Int))→Option (Int×(List (List Int)) ⊕ (List (List Int))):=fun a0 =>
 some (.inl ((aJ a1.1 1),a0))
def fD (regions:(List (List aK))) (xs:(List Int)) (ys:(List Int)) (a1:Int×(List (List Int))):Int×(List (List Int))→Option (Int×(List (List Int)) ⊕ (List (List Int))):=fun a0 =>
 if (decide (a0.1≤(ys.length:Int))) then ((idx a0.2 a1.1).bind fun a2=>(idx a2 a0.1).bind fun a8=>(if (decide (a1.1>0)) then (if (decide (a0.1>0)) then (if (decide (a1.1<(xs.length:Int))) then (some (decide (a0.1<(ys.length:Int)))) else (some false)) else (some false)) else (some false)).bind fun a4=>if a4 then ((idx (List.set a0.2 (Int.toNat a1.1) (List.set a2 (Int.toNat a0.1) (-1))) a1.1).bind fun a3=>(idx xs (aE a1.1 1)).bind fun a6=>(idx ys (aE a0.1 1)).bind fun a7=>(kU regions a6 a7).bind fun a5=>(idx a3 a0.1).bind fun a9=>fC a0 (List.set (List.set a0.2 (Int.toNat a1.1) (List.set a2 (Int.toNat a0.1) (-1))) (Int.toNat a1.1) (List.set a3 (Int.toNat a0.1) a5))) else (fC a0 (List.set a0.2 (Int.toNat a1.1) (List.set a2 (Int.toNat a0.1) (-1))))) else (some (.inr a0.2))
def gW (regions:(List (List aK))) (xs:(List Int)) (ys:(List Int)):Int×(List (List Int))→Option (Int×(List (List Int)) ⊕ (List (List Int))):=fun a0 =>
 if (decide (a0.1≤(xs.length:Int))) then ((mk (aJ (ys.length:Int) 1) 0).bind fun a1=>(idx a0.2 a0.1).bind fun a3=>(aM (fD regions xs ys a0) (0,(List.set a0.2 (Int.toNat a0.1) a1))).bind fun a2=>some (.inl ((aJ a0.1 1),a2))) else (some (.inr a0.2))
def jO (regions:(List (List aK))) (xs:(List Int)) (ys:(List Int)):Option ((List (List Int))):=
 (mk (aJ (xs.length:Int) 1) []).bind fun l2=>(aM (gW regions xs ys) (0,l2)).bind fun a0=>some a0
def bI (x1:aL) (h380:(List aL)):Option ((List aL)):=
 if (x1.Low==x1.kZ) then (some h380) else ((if (decide ((aE (h380.length:Int) 1) ≥ 0)) then ((idx h380 (aE (h380.length:Int) 1)).bind fun a4=>if (a4.Low==x1.Low) then ((idx h380 (aE (h380.length:Int) 1)).bind fun a5=>if (a5.kZ==x1.kZ) then ((idx h380 (aE (h380.length:Int) 1)).bind fun a6=>if (a6.At.X2==x1.At.X1) then ((idx h380 (aE (h380.length:Int) 1)).bind fun a7=>if (a7.At.Y2==x1.At.Y1) then ((idx h380 (aE (h380.length:Int) 1)).bind fun a8=>if (a8.At.Y1==x1.At.Y2) then (some true) else ((idx h380 (aE (h380.length:Int) 1)).bind fun a9=>some (a9.At.X1==x1.At.X2))) else (some false)) else (some false)) else (some false)) else (some false)) else (some false)).bind fun a2=>if a2 then ((idx h380 (aE (h380.length:Int) 1)).bind fun a0=>(idx (List.set h380 (Int.toNat (aE (h380.length:Int) 1)) (aL.mk (aI.mk a0.At.X1 a0.At.Y1 x1.At.X2 a0.At.Y2) a0.Low a0.kZ)) (aE (h380.length:Int) 1)).bind fun a1=>some (List.set (List.set h380 (Int.toNat (aE (h380.length:Int) 1)) (aL.mk (aI.mk a0.At.X1 a0.At.Y1 x1.At.X2 a0.At.Y2) a0.Low a0.kZ)) (Int.toNat (aE (h380.length:Int) 1)) (aL.mk (aI.mk a1.At.X1 a1.At.Y1 a1.At.X2 x1.At.Y2) a1.Low a1.kZ))) else ((app h380 [x1]).bind fun a3=>some a3))
def gL (regions:(List (List aK))):Int×(List aK)→Option (Int×(List aK) ⊕ (List aK)):=fun a0 =>
 if (decide (a0.1<(regions.length:Int))) then ((idx regions a0.1).bind fun a2=>(app a0.2 a2).bind fun a1=>some (.inl ((aJ a0.1 1),a1))) else (some (.inr a0.2))
def eO (a3:(List Int)×(List Int)) (b2:(List (List Int))) (a1:Int×(List aL)):Int×(List aL)→Option (Int×(List aL) ⊕ (List aL)):=fun a0 =>
 if (decide ((aJ a0.1 1)<(a3.1.length:Int))) then ((idx a3.1 a0.1).bind fun a4=>(idx a3.2 a1.1).bind fun a5=>(idx a3.1 (aJ a0.1 1)).bind fun a6=>(idx a3.2 a1.1).bind fun a7=>(idx b2 (aJ a0.1 1)).bind fun a8=>(idx a8 a1.1).bind fun a9=>(idx b2 (aJ a0.1 1)).bind fun b0=>(idx b0 (aJ a1.1 1)).bind fun b1=>(bI (aL.mk (aI.mk a4 a5 a6 a7) a9 b1) a0.2).bind fun a2=>some (.inl ((aJ a0.1 1),a2))) else (some (.inr a0.2))
def eP (a2:(List Int)×(List Int)) (a3:(List (List Int))):Int×(List aL)→Option (Int×(List aL) ⊕ (List aL)):=fun a0 =>
 if (decide (a0.1<(a2.2.length:Int))) then ((aM (eO a2 a3 a0) (0,a0.2)).bind fun a1=>some (.inl ((aJ a0.1 1),a1))) else (some (.inr a0.2))
def eQ (a3:(List Int)×(List Int)) (b2:(List (List Int))) (a1:Int×(List aL)):Int×(List aL)→Option (Int×(List aL) ⊕ (List aL)):=fun a0 =>
 if (decide ((aJ a0.1 1)<(a3.2.length:Int))) then ((idx a3.1 a1.1).bind fun a4=>(idx a3.2 a0.1).bind fun a5=>(idx a3.1 a1.1).bind fun a6=>(idx a3.2 (aJ a0.1 1)).bind fun a7=>(idx b2 a1.1).bind fun a8=>(idx a8 (aJ a0.1 1)).bind fun a9=>(idx b2 (aJ a1.1 1)).bind fun b0=>(idx b0 (aJ a0.1 1)).bind fun b1=>(bI (aL.mk (aI.mk a4 a5 a6 a7) a9 b1) a0.2).bind fun a2=>some (.inl ((aJ a0.1 1),a2))) else (some (.inr a0.2))
def eS (a2:(List Int)×(List Int)) (a3:(List (List Int))):Int×(List aL)→Option (Int×(List aL) ⊕ (List aL)):=fun a0 =>
 if (decide (a0.1<(a2.1.length:Int))) then ((aM (eQ a2 a3 a0) (0,a0.2)).bind fun a1=>some (.inl ((aJ a0.1 1),a1))) else (some (.inr a0.2))
def fV (regions:(List (List aK))):Option ((List aL)):=
 (aM (gL regions) (0,[])).bind fun a4=>(lM a4).bind fun a2=>(jO regions a2.1 a2.2).bind fun a3=>(aM (eP a2 a3) (0,[])).bind fun a0=>(aM (eS a2 a3) (0,a0)).bind fun a1=>some a1
def fA (a:(List aK)) (b:(List aK)):Int→Option (Int ⊕ (Unit ⊕ Unit)):=fun a0 =>
 if (decide (a0<(a.length:Int))) then ((idx a a0).bind fun a2=>(kT a2 b).bind fun a1=>if a1 then (some (.inr (.inl ()))) else (some (.inl (aJ a0 1)))) else (some (.inr (.inr (()))))
def gT (a1:Int×(List aI)):(List aI)→Option (Int×(List aI) ⊕ (List aI)):=fun a0 =>
 some (.inl ((aJ a1.1 1),a0))
def dM (a1:(List aL)):Int×(List aI)→Option (Int×(List aI) ⊕ (List aI)):=fun a0 =>
 if (decide (a0.1<(a1.length:Int))) then (((idx a1 a0.1).bind fun a4=>if (decide (a4.Low ≥ 0)) then ((idx a1 a0.1).bind fun a5=>some (decide (a5.kZ ≥ 0))) else (some false)).bind fun a2=>if a2 then ((idx a1 a0.1).bind fun a6=>(app a0.2 [a6.At]).bind fun a3=>gT a0 a3) else (gT a0 a0.2)) else (some (.inr a0.2))
def eY (a:(List aK)) (b:(List aK)):Option ((List aI)×Int):=
 (if (decide ((a.length:Int)>48)) then (some true) else (some (decide ((b.length:Int)>48)))).bind fun j2=>if j2 then (some ([],4)) else (((eZ a).bind fun a2=>if a2 then ((eZ b).bind fun a3=>some (!a3)) else (some true)).bind fun a1=>if a1 then (some ([],1)) else ((aM (fA a b) 0).bind fun a5=>match a5 with | .inl a6=>some ([],7) | .inr a7=>(fV [a,b]).bind fun a4=>(aM (dM a4) (0,[])).bind fun a0=>some (a0,0)))
def cT (a:(List aI)) (b:(List aI)):Int→Option (Int ⊕ (Unit ⊕ Unit)):=fun a0 =>
 if (decide (a0<(a.length:Int))) then ((idx a a0).bind fun a1=>(idx b a0).bind fun a2=>if (!((a1.X1==a2.X1)&&((a1.Y1==a2.Y1)&&((a1.X2==a2.X2)&&((a1.Y2==a2.Y2)&&true))))) then (some (.inr (.inl ()))) else (some (.inl (aJ a0 1)))) else (some (.inr (.inr (()))))
def dZ (a:(List aI)) (b:(List aI)):Option (Bool):=
 if ((a.length:Int) != (b.length:Int)) then (some false) else ((aM (cT a b) 0).bind fun a0=>match a0 with | .inl a1=>some false | .inr a2=>some true)
def By (taken:(List (List aK))):Int→Option (Int ⊕ Unit):=fun a0 =>
 if (decide (a0<(taken.length:Int))) then ((idx taken a0).bind fun a1=>if (decide ((a1.length:Int)>12)) then (none) else (some (.inl (aJ a0 1)))) else (some (.inr ()))
def Bz (taken:(List (List aK))):Int→Option (Int ⊕ Unit):=fun a0 =>
 if (decide (a0<(taken.length:Int))) then ((idx taken a0).bind fun a2=>(lZ a2).bind fun a1=>if (!a1) then (none) else (some (.inl (aJ a0 1)))) else (some (.inr ()))
def wF (taken:(List (List aK))):Option (Int):=
 if (decide ((taken.length:Int)>8)) then (none) else ((aM (By taken) 0).bind fun a0=>(aM (Bz taken) 0).bind fun a1=>some 0)
def Ap (a0:(List aK)):Unit→Option (Unit ⊕ Unit):=fun a1 =>
 if (decide (0<(a0.length:Int))) then (none) else (some (.inr ()))
def Aq (s0:oL):Int→Option (Int ⊕ Unit):=fun a0 =>
 if (decide (a0<([s0.kY,s0.Used].length:Int))) then ((idx [s0.kY,s0.Used] a0).bind fun a1=>(aM (Ap a1) ()).bind fun a2=>some (.inl (aJ a0 1))) else (some (.inr ()))
def Ar (set2:nK) (a1:(List aK)):Int×(List bB)→Option (Int×(List bB) ⊕ (List bB)):=fun a0 =>
 if (decide (a0.1<(a1.length:Int))) then ((idx a1 a0.1).bind fun a2=>(cD a2).bind fun a4=>if a4 then ((app a0.2 [(bB.mk a2 set2.Gap set2.Tp)]).bind fun a3=>some (.inl ((aJ a0.1 1),a3))) else (none)) else (some (.inr a0.2))
def As (taken:(List (List aK))) (set2:nK):Int×(List bB)→Option (Int×(List bB) ⊕ (List bB)):=fun a0 =>
 if (decide (a0.1<(taken.length:Int))) then ((idx taken a0.1).bind fun a1=>(aM (Ar set2 a1) (0,a0.2)).bind fun a2=>some (.inl ((aJ a0.1 1),a2))) else (some (.inr a0.2))
def uS (s0:oL) (taken:(List (List aK))) (set2:nK):Option ((List bB)):=
 (aM (Aq s0) 0).bind fun a1=>(aM (As taken set2) (0,[])).bind fun a0=>some a0
def Bo (x0:Int) (y:Int):Option (Bool):=
 (pU x0).bind fun r2=>if r2 then (none) else (some (decide (x0<y)))
def pJ (a:Int):Int×(List Int)→Option (Int×(List Int) ⊕ (List Int)):=fun a0 =>
 (if (decide (a0.1>a)) then ((idx a0.2 a0.1).bind fun a4=>(idx a0.2 (aE a0.1 1)).bind fun a5=>(Bo a4 a5).bind fun a3=>some a3) else (some false)).bind fun a2=>if a2 then ((idx a0.2 (aE a0.1 1)).bind fun a1=>(idx a0.2 a0.1).bind fun a6=>(idx a0.2 a0.1).bind fun a7=>(idx (List.set a0.2 (Int.toNat a0.1) a1) (aE a0.1 1)).bind fun a8=>some (.inl ((aE a0.1 1),(List.set (List.set a0.2 (Int.toNat a0.1) a1) (Int.toNat (aE a0.1 1)) a6)))) else (some (.inr a0.2))
def pK (a:Int) (b:Int):Int×(List Int)→Option (Int×(List Int) ⊕ (List Int)):=fun a0 =>
 if (decide (a0.1<b)) then ((aM (pJ a) (a0.1,a0.2)).bind fun a1=>some (.inl ((aJ a0.1 1),a1))) else (some (.inr a0.2))
def kM (a:Int) (b:Int) (h0:(List Int)):Option ((List Int)):=
 (aM (pK a b) ((aJ a 1),h0)).bind fun a0=>some a0
def sH (a:Int) (b:Int) (h0:(List Int)):Unit→Option (Unit ⊕ (List Int)):=fun s1 =>
 if (decide ((aE b a)≤12)) then ((kM a b h0).bind fun r9=>some (.inr r9)) else (none)
def nP (a:Int) (b:Int) (limit:Int) (h0:(List Int)):Option ((List Int)):=
 (aM (sH a b h0) ()).bind fun a0=>some a0
def rL (h0:(List Int)):Option ((List Int)):=
 (Cd (IntKind.wrap .u64 (h0.length:Int))).bind fun r3=>(nP 0 (h0.length:Int) r3 h0).bind fun r4=>some r4
def lY (y:Int) (a_0:(List aK)) (a_1:(List bB)) (a_2:Int) (a_3:Int) (a_4:Int) (a_5:Int) (a_6:Int) (a_7:Int):Option (Bool):=
 (if (decide (y<a_3)) then (some true) else (some (decide (y>(aE (aJ a_3 a_5) a_7))))).bind fun j1=>some j1
def jG (s0:(List Int)) (f_0_0:(List aK)) (f_0_1:(List bB)) (f_0_2:Int) (f_0_3:Int) (f_0_4:Int) (f_0_5:Int) (f_0_6:Int) (f_0_7:Int):Int→Option (Int ⊕ (Int ⊕ Unit)):=fun a0 =>
 if (decide (a0<(s0.length:Int))) then ((idx s0 a0).bind fun a2=>(lY a2 f_0_0 f_0_1 f_0_2 f_0_3 f_0_4 f_0_5 f_0_6 f_0_7).bind fun a1=>if a1 then (some (.inr (.inl a0))) else (some (.inl (aJ a0 1)))) else (some (.inr (.inr (()))))
def eM (s0:(List Int)) (f_0_0:(List aK)) (f_0_1:(List bB)) (f_0_2:Int) (f_0_3:Int) (f_0_4:Int) (f_0_5:Int) (f_0_6:Int) (f_0_7:Int):Option (Int):=
 (aM (jG s0 f_0_0 f_0_1 f_0_2 f_0_3 f_0_4 f_0_5 f_0_6 f_0_7) 0).bind fun a1=>match a1 with | .inl a0=>some a0 | .inr a2=>some (-1)
def bO (a1:Int×Int×(List Int)):Int×(List Int)→Option (Int×Int×(List Int) ⊕ Int×(List Int)):=fun a0 =>
 some (.inl (a0.1,(aJ a1.2.1 1),a0.2))
def iW (del_0_0:(List aK)) (del_0_1:(List bB)) (del_0_2:Int) (del_0_3:Int) (del_0_4:Int) (del_0_5:Int) (del_0_6:Int) (del_0_7:Int):Int×Int×(List Int)→Option (Int×Int×(List Int) ⊕ Int×(List Int)):=fun a0 =>
 if (decide (a0.2.1<(a0.2.2.length:Int))) then ((idx a0.2.2 a0.2.1).bind fun a1=>(lY a1 del_0_0 del_0_1 del_0_2 del_0_3 del_0_4 del_0_5 del_0_6 del_0_7).bind fun a2=>if (!a2) then ((idx a0.2.2 a0.1).bind fun a3=>bO a0 ((aJ a0.1 1),(List.set a0.2.2 (Int.toNat a0.1) a1))) else (bO a0 (a0.1,a0.2.2))) else (some (.inr (a0.1,a0.2.2)))
def eJ (del_0_0:(List aK)) (del_0_1:(List bB)) (del_0_2:Int) (del_0_3:Int) (del_0_4:Int) (del_0_5:Int) (del_0_6:Int) (del_0_7:Int) (h380:(List Int)):Option ((List Int)):=
 (eM h380 del_0_0 del_0_1 del_0_2 del_0_3 del_0_4 del_0_5 del_0_6 del_0_7).bind fun r2=>if (r2==(-1)) then (some h380) else ((aM (iW del_0_0 del_0_1 del_0_2 del_0_3 del_0_4 del_0_5 del_0_6 del_0_7) (r2,(aJ r2 1),h380)).bind fun a0=>if (decide ((0:Int)≤a0.1)&&(decide (a0.1≤(a0.2.length:Int))&&decide ((a0.2.length:Int)≤(a0.2.length:Int)))) then ((slc (cpy a0.2 (Int.toNat a0.1) (List.replicate (Int.toNat (a0.2.length:Int)-Int.toNat a0.1) 0)) 0 a0.1).bind fun a1=>some a1) else none)
def wY (a1:bB) (a2:aK):Int×(List Int)→Option (Int×(List Int) ⊕ (List Int)):=fun a0 =>
 if (decide (a0.1<([0,a1.gap].length:Int))) then ((idx [0,a1.gap] a0.1).bind fun a3=>(app a0.2 [(aE (aJ (aJ a1.aK.Y a1.aK.H) a3) a2.Y),(aE (aE (aE a1.aK.Y a3) a2.Y) a2.H)]).bind fun a4=>some (.inl ((aJ a0.1 1),a4))) else (some (.inr a0.2))
def wZ (s0:jU) (a1:bB):Int×(List Int)→Option (Int×(List Int) ⊕ (List Int)):=fun a0 =>
 if (decide (a0.1<(s0.uT.length:Int))) then ((idx s0.uT a0.1).bind fun a2=>(aM (wY a1 a2) (0,a0.2)).bind fun a3=>some (.inl ((aJ a0.1 1),a3))) else (some (.inr a0.2))
def xA (s0:jU):Int×(List Int)→Option (Int×(List Int) ⊕ (List Int)):=fun a0 =>
 if (decide (a0.1<(s0.cP.length:Int))) then ((idx s0.cP a0.1).bind fun a1=>(aM (wZ s0 a1) (0,a0.2)).bind fun a2=>some (.inl ((aJ a0.1 1),a2))) else (some (.inr a0.2))
def sE (s0:jU):Option ((List Int)):=
 (aM (xA s0) (0,[s0.Dv.Y])).bind fun a3=>(rL a3).bind fun a0=>(jC a0).bind fun a1=>(eJ s0.uT s0.cP s0.Dv.X s0.Dv.Y s0.Dv.W s0.Dv.H s0.w s0.h a1).bind fun a2=>some a2
def Bs (a:bU):Option (Bool):=
 some (decide ((aE a.hi a.lo)<2))
def iL (s0:(List bU)):Int→Option (Int ⊕ Unit):=fun a0 =>
 if (decide (a0<(s0.length:Int))) then ((idx s0 a0).bind fun a2=>(Bs a2).bind fun a1=>if a1 then (none) else (some (.inl (aJ a0 1)))) else (some (.inr ()))
def eA (s0:(List bU)):Option (Int):=
 (aM (iL s0) 0).bind fun a0=>some (-1)
def dP (h380:(List bU)):Option ((List bU)):=
 (eA h380).bind fun r2=>if (r2==(-1)) then (some h380) else (none)
def Eh (h380:(List bU)):Option ((List bU)):=
 (dP h380).bind fun r2=>some r2
def sC (o:bB) (r1:aK) (y:Int):Option ((List bU)):=
 if (decide ((aJ r1.Y y)<(aJ o.aK.Y o.aK.H))) then (if (decide ((imax (imax 0 (aE (aE (aE o.aK.Y r1.Y) y) r1.H)) (aE (aE (aJ r1.Y y) o.aK.Y) o.aK.H)) ≥ o.gap)) then (none) else (if o.common then (none) else (if ((imax (imax 0 (aE (aE (aE o.aK.Y r1.Y) y) r1.H)) (aE (aE (aJ r1.Y y) o.aK.Y) o.aK.H))==0) then (if (o.gap==0) then (none) else ((Eh [(bU.mk (aE (aE (aE o.aK.X r1.X) r1.W) o.gap) (aJ (aE (aJ o.aK.X o.aK.W) r1.X) o.gap))]).bind fun r2=>some r2)) else (none)))) else (none)
def fW (a:Int) (b:Int):Unit→Option (Unit ⊕ Unit):=fun s1 =>
 if (decide ((aJ a 1)<b)) then (none) else (some (.inr ()))
def cG (a:Int) (b:Int) (h0:(List bU)):Option (Unit):=
 (aM (fW a b) ()).bind fun x2=>some ()
def gX (a:Int) (b:Int) (h0:(List bU)):Unit→Option (Unit ⊕ Unit):=fun s1 =>
 if (decide ((aE b a)≤12)) then ((cG a b h0).bind fun r9=>some (.inr ())) else (none)
def dL (a:Int) (b:Int) (limit:Int) (h0:(List bU)):Option (Unit):=
 (aM (gX a b h0) ()).bind fun a0=>some ()
def cM (h0:(List bU)):Option (Unit):=
 (Cd (IntKind.wrap .u64 (h0.length:Int))).bind fun r3=>(dL 0 (h0.length:Int) r3 h0).bind fun r4=>some ()
def wV (s0:jU) (y:Int) (a3:bB):Int×(List bU)→Option (Int×(List bU) ⊕ (List bU)):=fun a0 =>
 if (decide (a0.1<(s0.uT.length:Int))) then ((idx s0.uT a0.1).bind fun a4=>(sC a3 a4 y).bind fun a2=>(app a0.2 a2).bind fun a1=>some (.inl ((aJ a0.1 1),a1))) else (some (.inr a0.2))
def wW (s0:jU) (y:Int):Int×(List bU)→Option (Int×(List bU) ⊕ (List bU)):=fun a0 =>
 if (decide (a0.1<(s0.cP.length:Int))) then ((idx s0.cP a0.1).bind fun a1=>(aM (wV s0 y a1) (0,a0.2)).bind fun a2=>some (.inl ((aJ a0.1 1),a2))) else (some (.inr a0.2))
def sD (s0:jU) (y:Int):Option ((List bU)):=
 (aM (wW s0 y) (0,[])).bind fun a0=>(cM a0).bind fun a1=>some a0
def tC (a1:Int×Bool×Int):(Int×Bool)→Option ((Int×Bool×Int) ⊕ (Int×Bool)):=fun a0 =>
 some (.inl (a0.1,a0.2,(aJ a1.2.2 1)))
def Ig (l:(List bU)) (lo:Int) (hi:Int):(Int×Bool×Int)→Option ((Int×Bool×Int) ⊕ (Int×Bool)):=fun a0 =>
 if (decide (a0.2.2<(l.length:Int))) then ((idx l a0.2.2).bind fun a1=>if (decide (a1.lo<a0.1)) then (if (decide (a0.1<a1.hi)) then (tC a0 (a1.hi,true)) else (tC a0 (a0.1,a0.2.1))) else (none)) else (some (.inr (a0.1,a0.2.1)))
def Ih (l:(List bU)) (lo:Int) (hi:Int):(Int×Bool)→Option ((Int×Bool) ⊕ Int):=fun a1 =>
 if a1.2 then ((aM (Ig l lo hi) (a1.1,false,0)).bind fun a0=>some (.inl (a0.1,a0.2))) else (some (.inr a1.1))
def Ed (l:(List bU)) (lo:Int) (hi:Int):Option (Int×Bool):=
 (aM (Ih l lo hi) (lo,true)).bind fun a0=>some (a0,(decide (a0≤hi)))
def zK (s0:jU) (a0:(List Int)):Unit→Option (Unit ⊕ (Int×Int)):=fun a4 =>
 if (decide (0<(a0.length:Int))) then ((idx a0 0).bind fun a2=>(sD s0 a2).bind fun a3=>(Ed a3 s0.Dv.X (aE (aJ s0.Dv.X s0.Dv.W) s0.w)).bind fun a1=>if a1.2 then (some (.inr (a1.1,a2))) else (none)) else (none)
def uE (s0:jU):Option (Int×Int×Bool):=
 if (decide (s0.w>s0.Dv.W)) then (none) else (if (decide (s0.h>s0.Dv.H)) then (none) else ((sE s0).bind fun a1=>(aM (zK s0 a1) ()).bind fun a0=>some (a0.1,a0.2,true)))
def wE (a1:Bool×Int×Int×Int×Int):(Bool×Int×Int×Int)→Option ((Bool×Int×Int×Int×Int) ⊕ (Bool×Int×Int×Int)):=fun a0 =>
 some (.inl (a0.1,(aJ a1.2.1 1),a0.2.1,a0.2.2.1,a0.2.2.2))
def Mm (a2:kD×Int×ByteArray×ByteArray×Int×Int):(Int×Int×Int)→Option ((Int×Int×Int) ⊕ (Int×Int)):=fun a0 =>
 if (decide (a0.1<(a2.1.bW.length:Int))) then ((idx a2.1.bW a0.1).bind fun a1=>some (.inl ((aJ a0.1 1),(imax a0.2.1 (aJ a1.X a1.W)),(imax a0.2.2 (aJ a1.Y a1.H))))) else (some (.inr (a0.2.1,a0.2.2)))
def Mn (s0:oL) (x2:kD) (a6:aK×Bool) (a7:(List bB)):(Bool×Int×Int×Int×Int)→Option ((Bool×Int×Int×Int×Int) ⊕ (Bool×Int×Int×Int)):=fun a0 =>
 if (decide (a0.2.1<4)) then ((He x2 s0 a0.2.1).bind fun a5=>if (!a5) then (none) else ((Ms x2 (eC.mk 0 0 0 0 a0.2.1)).bind fun a2=>if (a2.2.1 != 0) then (none) else ((aM (Mm a2) (0,0,0)).bind fun a4=>(uE (jU.mk a2.1.bW a7 a6.1 a4.1 a4.2)).bind fun a1=>(if a1.2.2 then (if a0.1 then (if (decide (a1.2.1<a0.2.2.2.1)) then (some (true,true)) else (if (a1.2.1==a0.2.2.2.1) then (some (true,(decide (a1.1<a0.2.2.1)))) else (some (true,false)))) else (some (false,true))) else (none)).bind fun a3=>if a3.2 then (wE a0 (true,a1.1,a1.2.1,a0.2.1)) else (wE a0 (a3.1,a0.2.2.1,a0.2.2.2.1,a0.2.2.2.2))))) else (some (.inr (a0.1,a0.2.2.1,a0.2.2.2.1,a0.2.2.2.2)))
def Ct (s0:oL) (taken:(List (List aK))) (x2:kD) (set3:nK):Option (eC×Bool×Int×Int×Int×Int):=
 (rE s0).bind fun r4=>if (r4 != 0) then (none) else ((wF taken).bind fun r8=>if (r8 != 0) then (none) else ((rD x2).bind fun a2=>if (a2 != 0) then (none) else ((rB set3).bind fun a3=>if (!a3) then (none) else ((Fc s0 set3.Ts).bind fun a1=>if (!a1.2) then (none) else ((uS s0 taken set3).bind fun a4=>(aM (Mn s0 x2 a1 a4) (false,0,0,0,0)).bind fun a0=>some ((eC.mk 0 0 a0.2.1 a0.2.2.1 a0.2.2.2),a0.1,0,a0.2.1,a0.2.2.1,a0.2.2.2))))))
def Ij (sheets:(List oL)):Int→Option (Int ⊕ Unit):=fun a0 =>
 if (decide (a0<(sheets.length:Int))) then ((idx sheets a0).bind fun a2=>(rE a2).bind fun a1=>if (a1 != 0) then (none) else (some (.inl (aJ a0 1)))) else (some (.inr ()))
def Ik (pieces:(List kD)):Int→Option (Int ⊕ Unit):=fun a1 =>
 if (decide (a1<(pieces.length:Int))) then ((idx pieces a1).bind fun a2=>(rD a2).bind fun a0=>if (a0 != 0) then (none) else (some (.inl (aJ a1 1)))) else (some (.inr ()))
def Ef (sheets:(List oL)) (pieces:(List kD)):Option (Int):=
 if (decide ((sheets.length:Int)>4)) then (none) else (if (decide ((pieces.length:Int)>8)) then (none) else ((aM (Ij sheets) 0).bind fun a1=>(aM (Ik pieces) 0).bind fun a0=>some 0))
def Ke (sheets:(List oL)) (set2:nK) (a1:Int×(List (List (List aK)))×(List eC)) (a2:kD):Unit→Option (Unit ⊕ ((List (List (List aK)))×(List eC))):=fun a9 =>
 if (decide (0<(sheets.length:Int))) then ((idx sheets 0).bind fun a6=>(idx a1.2.1 0).bind fun a7=>(Ct a6 a7 a2 set2).bind fun a0=>if (a0.2.2.1 != 0) then (none) else (if (!a0.2.1) then (none) else ((Ms a2 (eC.mk a1.1 0 a0.1.X a0.1.Y a0.1.Tv)).bind fun a5=>(idx a1.2.1 0).bind fun a8=>(app a8 [a5.1.bW]).bind fun a3=>(idx a1.2.1 0).bind fun b0=>(app a1.2.2 [(eC.mk a1.1 0 a0.1.X a0.1.Y a0.1.Tv)]).bind fun a4=>some (.inr ((List.set a1.2.1 (Int.toNat 0) a3),a4))))) else (none)
def Kf (sheets:(List oL)) (pieces:(List kD)) (set2:nK):(Int×(List (List (List aK)))×(List eC))→Option ((Int×(List (List (List aK)))×(List eC)) ⊕ (List eC)):=fun a0 =>
 if (decide (a0.1<(pieces.length:Int))) then ((idx pieces a0.1).bind fun a2=>(aM (Ke sheets set2 a0 a2) ()).bind fun a1=>some (.inl ((aJ a0.1 1),a1.1,a1.2))) else (some (.inr a0.2.2))
def Hf (sheets:(List oL)) (pieces:(List kD)) (set2:nK):Option ((List eC)×(List Int)×Int):=
 (Ef sheets pieces).bind fun r4=>if (r4 != 0) then (none) else ((rB set2).bind fun r8=>if (!r8) then (none) else ((mk (sheets.length:Int) []).bind fun a1=>(aM (Kf sheets pieces set2) (0,a1,[])).bind fun a0=>some (a0,[],0)))
def pS (a:(List eC)) (b:(List eC)):Int→Option (Int ⊕ Unit):=fun a2 =>
 if (decide (a2<(a.length:Int))) then ((idx a a2).bind fun a0=>(idx b a2).bind fun a1=>if (!((a0.kD==a1.kD)&&((a0.oL==a1.oL)&&((a0.X==a1.X)&&((a0.Y==a1.Y)&&((a0.Tv==a1.Tv)&&true)))))) then (none) else (some (.inl (aJ a2 1)))) else (some (.inr ()))
def kX (a:(List eC)) (b:(List eC)):Option (Bool):=
 if ((a.length:Int) != (b.length:Int)) then (none) else ((aM (pS a b) 0).bind fun a0=>some true)
def mA:Option (Bool):=
 (Ct (oL.mk (ByteArray.mk #[115]) (ByteArray.mk #[115,116,101,101,108]) 10 0 1000 1000 [] []) [] (kD.mk (ByteArray.mk #[112]) (ByteArray.mk #[115,116,101,101,108]) 10 0 [(aK.mk 0 0 100 50)] [] []) (nK.mk 0 10 false)).bind fun r2=>(Hf [(oL.mk (ByteArray.mk #[115]) (ByteArray.mk #[115,116,101,101,108]) 10 0 1000 1000 [] [])] [(kD.mk (ByteArray.mk #[112]) (ByteArray.mk #[115,116,101,101,108]) 10 0 [(aK.mk 0 0 100 50)] [] []),(kD.mk (ByteArray.mk #[112]) (ByteArray.mk #[115,116,101,101,108]) 10 0 [(aK.mk 0 0 100 50)] [] [])] (nK.mk 5 10 false)).bind fun r4=>if (r2.2.2.1==0) then (if r2.2.1 then (if ((r2.1.kD==0)&&((r2.1.oL==0)&&((r2.1.X==10)&&((r2.1.Y==10)&&((r2.1.Tv==0)&&true))))) then (if (r4.2.2==0) then (if ((r4.2.1.length:Int)==0) then ((kX r4.1 [(eC.mk 0 0 10 10 0),(eC.mk 1 0 115 10 0)]).bind fun r6=>some r6) else (none)) else (none)) else (none)) else (none)) else (none)
def kK (a:(List aK)) (b:(List aK)):Option (Bool):=
 (iU a b).bind fun r2=>(eY a b).bind fun r4=>(iU b a).bind fun r6=>(if (r2.2==r4.2) then ((dZ r2.1 r4.1).bind fun a1=>if a1 then (if (r6.2==r2.2) then ((dZ r2.1 r6.1).bind fun a2=>if a2 then ((mA).bind fun a3=>some a3) else (some false)) else (some false)) else (some false)) else (some false)).bind fun a0=>some a0
theorem Ji {a b:List aK} (ha:a.length≤1000) (hb:b.length≤1000):tX a b=some (a.any fun x=>b.any (oH x)):=by
 have inner:∀ x,aM (nB b x) 0=some (if b.any (oH x) then .inl () else .inr ()):=by
  intro x
  refine vF b (nB b x) (fun k=>(k:Int)) _ _ _ rfl (fun k y hy=>?_) ?_
  ·have hk:=(List.getElem?_eq_some_iff.1 hy).1
   unfold nB
   have h1:decide ((k:Int)<(b.length:Int))=true:=by simp;omega
   simp only [h1,if_true,bD hy,Option.bind_some,Tt]
   rw [aX (a:=(k:Int)) (by omega) (by omega)]
   rfl
  ·simp [nB]
 have key:aM (nC a b) 0=some (if (a.any fun x=>b.any (oH x)) then .inl () else .inr ()):=by
  refine vF a (nC a b) (fun k=>(k:Int)) _ _ _ rfl (fun k x hx=>?_) ?_
  ·have hk:=(List.getElem?_eq_some_iff.1 hx).1
   unfold nC
   have h1:decide ((k:Int)<(a.length:Int))=true:=by simp;omega
   simp only [h1,if_true,bD hx,Option.bind_some,inner]
   rw [aX (a:=(k:Int)) (by omega) (by omega)]
   cases b.any (oH x) <;> rfl
  ·simp [nC]
 unfold tX
 rw [key]
 cases (a.any fun x=>b.any (oH x)) <;> rfl
end Go.SM
namespace Go.SM
open Go Go.VI Go.Cells
def lay (base:Nat→List aK) (items:List (Nat×List aK)) (k:Nat):List aK:=items.flatMap (fun it=>if it.1=k then it.2 else [])++base k
end Go.SM
namespace Go.SM
open Go Go.VI
end Go.SM
namespace Go.SM
open Go Go.VI Go.Cells
def uO (l:List aK):Bool:=l.all fun r=>decide (vR r)
theorem Fm {l:List aK}:uO l=true↔Eo l:=by unfold uO Eo;simp
def mat {β:Type} (xs ys:List Int) (p:Int→Int→β):List (List β):=xs.dropLast.map fun x=>ys.dropLast.map fun y=>p x y
def mN (lists:List (List aK)):Int:=if lists.any (fun l=>decide (l.length>48)) then 4 else if lists.all uO then 0 else 1
theorem Sy {lists:List (List aK)} (hl:lists.length≤10):Ak lists=some (mN lists):=by
 unfold Ak mN
 rw [Gz lists (tQ lists) (fun l=>!decide (l.length>48)) (.inl ()) (.inr ()) (fun k x hx=>?s1) ?f1]
 case s1 =>
  have h1:decide ((k:Int)<(lists.length:Int))=true:=by simp [aT hx]
  unfold tQ
  simp only [h1,if_true,bD hx,Option.bind_some,bA k (by have:=aT hx;omega)]
  by_cases h:x.length>48
  ·have:(x.length:Int)>48:=by omega
   simp [h,this]
  ·have:¬ (x.length:Int)>48:=by omega
   simp [h,this]
 case f1=>simp [tQ]
 by_cases ha:lists.any (fun l=>decide (l.length>48))=true
 ·have:lists.all (fun l=>!decide (l.length>48))=false:=by
   rw [List.all_eq_not_any_not,Bool.not_eq_false']
   simpa using ha
  rw [this,ha];rfl
 ·have h2:lists.all (fun l=>!decide (l.length>48))=true:=by
   rw [List.all_eq_not_any_not]
   simpa using ha
  have h48:∀ l ∈ lists,l.length≤48:=fun l hl=>by
   have:=List.all_eq_true.1 h2 l hl
   simpa using this
  rw [h2,if_pos rfl,Bool.eq_false_iff.2 ha]
  simp only [Option.bind_some,Bool.false_eq_true,if_false]
  rw [Gz lists (tS lists) uO (.inl ()) (.inr ()) (fun k x hx=>?s2) ?f2]
  case s2 =>
   have h1:decide ((k:Int)<(lists.length:Int))=true:=by simp [aT hx]
   have hx48:=h48 x (List.mem_of_getElem? hx)
   unfold tS
   simp only [h1,if_true,bD hx,Option.bind_some,bA k (by have:=aT hx;omega)]
   rw [Gz x (tR x) (fun r=>decide (vR r)) (.inl ()) (.inr ()) (fun k x hx=>?s3) ?f3]
   case s3 =>
    have h1:=aT hx
    unfold tR
    rw [if_pos (by simp;omega),bD hx]
    simp only [Option.bind_some,Fs,bA k (by omega)]
    cases decide (vR x) <;> rfl
   case f3=>simp [tR]
   unfold uO
   cases x.all (fun r=>decide (vR r)) <;> rfl
  case f2=>simp [tS]
  cases lists.all uO <;> rfl
theorem Oa {l:List aK} (hv:Eo l) (hl:l.length≤1000) (a b:List Int) (ha:a.length≤10000) (hb:b.length≤10000) :
  aM (nN l) (0,a,b)=some (a++xsL l,b++ysL l):=by
 obtain ⟨r,q1,q2⟩:=jJ l (fun k (s:List Int×List Int)=>((k:Int),s.1,s.2)) (nN l) (fun s=>(s.1,s.2)) (fun k s=>s=(a++xsL (l.take k),b++ysL (l.take k))) (a,b) (by simp [xsL,ysL])
  (fun k x s hx hI=>by
   have h1:=aT hx
   have hd:decide ((k:Int)<(l.length:Int))=true:=by simp [h1]
   obtain ⟨e1,e2⟩:=Qv (hv x (List.mem_of_getElem? hx))
   subst hI
   unfold nN
   simp only [hd,if_true,bD hx,Option.bind_some,e1,e2]
   rw [uK (by simp [Lc,LIM];omega),uK (by simp [Ld,LIM];omega)]
   simp only [Option.bind_some,bA k (by omega)]
   refine ⟨(a++xsL (l.take (k+1)),b++ysL (l.take (k+1))), ?_,rfl⟩
   rw [gA hx,Ni,Nj]
   simp [xsL,ysL]) (fun s _=>by simp [nN])
 rw [List.take_length] at q2
 rw [show ((0:Int),a,b)=(((0:Nat):Int),(a,b).1,(a,b).2) from rfl,q1,q2]
theorem Un {lists:List (List aK)} (hn:lists.length≤2) (hv:∀ l ∈ lists,Eo l∧l.length≤200) :
  ∃ xs ys,uU lists=some ⟨xs,ys⟩∧iO xs (lists.flatMap xsL)∧iO ys (lists.flatMap ysL):=by
 have hlen:∀ ls:List (List aK),(∀ l ∈ ls,l.length≤200)→(ls.flatMap xsL).length≤400*ls.length∧(ls.flatMap ysL).length≤400*ls.length:=fun ls=>by
  induction ls with
  | nil=>intro _;simp
  | cons l ls ih =>
    intro h
    have:=ih fun x hx=>h x (List.mem_cons_of_mem _ hx)
    have:=h l List.mem_cons_self
    simp only [List.flatMap_cons,List.length_append,Lc,Ld,List.length_cons]
    omega
 obtain ⟨r,q1,q2⟩:=jJ lists (fun k (s:List Int×List Int)=>((k:Int),s.1,s.2)) (qE lists) (fun s=>(s.1,s.2)) (fun k s=>s=((lists.take k).flatMap xsL,(lists.take k).flatMap ysL)) ([],[]) (by simp)
  (fun k x s hx hI=>by
   have h1:=aT hx
   have hd:decide ((k:Int)<(lists.length:Int))=true:=by simp [h1]
   obtain ⟨v1,v2⟩:=hv x (List.mem_of_getElem? hx)
   have hl:=hlen (lists.take k) fun l hl=>(hv l (List.mem_of_mem_take hl)).2
   have:(lists.take k).length≤2:=by rw [List.length_take];omega
   subst hI
   unfold qE
   simp only [hd,if_true,bD hx,Option.bind_some,Oa v1 (show x.length≤1000 by omega) _ _ (show ((lists.take k).flatMap xsL).length≤10000 by omega) (show ((lists.take k).flatMap ysL).length≤10000 by omega),bA k (by omega)]
   refine ⟨((lists.take k).flatMap xsL++xsL x,(lists.take k).flatMap ysL++ysL x),rfl, ?_⟩
   rw [gA hx,List.flatMap_append,List.flatMap_append]
   simp) (fun s _=>by simp [qE])
 rw [List.take_length] at q2
 have hl:=hlen lists fun l hl=>(hv l hl).2
 obtain ⟨xs,x1,x2,x3⟩:=Hv (l:=lists.flatMap xsL) (by omega)
 obtain ⟨ys,y1,y2,y3⟩:=Hv (l:=lists.flatMap ysL) (by omega)
 refine ⟨xs,ys, ?_,⟨x2,x3⟩,⟨y2,y3⟩⟩
 unfold uU
 rw [show ((0:Int),([]:List Int),([]:List Int))=(((0:Nat):Int),(([],[]):List Int×List Int).1,(([],[]):List Int×List Int).2) from rfl,q1,q2]
 simp only [Option.bind_some,x1,y1]
theorem Ga {α:Type} {l:List α} {k:Nat} {x:α} (h:l.dropLast[k]?=some x):l[k]?=some x∧k+1<l.length:=by
 have:=aT h
 rw [List.length_dropLast] at this
 rw [List.getElem?_dropLast,if_pos (by omega)] at h
 exact ⟨h,by omega⟩
theorem Jb {α:Type} {l:List α} {k:Nat} (h:k+1<l.length):l.dropLast[k]?=l[k]?:=by
 rw [List.getElem?_dropLast,if_pos (by omega)]
theorem Gf {β:Type} {R:List β} {z v:β} {j:Nat} (h:R[j]?=some v):(R.take j++List.replicate (R.length-j) z)[j]?=some z:=by
 have:=aT h
 rw [List.getElem?_append_right (by rw [List.length_take];omega),List.length_take,List.getElem?_replicate,if_pos (by omega)]
theorem Cg {β:Type} {R:List β} {z v:β} {j:Nat} (h:R[j]?=some v):(R.take j++List.replicate (R.length-j) z).set j v=R.take (j+1)++List.replicate (R.length-(j+1)) z:=by
 have:=aT h
 rw [List.set_append_right _ _ (by rw [List.length_take];omega),List.length_take,show j-min j R.length=0 from by omega,gA h,show R.length-j=R.length-(j+1)+1 from by omega,List.replicate_succ,List.set_cons_zero,List.append_assoc]
 rfl
theorem Hu {β:Type} {l:List β} {i:Nat} {v:β} (h:l[i]?=some v):l.set i v=l:=by
 refine List.ext_getElem? fun n=>?_
 rw [List.getElem?_set]
 split
 ·rename_i e;subst e
  rw [if_pos (aT h),h]
 ·rfl
theorem Qf {β:Type} (xs ys:List Int) (p:Int→Int→β):(mat xs ys p).length=xs.length-1:=by simp [mat]
theorem Wh {β:Type} {xs ys:List Int} {p:Int→Int→β} {i:Nat} {x:Int} (hx:xs[i]?=some x) (hi:i+1<xs.length):(mat xs ys p)[i]?=some (ys.dropLast.map fun y=>p x y):=by
 unfold mat
 rw [List.getElem?_map,Jb hi,hx];rfl
theorem Ww {β:Type} {ys:List Int} {q:Int→β} {j:Nat} {y:Int} (hy:ys[j]?=some y) (hj:j+1<ys.length):(ys.dropLast.map q)[j]?=some (q y):=by
 rw [List.getElem?_map,Jb hj,hy];rfl
theorem Ua {xs ys:List Int} {l:List aK} (hv:Eo l) (hl:l.length≤1000) (hx:xs.length≤1000) (hy:ys.length≤1000) (hxy:2≤xs.length→1≤ys.length) :
  nW ⟨xs,ys⟩ l=some (mat xs ys (cov l)):=by
 -- a cell
 have cell:∀ (i j:Nat) (x y:Int) (base b1 b2:List (List Bool)) (row:List Bool),xs[i]?=some x→ys[j]?=some y→base[i]?=some row→row[j]?=some false →
   aM (iR ⟨xs,ys⟩ l ((i:Int),b1) ((j:Int),b2)) (0,base)=some (base.set i (row.set j (cov l x y))):=fun i j x y base b1 b2 row hx hy hb hr=>by
  obtain ⟨r,q1,q2⟩:=jJ l (fun k (s:List (List Bool))=>((k:Int),s)) (iR ⟨xs,ys⟩ l ((i:Int),b1) ((j:Int),b2)) (fun s=>s) (fun k s=>s=base.set i (row.set j (cov (l.take k) x y))) base (by
    rw [show cov (l.take 0) x y=false from rfl,Hu hr,Hu hb])
   (fun k r s hr' hI=>by
    have h1:=aT hr'
    have hd:decide ((k:Int)<(l.length:Int))=true:=by simp [h1]
    obtain ⟨e1,e2⟩:=Qv (hv r (List.mem_of_getElem? hr'))
    have hi:=aT hb
    have hj:=aT hr
    have g1:(base.set i (row.set j (cov (l.take k) x y)))[i]?=some (row.set j (cov (l.take k) x y)):=by rw [List.getElem?_set,if_pos rfl,if_pos hi]
    have g2:(row.set j (cov (l.take k) x y))[j]?=some (cov (l.take k) x y):=by rw [List.getElem?_set,if_pos rfl,if_pos hj]
    have hc:cov (l.take (k+1)) x y=(cov (l.take k) x y || inC r x y):=by rw [gA hr'];simp [cov]
    subst hI
    unfold iR
    simp only [hd,if_true,bD hr',bD hx,bD hy,Option.bind_some,e1,e2]
    have hb':(if decide (r.X≤x) then (if decide (x<r.X+r.W) then (if decide (r.Y≤y) then some (decide (y<r.Y+r.H)) else some false) else some false) else some false)=some (inC r x y):=by
     unfold inC
     cases decide (r.X≤x) <;> cases decide (x<r.X+r.W) <;> cases decide (r.Y≤y) <;> simp
    rw [hb',Option.bind_some]
    cases hin:inC r x y with
    | false =>
      simp only [Bool.false_eq_true,if_false,iQ,bA k (by omega)]
      refine ⟨_,rfl, ?_⟩
      rw [hc,hin,Bool.or_false]
    | true =>
      simp only [if_true,bD g1,bD g2,Option.bind_some,iQ,bA k (by omega),Int.toNat_natCast]
      refine ⟨_,rfl, ?_⟩
      rw [hc,hin,Bool.or_true,List.set_set,List.set_set]) (fun s _=>by simp [iR])
  rw [List.take_length] at q2
  rw [show ((0:Int),base)=(((0:Nat):Int),base) from rfl,q1,q2]
 -- a column
 have col:∀ (i:Nat) (x:Int) (base b1:List (List Bool)),xs[i]?=some x→base[i]?=some (List.replicate (ys.length-1) false) →
   aM (iS ⟨xs,ys⟩ l ((i:Int),b1) (List.replicate (ys.length-1) false)) (0,base)=some (base.set i (ys.dropLast.map fun y=>cov l x y)):=fun i x base b1 hx hb=>by
  obtain ⟨R,hR⟩:∃ R,(ys.dropLast.map fun y=>cov l x y)=R:=⟨_,rfl⟩
  have hRl:R.length=ys.length-1:=by rw [← hR];simp
  have hi:=aT hb
  obtain ⟨r,q1,q2⟩:=jJ ys.dropLast (fun k (s:List (List Bool))=>((k:Int),s)) (iS ⟨xs,ys⟩ l ((i:Int),b1) (List.replicate (ys.length-1) false)) (fun s=>s) (fun k s=>s=base.set i (R.take k++List.replicate (R.length-k) false)) base (by
    rw [List.take_zero,List.nil_append,Nat.sub_zero,hRl,Hu hb])
   (fun k y s hy' hI=>by
    obtain ⟨gy,ky⟩:=Ga hy'
    have hd:decide ((k:Int)<((List.replicate (ys.length-1) false).length:Int))=true:=by simp;omega
    have hRk:R[k]?=some (cov l x y):=by rw [← hR];exact Ww gy ky
    subst hI
    have gb:(base.set i (R.take k++List.replicate (R.length-k) false))[i]?=some (R.take k++List.replicate (R.length-k) false):=by rw [List.getElem?_set,if_pos rfl,if_pos hi]
    unfold iS
    simp only [hd,if_true,cell i k x y _ b1 (base.set i (R.take k++List.replicate (R.length-k) false)) _ hx gy gb (Gf hRk),Option.bind_some,bA k (by omega)]
    refine ⟨_,rfl, ?_⟩
    rw [List.set_set,Cg hRk]) (fun s _=>by simp [iS])
  rw [List.length_dropLast,← hRl,List.take_length,Nat.sub_self,List.replicate_zero,List.append_nil] at q2
  rw [show ((0:Int),base)=(((0:Nat):Int),base) from rfl,q1,q2,hR]
 obtain ⟨R,hR⟩:∃ R,mat xs ys (cov l)=R:=⟨_,rfl⟩
 have hRl:R.length=xs.length-1:=by rw [← hR,Qf]
 have hmk:mk (imax 0 (aE (xs.length:Int) 1)) ([]:List Bool)=some (List.replicate (xs.length-1) []):=by
  rw [aW (by omega) (by omega),Ks]
  unfold mk
  rw [if_pos ⟨by omega,by simp [LIM];omega⟩,show (max 0 ((xs.length:Int)-1)).toNat=xs.length-1 from by omega]
 obtain ⟨r,q1,q2⟩:=jJ xs.dropLast (fun k (s:List (List Bool))=>((k:Int),s)) (lF ⟨xs,ys⟩ l (List.replicate (xs.length-1) [])) (fun s=>s) (fun k s=>s=R.take k++List.replicate (R.length-k) []) (List.replicate (xs.length-1) []) (by
   rw [List.take_zero,List.nil_append,Nat.sub_zero,hRl])
  (fun k x s hx' hI=>by
   obtain ⟨gx,kx⟩:=Ga hx'
   have hd:decide ((k:Int)<((List.replicate (xs.length-1) ([]:List Bool)).length:Int))=true:=by simp;omega
   have hRk:R[k]?=some (ys.dropLast.map fun y=>cov l x y):=by rw [← hR];exact Wh gx kx
   have hy1:=hxy (by omega)
   have hmk:mk (aE (ys.length:Int) 1) false=some (List.replicate (ys.length-1) false):=by
    rw [aW (by omega) (by omega)]
    unfold mk
    rw [if_pos ⟨by omega,by simp [LIM];omega⟩,show ((ys.length:Int)-1).toNat=ys.length-1 from by omega]
   have hkR:=aT hRk
   have g0:s[k]?=some []:=by rw [hI];exact Gf hRk
   have hks:=aT g0
   have g1:(s.set k (List.replicate (ys.length-1) false))[k]?=some (List.replicate (ys.length-1) false):=by rw [List.getElem?_set,if_pos rfl,if_pos hks]
   unfold lF
   simp only [hd,if_true,hmk,Option.bind_some,bD g0,Int.toNat_natCast,bD g1,col k x _ s gx g1,bA k (by omega)]
   refine ⟨_,rfl, ?_⟩
   rw [List.set_set,hI,Cg hRk]) (fun s _=>by simp [lF])
 rw [List.length_dropLast,← hRl,List.take_length,Nat.sub_self,List.replicate_zero,List.append_nil] at q2
 unfold nW
 rw [hmk,Option.bind_some,show ((0:Int),List.replicate (xs.length-1) ([]:List Bool))=(((0:Nat):Int),List.replicate (xs.length-1) []) from rfl,q1,q2,hR]
 rfl
section
variable {xs ys:List Int} (hX:Oh xs) (hY:Oh ys) (p:Int→Int→Bool)
include hX hY
end
section
variable {xs ys:List Int} {l:List aK} (h:Has xs ys l)
include h
omit h in
end
theorem Yc {xs ys:List Int} {l:List aK} (hx:iO xs (xsL l)) (hy:iO ys (ysL l)):2≤xs.length→1≤ys.length:=fun h=>by
 cases l with
 | nil =>
   have:xs=[]:=by
    cases xs with
    | nil=>rfl
    | cons a t=>exact absurd ((hx.2 a).1 List.mem_cons_self) (by simp [xsL])
   rw [this] at h;simp at h
 | cons r l =>
   have:=(hy.2 r.Y).2 (Cx List.mem_cons_self).1
   cases ys with
   | nil=>simp at this
   | cons=>simp
theorem Lk {l:List aK}:mN [l]=0→l.length≤48∧Eo l:=by
 unfold mN
 simp only [List.any_cons,List.any_nil,Bool.or_false,List.all_cons,List.all_nil,Bool.and_true,decide_eq_true_eq]
 intro h
 split at h
 ·cases h
 ·split at h
  ·rename_i q;exact ⟨by omega,Fm.1 q⟩
  ·cases h
end Go.SM
namespace Go.Cells
theorem Dq {s:Int→Int} {a b a' b':Int} (h:vJ s a b) (h':vJ s a' b') (hl:a<a'):b≤a':=by
 rcases Int.lt_or_le a' b with q | q
 ·have e1:=h.2.2.1 a' (by omega) q
  have e2:=h.2.2.1 (a'-1) (by omega) (by omega)
  exact absurd (e2.trans e1.symm) h'.2.2.2.1
 ·exact q
theorem CX {s:Int→Int} {a b a' b' z:Int} (h:vJ s a b) (h':vJ s a' b') (h1:a≤z) (h2:z<b) (h3:a'≤z) (h4:z<b'):a=a'∧b=b':=by
 have ea:a=a':=by
  rcases Int.lt_or_le a a' with q | q
  ·have:=Dq h h' q;omega
  ·rcases Int.lt_or_le a' a with r | r
   ·have:=Dq h' h r;omega
   ·omega
 subst ea
 refine ⟨rfl, ?_⟩
 rcases Int.lt_or_le b b' with q | q
 ·exact absurd (h'.2.2.1 b (by omega) q) h.2.2.2.2
 ·rcases Int.lt_or_le b' b with r | r
  ·exact absurd (h.2.2.1 b' (by omega) r) h'.2.2.2.2
  ·omega
def meet (p q:Int×Int):Int×Int:=(max p.1 q.1,min p.2 q.2)
def meets (M:List (Int×Int)) (p:Int×Int):List (Int×Int):=(M.map (meet p)).filter fun r=>decide (r.1<r.2)
theorem Dn {M:List (Int×Int)} {p r:Int×Int}:r ∈ meets M p↔∃ q ∈ M,meet p q=r∧r.1<r.2:=by
 unfold meets
 rw [List.mem_filter,List.mem_map]
 simp only [decide_eq_true_eq]
 constructor
 ·rintro ⟨⟨q,h1,h2⟩,h3⟩;exact ⟨q,h1,h2,h3⟩
 ·rintro ⟨q,h1,h2,h3⟩;exact ⟨⟨q,h1,h2⟩,h3⟩
def Bd (s:Int→Int):Prop:=∃ lo hi,(∀ z,z<lo→s z=0)∧∀ z,hi≤z→s z=0
theorem Pj {u v w:Int→Int} {L M:List (Int×Int)} (hu:eK u L) (hv:eK v M) (bu:Bd u) (bv:Bd v) (h1:∀ z,w z≠0↔u z≠0∧v z≠0) (h2:∀ z,w z≠0→w z=u z) (h3:∀ z,w z≠0→v z=- u z):eK w (L.flatMap (meets M)):=by
 have key:∀ {p1 p2 q1 q2:Int},vJ u p1 p2→vJ v q1 q2→max p1 q1<min p2 q2→vJ w (max p1 q1) (min p2 q2):=fun {p1 p2 q1 q2} hp hq hlt=>by
  have uz:∀ z,p1≤z→z<p2→u z=u p1:=hp.2.2.1
  have vz:∀ z,q1≤z→z<q2→v z=v q1:=hq.2.2.1
  have wz:∀ z,max p1 q1≤z→z<min p2 q2→w z=u p1∧v q1=- u p1:=fun z z1 z2=>by
   have e1:=uz z (by omega) (by omega)
   have e2:=vz z (by omega) (by omega)
   have hn:w z≠0:=(h1 z).2 ⟨by rw [e1];exact hp.2.1,by rw [e2];exact hq.2.1⟩
   refine ⟨by rw [h2 z hn,e1], ?_⟩
   have:=h3 z hn
   rw [e1,e2] at this;exact this
  have w0:=wz _ (Int.le_refl _) hlt
  have off:∀ z,(u z≠u p1∨v z≠v q1)→w z≠u p1:=fun z hz hw=>by
   have hn:w z≠0:=by rw [hw];exact hp.2.1
   have e1:=h2 z hn
   have e2:=h3 z hn
   rcases hz with hz | hz
   ·exact hz (by rw [← e1,hw])
   ·exact hz (by rw [e2,← e1,hw,w0.2])
  refine ⟨hlt,by rw [w0.1];exact hp.2.1,fun z z1 z2=>by rw [(wz z z1 z2).1,w0.1], ?_, ?_⟩
  ·rw [w0.1]
   refine off _ ?_
   rcases Int.lt_or_le p1 q1 with q | q
   ·right;rw [show max p1 q1=q1 by omega];exact hq.2.2.2.1
   ·left;rw [show max p1 q1=p1 by omega];exact hp.2.2.2.1
  ·rw [w0.1]
   refine off _ ?_
   rcases Int.lt_or_le p2 q2 with q | q
   ·left;rw [show min p2 q2=p2 by omega];exact hp.2.2.2.2
   ·right;rw [show min p2 q2=q2 by omega];exact hq.2.2.2.2
 refine ⟨?_,fun a b=>⟨fun hm=>?_,fun hw=>?_⟩⟩
 ·rw [List.pairwise_flatMap]
  refine ⟨fun p hp=>?_, ?_⟩
  ·unfold meets
   rw [List.pairwise_filter,List.pairwise_map]
   refine List.Pairwise.imp_of_mem (fun {q q'} hq hq' hlt z1 z2=>?_) hv.1
   replace z1:max p.1 q.1<min p.2 q.2:=of_decide_eq_true z1
   replace z2:max p.1 q'.1<min p.2 q'.2:=of_decide_eq_true z2
   show max p.1 q.1<max p.1 q'.1
   have:=Dq ((hv.2 q.1 q.2).1 hq) ((hv.2 q'.1 q'.2).1 hq') hlt
   omega
  ·refine List.Pairwise.imp_of_mem (fun {p p'} hp hp' hlt r hr r' hr'=>?_) hu.1
   obtain ⟨q,hq,rfl,z1⟩:=Dn.1 hr
   obtain ⟨q',hq',rfl,z2⟩:=Dn.1 hr'
   have:=Dq ((hu.2 p.1 p.2).1 hp) ((hu.2 p'.1 p'.2).1 hp') hlt
   simp only [meet] at z1 z2 ⊢
   omega
 ·obtain ⟨p,hp,hm⟩:=List.mem_flatMap.1 hm
  obtain ⟨q,hq,e,hlt⟩:=Dn.1 hm
  unfold meet at e
  injection e with e1 e2
  subst e1 e2
  exact key ((hu.2 p.1 p.2).1 hp) ((hv.2 q.1 q.2).1 hq) hlt
 ·obtain ⟨ulo,uhi,ul,uh⟩:=bu
  obtain ⟨vlo,vhi,vl,vh⟩:=bv
  obtain ⟨u0,v0⟩:=(h1 a).1 hw.2.1
  obtain ⟨p1,p2,hp,pa,pb⟩:=CW ul uh u0
  obtain ⟨q1,q2,hq,qa,qb⟩:=CW vl vh v0
  have hlt:max p1 q1<min p2 q2:=by omega
  obtain ⟨e1,e2⟩:=CX hw (key hp hq hlt) (Int.le_refl a) hw.1 (by omega) (by omega)
  exact List.mem_flatMap.2 ⟨(p1,p2),(hu.2 _ _).2 hp,Dn.2 ⟨(q1,q2),(hv.2 _ _).2 hq,by unfold meet;rw [e1,e2],by show a<b;exact hw.1⟩⟩
theorem Ta {s c:Int→Int} {L:List (Int×Int)} (h:eK s L) (P:Int→Bool) (hc:∀ z,c z≠0↔s z≠0∧P z=true) (he:∀ z w,c z≠0→(c w=c z↔s w=s z)):eK c (L.filter fun p=>P p.1):=by
 refine ⟨h.1.filter _,fun a b=>?_⟩
 rw [List.mem_filter,h.2]
 unfold vJ
 constructor
 ·rintro ⟨⟨r1,r2,r3,r4,r5⟩,r6⟩
  have c0:c a≠0:=(hc a).2 ⟨r2,r6⟩
  exact ⟨r1,c0,fun z z1 z2=>(he a z c0).2 (r3 z z1 z2),fun q=>r4 ((he a _ c0).1 q),fun q=>r5 ((he a _ c0).1 q)⟩
 ·rintro ⟨r1,c0,r3,r4,r5⟩
  obtain ⟨s0,p0⟩:=(hc a).1 c0
  exact ⟨⟨r1,s0,fun z z1 z2=>(he a z c0).1 (r3 z z1 z2),fun q=>r4 ((he a _ c0).2 q),fun q=>r5 ((he a _ c0).2 q)⟩,p0⟩
theorem Rz {β:Type} {l l':List Int} (h:l.Pairwise fun x y=>x<y) (h':l'.Pairwise fun x y=>x<y) (hs:∀ x ∈ l,x ∈ l') {f:Int→List β} (h0:∀ x,x ∉ l→f x=[]):l.flatMap f=l'.flatMap f:=by
 have e:l=l'.filter fun x=>decide (x ∈ l):=tY (lt:=fun x y=>x<y) (fun _=>Int.lt_irrefl _) (fun _ _ _=>Int.lt_trans) h (h'.filter _) fun x=>by
  rw [List.mem_filter,decide_eq_true_eq]
  exact ⟨fun q=>⟨hs x q,q⟩,fun q=>q.2⟩
 have key:∀ g:List Int,(g.filter fun x=>decide (x ∈ l)).flatMap f=g.flatMap f:=fun g=>by
  induction g with
  | nil=>rfl
  | cons x g ih =>
    rw [List.filter_cons]
    by_cases hx:x ∈ l
    ·rw [if_pos (by simpa using hx),List.flatMap_cons,List.flatMap_cons,ih]
    ·rw [if_neg (by simpa using hx),List.flatMap_cons,h0 x hx,ih];rfl
 exact (congrArg (fun m=>List.flatMap f m) e).trans (key l')
end Go.Cells
namespace Go.SM
open Go Go.VI Go.Cells
def Sc (a2:Int×Int×(List aI)) (a0:Int):(List aI)→Option (Int×Int×(List aI) ⊕ (List aI)):=fun a1 =>
 some (.inl (a0,(aJ a2.2.1 1),a1))
def Vy (side:Int→Option Int) (a3:Int×Int×(List aI)):Int→Option (Int ⊕ Int):=fun a0 =>
 (if (decide (a0>0)) then ((side (aE a0 1)).bind fun a2=>some (a2==a3.1)) else (some false)).bind fun a1=>if a1 then (some (.inl (aE a0 1))) else (some (.inr a0))
def Vx (ends:(List Int)) (side:Int→Option Int) (found:Int→Int→List aI→Option (List aI)) (a0:Int×Int×(List aI)):Int→Option (Int×Int×(List aI) ⊕ (List aI)):=fun a1 =>
 (if (a1 != a0.1) then (some (a0.1 != 0)) else (some false)).bind fun a2=>if a2 then ((aM (Vy side a0) (aE a0.2.1 1)).bind fun a4=>(idx ends a4).bind fun a5=>(idx ends a0.2.1).bind fun a6=>(found a5 a6 a0.2.2).bind fun a3=>Sc a0 a1 a3) else (Sc a0 a1 a0.2.2)
def AZ (ends:(List Int)) (side:Int→Option Int) (found:Int→Int→List aI→Option (List aI)):Int×Int×(List aI)→Option (Int×Int×(List aI) ⊕ (List aI)):=fun a0 =>
 if (decide (a0.2.1<(ends.length:Int))) then (if (decide (a0.2.1<(aE (ends.length:Int) 1))) then ((side a0.2.1).bind fun a1=>Vx ends side found a0 a1) else (Vx ends side found a0 0)) else (some (.inr a0.2.2))
def gr (ends:(List Int)) (side:Int→Option Int) (found:Int→Int→List aI→Option (List aI)) (h1:(List aI)):Option ((List aI)):=
 (aM (AZ ends side found) (0,0,h1)).bind fun a0=>some a0
theorem CY (ends:List Int) (M:List (List Bool)) (j y:Int) (h:List aI):dU ends M j y h=gr ends (fun i=>kE i M j) (fun a b h=>oO a b y h) h:=rfl
theorem CZ (ends:List Int) (M:List (List Bool)) (j y:Int) (h:List aI):dV ends M j y h=gr ends (fun i=>kF i M j) (fun a b h=>oQ a b y h) h:=rfl
theorem nG {β:Type} {f:Int→β}:∀ {xs:List Int},pO f xs→∀ {k:Nat} {x x':Int},xs[k]?=some x→xs[k+1]?=some x'→x<x'∧∀ z,x≤z→z<x'→f z=f x
 | [],_,k,x,x',h,_=>by simp at h
 | [_],_,k,x,x',_,h=>by simp at h
 | a::b::t,hs,0,x,x',h,h'=>by
   simp at h h'
   subst h h'
   exact ⟨hs.1,hs.2.1⟩
 | a::b::t,hs,k+1,x,x',h,h'=>by
   simp only [List.getElem?_cons_succ] at h h'
   exact nG hs.2.2 h h'
def cY (s:Int→Int):List (Int×Int):=open Classical in if h:∃ L,eK s L then Classical.choose h else []
theorem kI {s:Int→Int} {L:List (Int×Int)} (h:eK s L):cY s=L:=by
 unfold cY
 have hx:∃ L,eK s L:=⟨L,h⟩
 rw [dif_pos hx]
 exact Td (Classical.choose_spec hx) h
structure Cc (s:Int→Int) (xs:List Int):Prop where
 st:pO s xs
 len:xs.length≤1000
 low:∀ x0,xs[0]?=some x0→∀ z,z<x0→s z=0
 high:∀ x1,xs[xs.length-1]?=some x1→∀ z,x1≤z→s z=0
 none:xs=[]→∀ z,s z=0
section
variable {s:Int→Int} {xs:List Int} (h:Cc s xs)
include h
theorem Rf:∃ lo,∀ z,z<lo→s z=0:=by
 cases hx:xs[0]? with
 | none=>exact ⟨0,fun z _=>h.none (by simpa using hx) z⟩
 | some x0=>exact ⟨x0,h.low x0 hx⟩
theorem before {k:Nat} {x e:Int} (hx:xs[k]?=some x) (he:xs[k+1]?=some e):s (e-1)=s x:=by
 obtain ⟨h1,h2⟩:=nG h.st hx he
 exact h2 _ (by omega) (by omega)
variable {side:Int→Option Int} (hside:∀ (i:Nat) x,xs[i]?=some x→i+1<xs.length→side (i:Int)=some (s x)) {found:Int→Int→List aI→Option (List aI)} {mk:Int×Int→aI} (hfound:∀ a b (l:List aI),l.length≤100000000→found a b l=some (l++[mk (a,b)]))
include hside hfound
theorem Vz {out0:List aI} (hout:out0.length≤90000000):∃ L,gr xs side found out0=some (out0++L.map mk)∧eK s L∧L.length≤xs.length:=by
 have hlen:=h.len
 obtain ⟨lo,hlo⟩:=Rf h
 obtain ⟨r,q1,q2⟩:=iH (fun t:Int×Int×List aI=>((xs.length:Int)-t.2.1).toNat)
  (fun t:Int×Int×List aI=>∃ k:Nat,t.2.1=k∧k≤xs.length∧(k=xs.length→∃ L,t.2.2=out0++L.map mk∧eK s L∧L.length≤xs.length) ∧
   (∀ e,xs[k]?=some e→∃ L,eK (cut s e) L∧L.length≤k∧t.1=s (e-1)∧(t.1=0→t.2.2=out0++L.map mk) ∧
    (t.1≠0→∃ L0 f a,L=L0++[(a,e)]∧xs[f]?=some a∧f<k∧t.2.2=out0++L0.map mk∧(∀ i x,f≤i→i<k→xs[i]?=some x→s x=t.1)∧(0<f→∀ x,xs[f-1]?=some x→s x≠t.1))))
  (fun r=>∃ L,r=out0++L.map mk∧eK s L∧L.length≤xs.length) (AZ xs side found) (by
   rintro ⟨last,k',out⟩ ⟨k,hk',hk,hend,hI⟩
   simp only at hk' hend hI ⊢
   subst hk'
   unfold AZ
   by_cases hkn:k<xs.length
   case neg =>
    right
    have hd:¬ (k:Int)<(xs.length:Int):=by omega
    exact ⟨out,by simp only [hd,decide_false,Bool.false_eq_true,if_false],hend (by omega)⟩
   left
   have hd:(k:Int)<(xs.length:Int):=by omega
   have hsub:aE (xs.length:Int) 1=(xs.length:Int)-1:=aW (by omega) (by omega)
   obtain ⟨e,he⟩:∃ e,xs[k]?=some e:=⟨_,List.getElem?_eq_getElem hkn⟩
   obtain ⟨L,hL,hLk,hlast,hzero,hopen⟩:=hI e he
   -- what k3 does
   have close:∀ now,∃ out',Vx xs side found (last,(k:Int),out) now=some (.inl (now,((k+1:Nat):Int),out'))∧((now=last∨last=0)→out'=out)∧(now≠last→out'=out0++L.map mk):=fun now=>by
    unfold Vx
    simp only
    by_cases e1:now=last
    ·refine ⟨out, ?_,fun _=>rfl,fun q=>absurd e1 q⟩
     have:(now != last)=false:=by simp [e1]
     simp only [this,Bool.false_eq_true,if_false,Option.bind_some,Sc,bA k (by omega)]
    ·have hne:(now != last)=true:=by simp [e1]
     by_cases e2:last=0
     ·refine ⟨out, ?_,fun _=>rfl,fun _=>hzero e2⟩
      have:(last != 0)=false:=by simp [e2]
      simp only [hne,if_true,this,Option.bind_some,Bool.false_eq_true,if_false,Sc,bA k (by omega)]
     ·have hl0:(last != 0)=true:=by simp [e2]
      obtain ⟨L0,f,a,rfl,hfa,hfk,hout',hsame,hprev⟩:=hopen e2
      have hk1:aE (k:Int) 1=(k:Int)-1:=aW (by omega) (by omega)
      have sd:∀ i:Nat,i<k→∃ x,xs[i]?=some x∧side (i:Int)=some (s x):=fun i hi=>by
       obtain ⟨x,hx⟩:∃ x,xs[i]?=some x:=⟨_,List.getElem?_eq_getElem (by omega)⟩
       exact ⟨x,hx,hside i x hx (by omega)⟩
      obtain ⟨x,x1,x2,x3,x4,x5⟩:=Ds (body:=Vy side (last,(k:Int),out)) (fun _=>true) (i:=(f:Int)+1) (j:=(k:Int)-1) (by omega) (fun t t1 t2=>by
       obtain ⟨i,hi⟩:∃ i:Nat,t=(i:Int)+1:=⟨(t-1).toNat,by omega⟩
       obtain ⟨y,y1,y2⟩:=sd i (by omega)
       have ht:t>0:=by omega
       have hs1:aE t 1=(i:Int):=by rw [aW (by omega) (by omega)];omega
       have hy:=hsame i y (by omega) (by omega) y1
       unfold Vy
       have hb:(s y==last)=true:=by simp [hy]
       simp only [ht,decide_true,if_true,hs1,y2,Option.bind_some,hb]
       congr 2;omega) (by
       rw [show (f:Int)+1-1=(f:Int) from by omega]
       unfold Vy
       by_cases hf0:0<f
       ·obtain ⟨y,y1,y2⟩:=sd (f-1) (by omega)
        have ht:(f:Int)>0:=by omega
        have hs1:aE (f:Int) 1=((f-1:Nat):Int):=by rw [aW (by omega) (by omega)];omega
        have hb:(s y==last)=false:=by simp [hprev hf0 y y1]
        simp only [ht,decide_true,if_true,hs1,y2,Option.bind_some,hb,Bool.false_eq_true,if_false]
       ·have ht:¬ (f:Int)>0:=by omega
        simp only [ht,decide_false,Bool.false_eq_true,if_false,Option.bind_some])
      have hx:x=(f:Int):=by
       rcases Int.lt_or_le x ((f:Int)+1) with q | q
       ·omega
       ·have:=x5 q;cases this
      refine ⟨out0++(L0++[(a,e)]).map mk, ?_,fun q=>q.elim (fun q=>absurd q e1) (fun q=>absurd q e2),fun _=>rfl⟩
      have hfd:=hfound a e out (by rw [hout'];simp at hLk ⊢;omega)
      simp only [hne,if_true,hl0,Option.bind_some,hk1,x1,hx,bD hfa,bD he,hfd,Sc,bA k (by omega)]
      rw [hout'];simp
   have hmu:∀ (now:Int) (out':List aI),((xs.length:Int)-(now,((k+1:Nat):Int),out').2.1).toNat<((xs.length:Int)-(k:Int)).toNat:=fun now out'=>by simp only;omega
   by_cases hkl:k+1<xs.length
   ·-- a cell
    have hd2:(k:Int)<(xs.length:Int)-1:=by omega
    obtain ⟨e',he'⟩:∃ e',xs[k+1]?=some e':=⟨_,List.getElem?_eq_getElem hkl⟩
    obtain ⟨hee,hst⟩:=nG h.st he he'
    obtain ⟨out',c1,c2,c3⟩:=close (s e)
    refine ⟨(s e,((k+1:Nat):Int),out'),by simp only [hd,decide_true,if_true,hsub,hd2,hside k e he hkl,Option.bind_some,c1],⟨k+1,rfl,by omega,fun q=>by omega,fun e2 he2=>?_⟩,hmu _ _⟩
    rw [he'] at he2
    injection he2 with he2
    subst he2
    have hl:s (e'-1)=s e:=hst _ (by omega) (by omega)
    simp only [hl]
    have hprev:∀ x,0<k→xs[k-1]?=some x→s x=last:=fun x hk0 hx=>by
     rw [hlast]
     exact (before h (k:=k-1) hx (by rw [show k-1+1=k from by omega];exact he)).symm
    by_cases e0:s e=0
    ·refine ⟨L,Pn hL hee hst e0,by omega,by trivial,fun _=>?_,fun q=>absurd e0 q⟩
     by_cases e1:last=0
     ·rw [c2 (.inr e1)];exact hzero e1
     ·exact c3 (fun q=>e1 (by rw [← q];exact e0))
    ·by_cases e1:s e=last
     ·obtain ⟨l0,a,hla,hrun⟩:=Pk hL hee hst hlo e0 (by rw [← hlast];exact e1.symm)
      obtain ⟨L0,f,a',hLe,hfa,hfk,hout',hsame,hpv⟩:=hopen (by rw [← e1];exact e0)
      rw [hla] at hLe
      obtain ⟨rfl,e2⟩:=List.append_inj' hLe rfl
      injection e2 with e2 _
      injection e2 with e2 _
      subst e2
      refine ⟨l0++[(a,e')],hrun,by rw [hla] at hLk;simp at hLk ⊢;omega,by trivial,fun q=>absurd q e0,fun _=>⟨l0,f,a,rfl,hfa,by omega,by rw [c2 (.inl e1)];exact hout',fun i x i1 i2 hx=>?_,fun hf x hx=>?_⟩⟩
      ·by_cases e3:i<k
       ·rw [hsame i x i1 e3 hx,e1]
       ·obtain rfl:i=k:=by omega
        rw [he] at hx;injection hx with hx;rw [hx]
      ·rw [e1];exact hpv hf x hx
     ·refine ⟨L++[(e,e')],Tc hL hee hst e0 (by rw [← hlast];exact fun q=>e1 q.symm),by simp;omega,by trivial,fun q=>absurd q e0,fun _=>⟨L,k,e,rfl,he,by omega,c3 e1,fun i x i1 i2 hx=>?_,fun hf x hx=>?_⟩⟩
      ·obtain rfl:i=k:=by omega
       rw [he] at hx;injection hx with hx;rw [hx]
      ·rw [hprev x hf hx];exact fun q=>e1 q.symm
   ·-- the end
    have hd2:¬ (k:Int)<(xs.length:Int)-1:=by omega
    obtain ⟨out',c1,c2,c3⟩:=close 0
    refine ⟨(0,((k+1:Nat):Int),out'),by simp only [hd,decide_true,if_true,hsub,hd2,decide_false,Bool.false_eq_true,if_false,c1],⟨k+1,rfl,by omega,fun _=>⟨L, ?_, ?_,by omega⟩,fun e2 he2=>by have:=aT he2;omega⟩,hmu _ _⟩
    ·by_cases e1:last=0
     ·rw [c2 (.inr e1)];exact hzero e1
     ·exact c3 (fun q=>e1 q.symm)
    ·exact Nb hL (h.high e (by rw [show xs.length-1=k from by omega];exact he))) (0,0,out0)
   ⟨0,rfl,by omega,fun q=>⟨[],by simp,by
    have:xs=[]:=List.eq_nil_of_length_eq_zero q.symm
    have hz:=h.none this
    refine ⟨.nil,fun a b=>⟨fun m=>by simp at m,fun m=>absurd (hz a) m.2.1⟩⟩,by simp⟩,fun e he=>⟨[],Nc (h.low e he),by simp,(h.low e he _ (by omega)).symm,fun _=>by simp,fun q=>absurd rfl q⟩⟩
 obtain ⟨L,rfl,q3,q4⟩:=q2
 exact ⟨L,by unfold gr;rw [q1];rfl,q3,q4⟩
end
def hl (p:Int→Int→Bool) (y:Int):Int→Int:=fun z=>one (p z y)-one (p z (y-1))
def vl (p:Int→Int→Bool) (x:Int):Int→Int:=fun z=>one (p x z)-one (p (x-1) z)
def mkH (y:Int) (q:Int×Int):aI:=⟨q.1,y,q.2,y⟩
def mkV (x:Int) (q:Int×Int):aI:=⟨x,q.1,x,q.2⟩
def uY (p:Int→Int→Bool) (xs ys:List Int):List aI:=ys.flatMap (fun y=>(cY (hl p y)).map (mkH y))++xs.flatMap fun x=>(cY (vl p x)).map (mkV x)
theorem tL {β γ:Type} (f:β→γ) {g:Int→β}:∀ {l:List Int},pO g l→pO (fun x=>f (g x)) l
 | [],_=>trivial
 | [_],_=>trivial
 | _::_::_,h=>⟨h.1,fun z a b=>congrArg f (h.2.1 z a b),tL f h.2.2⟩
section
variable {xs ys:List Int} {l:List aK} (h:Has xs ys l)
include h
theorem Pz:(∀ x0,xs[0]?=some x0→∀ x y,x<x0→cov l x y=false)∧(∀ x1,xs[xs.length-1]?=some x1→∀ x y,x1≤x→cov l x y=false)∧(xs=[]→∀ x y,cov l x y=false) ∧
  (∀ y0,ys[0]?=some y0→∀ x y,y<y0→cov l x y=false)∧(∀ y1,ys[ys.length-1]?=some y1→∀ x y,y1≤y→cov l x y=false)∧(ys=[]→∀ x y,cov l x y=false):=by
 have first:∀ {g:List Int} {a b:Int},(g.Pairwise fun x y=>x<y)→g[0]?=some a→b ∈ g→a≤b:=fun {g a b} hg ha hb=>by
  obtain ⟨i,hi⟩:=List.mem_iff_getElem?.1 hb
  rcases Nat.eq_zero_or_pos i with q | q
  ·subst q;rw [ha] at hi;injection hi with hi;omega
  ·have:=xJ hg q ha hi;omega
 have last_:∀ {g:List Int} {a b:Int},(g.Pairwise fun x y=>x<y)→g[g.length-1]?=some a→b ∈ g→b≤a:=fun {g a b} hg ha hb=>by
  obtain ⟨i,hi⟩:=List.mem_iff_getElem?.1 hb
  have:=aT hi
  by_cases q:i=g.length-1
  ·subst q;rw [ha] at hi;injection hi with hi;omega
  ·have:=xJ hg (show i<g.length-1 by omega) hi ha;omega
 have no:∀ x y,¬ ((∃ a ∈ xs,a≤x)∧(∃ a ∈ xs,x<a)∧(∃ a ∈ ys,a≤y)∧(∃ a ∈ ys,y<a))→cov l x y=false:=fun x y q=>by
  cases hc:cov l x y with
  | false=>rfl
  | true=>exact absurd (Vo h hc) q
 refine ⟨fun x0 hx0 x y q=>no x y ?_,fun x1 hx1 x y q=>no x y ?_,fun q x y=>no x y ?_,fun y0 hy0 x y q=>no x y ?_,fun y1 hy1 x y q=>no x y ?_,fun q x y=>no x y ?_⟩
 ·rintro ⟨⟨a,ha,a1⟩,_⟩;have:=first h.X.asc hx0 ha;omega
 ·rintro ⟨_,⟨a,ha,a1⟩,_⟩;have:=last_ h.X.asc hx1 ha;omega
 ·rintro ⟨⟨a,ha,a1⟩,_⟩;rw [q] at ha;simp at ha
 ·rintro ⟨_,_,⟨a,ha,a1⟩,_⟩;have:=first h.Y.asc hy0 ha;omega
 ·rintro ⟨_,_,_,⟨a,ha,a1⟩⟩;have:=last_ h.Y.asc hy1 ha;omega
 ·rintro ⟨_,_,⟨a,ha,a1⟩,_⟩;rw [q] at ha;simp at ha
theorem Cy (y:Int):Cc (hl (cov l) y) xs:=by
 obtain ⟨c1,c2,c3,_⟩:=Pz h
 refine ⟨tL (fun q:Int→Bool=>one (q y)-one (q (y-1))) (Xd h),h.X.len,fun x0 hx0 z hz=>?_,fun x1 hx1 z hz=>?_,fun q z=>?_⟩
 ·unfold hl;rw [c1 x0 hx0 z y hz,c1 x0 hx0 z (y-1) hz];rfl
 ·unfold hl;rw [c2 x1 hx1 z y hz,c2 x1 hx1 z (y-1) hz];rfl
 ·unfold hl;rw [c3 q z y,c3 q z (y-1)];rfl
theorem Cz (x:Int):Cc (vl (cov l) x) ys:=by
 obtain ⟨_,_,_,c1,c2,c3⟩:=Pz h
 have st:pO (fun y=>(cov l x y,cov l (x-1) y)) ys:=by
  have h1:=Qt h x
  have h2:=Qt h (x-1)
  have:∀ g:List Int,pO (fun y=>cov l x y) g→pO (fun y=>cov l (x-1) y) g→pO (fun y=>(cov l x y,cov l (x-1) y)) g:=fun g=>by
   induction g with
   | nil=>exact fun _ _=>trivial
   | cons a t ih=>cases t with
     | nil=>exact fun _ _=>trivial
     | cons b t=>exact fun q1 q2=>⟨q1.1,fun z z1 z2=>by simp only [q1.2.1 z z1 z2,q2.2.1 z z1 z2],ih q1.2.2 q2.2.2⟩
  exact this ys h1 h2
 refine ⟨tL (fun q:Bool×Bool=>one q.1-one q.2) st,h.Y.len,fun x0 hx0 z hz=>?_,fun x1 hx1 z hz=>?_,fun q z=>?_⟩
 ·unfold vl;rw [c1 x0 hx0 x z hz,c1 x0 hx0 (x-1) z hz];rfl
 ·unfold vl;rw [c2 x1 hx1 x z hz,c2 x1 hx1 (x-1) z hz];rfl
 ·unfold vl;rw [c3 q x z,c3 q (x-1) z];rfl
theorem Oq {i j:Int} {x y:Int} (hx:(∃ k:Nat,i=k∧xs[k]?=some x)∨(i=-1∧∃ x1,xs[0]?=some x1∧x<x1)) (hy:(∃ k:Nat,j=k∧ys[k]?=some y)∨(j=-1∧∃ y1,ys[0]?=some y1∧y<y1)) :
  cZ i j (mat xs ys (cov l))=some (one (cov l x y)):=by
 obtain ⟨c1,c2,_,d1,d2,_⟩:=Pz h
 rcases hx with ⟨i,rfl,hx⟩ | ⟨rfl,x1,hx1,hlt⟩
 ·have hi0:¬ (i:Int)<0:=by omega
  have hil:=aT hx
  rcases hy with ⟨j,rfl,hy⟩ | ⟨rfl,y1,hy1,hlt⟩
  ·have hj0:¬ (j:Int)<0:=by omega
   have hjl:=aT hy
   by_cases hi:i+1<xs.length
   ·have hi1:¬ (i:Int) ≥ ((mat xs ys (cov l)).length:Int):=by rw [Qf];omega
    have hm:=Wh (p:=cov l) (ys:=ys) hx hi
    by_cases hj:j+1<ys.length
    ·have hj1:¬ (j:Int) ≥ ((ys.dropLast.map fun y=>cov l x y).length:Int):=by simp;omega
     have hr:=Ww (q:=fun y=>cov l x y) hy hj
     unfold cZ
     simp only [hi0,hj0,hi1,hj1,decide_false,Bool.false_eq_true,if_false,bD hm,bD hr,Option.bind_some]
     cases cov l x y <;> rfl
    ·have hj1:(j:Int) ≥ ((ys.dropLast.map fun y=>cov l x y).length:Int):=by simp;omega
     have e:cov l x y=false:=d2 y (by rw [show ys.length-1=j from by omega];exact hy) x y (Int.le_refl _)
     unfold cZ
     simp only [hi0,hj0,hi1,hj1,decide_false,decide_true,Bool.false_eq_true,if_false,if_true,bD hm,Option.bind_some,e]
     rfl
   ·have hi1:(i:Int) ≥ ((mat xs ys (cov l)).length:Int):=by rw [Qf];omega
    have e:cov l x y=false:=c2 x (by rw [show xs.length-1=i from by omega];exact hx) x y (Int.le_refl _)
    unfold cZ
    simp only [hi0,hj0,hi1,decide_false,decide_true,Bool.false_eq_true,if_false,if_true,Option.bind_some,e]
    rfl
  ·have e:cov l x y=false:=d1 y1 hy1 x y hlt
   have hj:((-1:Int)<0):=by omega
   unfold cZ
   simp only [hi0,hj,decide_false,decide_true,Bool.false_eq_true,if_false,if_true,Option.bind_some,e]
   rfl
 ·have e:cov l x y=false:=c1 x1 hx1 x y hlt
  have hj:((-1:Int)<0):=by omega
  unfold cZ
  simp only [hj,decide_true,if_true,Option.bind_some,e]
  rfl
omit h in
theorem Wm {k:Nat} {g:List Int} {e:Int} (hg:(g.Pairwise fun x y=>x<y)) (hk:g[k]?=some e):(∃ k':Nat,(k:Int)-1=k'∧∃ x,g[k']?=some x∧x<e∧g[k'+1]?=some e)∨((k:Int)-1=-1∧g[0]?=some e):=by
 rcases Nat.eq_zero_or_pos k with q | q
 ·subst q;exact .inr ⟨by omega,hk⟩
 ·left
  have:=aT hk
  obtain ⟨x,hx⟩:∃ x,g[k-1]?=some x:=⟨_,List.getElem?_eq_getElem (by omega)⟩
  exact ⟨k-1,by omega,x,hx,xJ hg (show k-1<k by omega) hx hk,by rw [show k-1+1=k from by omega];exact hk⟩
omit h in
theorem one_sub (a b:Bool):aE (one a) (one b)=one a-one b:=by cases a <;> cases b <;> decide
theorem IW {i j:Nat} {x y:Int} (hx:xs[i]?=some x) (hy:ys[j]?=some y):kE (i:Int) (mat xs ys (cov l)) (j:Int)=some (hl (cov l) y x):=by
 have hyl:=h.Y.len
 have hjl:=aT hy
 have a1:=Oq h (i:=i) (j:=j) (x:=x) (y:=y) (.inl ⟨i,rfl,hx⟩) (.inl ⟨j,rfl,hy⟩)
 have hs:aE (j:Int) 1=(j:Int)-1:=aW (by omega) (by omega)
 have a2:cZ (i:Int) ((j:Int)-1) (mat xs ys (cov l))=some (one (cov l x (y-1))):=by
  rcases Wm h.Y.asc hy with ⟨k',e1,w,hw,hlt,hw1⟩ | ⟨e1,h0⟩
  ·rw [e1]
   have:=Oq h (i:=i) (j:=k') (x:=x) (y:=w) (.inl ⟨i,rfl,hx⟩) (.inl ⟨k',rfl,hw⟩)
   have st:=(nG (Qt h x) hw hw1).2 (y-1) (by omega) (by omega)
   rw [st];exact this
  ·rw [e1]
   exact Oq h (i:=i) (j:=-1) (x:=x) (y:=y-1) (.inl ⟨i,rfl,hx⟩) (.inr ⟨rfl,y,h0,by omega⟩)
 unfold kE hl
 rw [a1,hs,a2]
 simp only [Option.bind_some,one_sub]
theorem IX {i j:Nat} {x y:Int} (hx:xs[i]?=some x) (hy:ys[j]?=some y):kF (j:Int) (mat xs ys (cov l)) (i:Int)=some (vl (cov l) x y):=by
 have hxl:=h.X.len
 have hil:=aT hx
 have a1:=Oq h (i:=i) (j:=j) (x:=x) (y:=y) (.inl ⟨i,rfl,hx⟩) (.inl ⟨j,rfl,hy⟩)
 have hs:aE (i:Int) 1=(i:Int)-1:=aW (by omega) (by omega)
 have a2:cZ ((i:Int)-1) (j:Int) (mat xs ys (cov l))=some (one (cov l (x-1) y)):=by
  rcases Wm h.X.asc hx with ⟨k',e1,w,hw,hlt,hw1⟩ | ⟨e1,h0⟩
  ·rw [e1]
   have:=Oq h (i:=k') (j:=j) (x:=w) (y:=y) (.inl ⟨k',rfl,hw⟩) (.inl ⟨j,rfl,hy⟩)
   have st:=(nG (Xd h) hw hw1).2 (x-1) (by omega) (by omega)
   rw [congrFun st y];exact this
  ·rw [e1]
   exact Oq h (i:=-1) (j:=j) (x:=x-1) (y:=y) (.inr ⟨rfl,x,h0,by omega⟩) (.inl ⟨j,rfl,hy⟩)
 unfold kF vl
 rw [a1,hs,a2]
 simp only [Option.bind_some,one_sub]
theorem Ob:∃ r,aM (nL ⟨xs,ys⟩ (mat xs ys (cov l))) (0,[])=some r∧aM (nM ⟨xs,ys⟩ (mat xs ys (cov l))) (0,r)=some (uY (cov l) xs ys)∧(uY (cov l) xs ys).length≤2000000∧r=ys.flatMap fun y=>(cY (hl (cov l) y)).map (mkH y):=by
 have hX:=h.X.len
 have hY:=h.Y.len
 obtain ⟨r,q1,q2,q3⟩:=jJ ys (fun k (s:List aI)=>((k:Int),s)) (nL ⟨xs,ys⟩ (mat xs ys (cov l))) (fun s=>s) (fun k s=>s=(ys.take k).flatMap (fun y=>(cY (hl (cov l) y)).map (mkH y))∧s.length≤1000*k) [] ⟨rfl,by simp⟩
  (fun k y s hy hI=>by
   have hk:=aT hy
   have hd:decide ((k:Int)<(ys.length:Int))=true:=by simp [hk]
   obtain ⟨L,g1,g2,g3⟩:=Vz (Cy h y) (side:=fun i=>kE i (mat xs ys (cov l)) (k:Int)) (fun i x hx hi=>IW h hx hy) (found:=fun a b s=>oO a b y s) (mk:=mkH y) (fun a b s hs=>by
    unfold oO
    rw [uK (by simp [LIM];omega)];rfl) (out0:=s) (by omega)
   have gl:(cY (hl (cov l) y))=L:=kI g2
   unfold nL
   simp only [hd,if_true,bD hy,Option.bind_some,CY,g1,bA k (by omega)]
   refine ⟨_,rfl, ?_,by simp;omega⟩
   rw [gA hy,List.flatMap_append,hI.1]
   simp [gl]) (fun s _=>by simp [nL])
 rw [List.take_length] at q2
 obtain ⟨r',t1,t2,t3⟩:=jJ xs (fun k (s:List aI)=>((k:Int),s)) (nM ⟨xs,ys⟩ (mat xs ys (cov l))) (fun s=>s) (fun k s=>s=r++(xs.take k).flatMap (fun x=>(cY (vl (cov l) x)).map (mkV x))∧s.length≤1000000+1000*k) r ⟨by simp,by omega⟩
  (fun k x s hx hI=>by
   have hk:=aT hx
   have hd:decide ((k:Int)<(xs.length:Int))=true:=by simp [hk]
   obtain ⟨L,g1,g2,g3⟩:=Vz (Cz h x) (side:=fun i=>kF i (mat xs ys (cov l)) (k:Int)) (fun i y hy hi=>IX h hx hy) (found:=fun a b s=>oQ a b x s) (mk:=mkV x) (fun a b s hs=>by
    unfold oQ
    rw [uK (by simp [LIM];omega)];rfl) (out0:=s) (by omega)
   have gl:(cY (vl (cov l) x))=L:=kI g2
   unfold nM
   simp only [hd,if_true,bD hx,Option.bind_some,CZ,g1,bA k (by omega)]
   refine ⟨_,rfl, ?_,by simp;omega⟩
   rw [gA hx,List.flatMap_append,hI.1]
   simp [gl]) (fun s _=>by simp [nM])
 rw [List.take_length] at t2
 have e:r'=uY (cov l) xs ys:=by rw [t2,q2];rfl
 refine ⟨r,by rw [show ((0:Int),([]:List aI))=(((0:Nat):Int),[]) from rfl,q1],by rw [show ((0:Int),r)=(((0:Nat):Int),r) from rfl,t1,e],by rw [← e];omega,q2⟩
end
theorem Ep {l:List aK} (hc:mN [l]=0):∃ xs ys,lE l=some (uY (cov l) xs ys,0)∧iO xs (xsL l)∧iO ys (ysL l)∧(uY (cov l) xs ys).length≤2000000:=by
 obtain ⟨hl,hv⟩:=Lk hc
 obtain ⟨xs,ys,g1,g2,g3⟩:=Un (lists:=[l]) (by simp) (fun x hx=>by simp at hx;subst hx;exact ⟨hv,by omega⟩)
 simp only [List.flatMap_cons,List.flatMap_nil,List.append_nil] at g2 g3
 have hH:=Mb hv (by omega) g2 g3 (fun r hr=>hr)
 obtain ⟨r,o1,o2,o3,_⟩:=Ob hH
 refine ⟨xs,ys, ?_,g2,g3,o3⟩
 unfold lE
 rw [Sy (by simp),Option.bind_some]
 simp only [hc,bne_self_eq_false,Bool.false_eq_true,if_false,g1,Option.bind_some,Ua hv (show l.length≤1000 by omega) hH.X.len hH.Y.len (Yc g2 g3),o1,o2]
def rZ (R:List (List aK)) (x y:Int):Option Nat:=R.findIdx? fun l=>cov l x y
def Fw (o:Option Nat):Option Int:=o.map fun i=>(i:Int)
def jE (R:List (List aK)) (x y:Int):Option Int:=Fw (rZ R x y)
def Uj (R:List (List aK)) (x y:Int):Int:=match rZ R x y with
 | some i=>(i:Int)
 | none=>-1
theorem HL (R:List (List aK)) (x y:Int):Uj R x y=match jE R x y with | some i=>i | none=>-1:=by
 unfold Uj jE Fw
 cases rZ R x y <;> rfl
theorem FE {R:List (List aK)} {x y:Int} {i:Nat} (h:rZ R x y=some i):i<R.length:=by
 unfold rZ at h
 exact (List.findIdx?_eq_some_iff_getElem.1 h).1
theorem Mg {R:List (List aK)} {x y x' y':Int} (h:∀ l ∈ R,cov l x y=cov l x' y'):rZ R x y=rZ R x' y':=by
 unfold rZ
 have:∀ R:List (List aK),(∀ l ∈ R,cov l x y=cov l x' y')→R.findIdx? (fun l=>cov l x y)=R.findIdx? fun l=>cov l x' y':=by
  intro R
  induction R with
  | nil=>intro _;rfl
  | cons l R ih =>
    intro h
    rw [List.findIdx?_cons,List.findIdx?_cons,h l List.mem_cons_self,ih fun k hk=>h k (List.mem_cons_of_mem _ hk)]
 exact this R h
theorem Yl {α R:Type} (l:List α) (body:Int→Option (Int ⊕ R)) (q:α→Bool) (yes:Nat→R) (no:R) (step:∀ (k:Nat) (x:α),l[k]?=some x→body k=if q x then some (.inr (yes k)) else some (.inl ((k+1:Nat):Int))) (fin:body (l.length:Int)=some (.inr no)) :
  aM body 0=some (match l.findIdx? q with | some i=>yes i | none=>no):=by
 have key:∀ (m k:Nat),k+m=l.length→aM body (k:Int)=some (match (l.drop k).findIdx? q with | some i=>yes (k+i) | none=>no):=by
  intro m
  induction m with
  | zero =>
    intro k h;obtain rfl:k=l.length:=by omega
    rw [List.drop_length,uD fin];rfl
  | succ m ih =>
    intro k h
    have hk:k<l.length:=by omega
    have hx:l[k]?=some l[k]:=by simp
    have hs:=step k _ hx
    rw [List.drop_eq_getElem_cons hk,List.findIdx?_cons]
    cases hq:q l[k] with
    | true=>rw [hq] at hs;rw [uD hs];simp
    | false =>
      rw [hq] at hs
      rw [Ha hs,ih (k+1) (by omega)]
      cases (l.drop (k+1)).findIdx? q with
      | none=>rfl
      | some i=>simp;congr 1;omega
 have:=key l.length 0 (by omega)
 simpa using this
structure Lay (R:List (List aK)) (xs ys:List Int):Prop where
 x:iO xs (xsL R.flatten)
 y:iO ys (ysL R.flatten)
 v:Eo R.flatten
 n:R.flatten.length≤400
 m:R.length≤900
section
variable {R:List (List aK)} {xs ys:List Int} (h:Lay R xs ys)
include h
theorem Lay.has {l:List aK} (hl:l ∈ R):Has xs ys l:=Mb h.v h.n h.x h.y fun r hr=>List.mem_flatten.2 ⟨l,hl,hr⟩
theorem Lay.IL:Has xs ys R.flatten:=Mb h.v h.n h.x h.y fun r hr=>hr
theorem Lay.X:Oh xs:=h.IL.X
theorem Lay.Y:Oh ys:=h.IL.Y
theorem HM {x y:Int} {i:Nat} (hc:rZ R x y=some i):(∃ a ∈ xs,a≤x)∧(∃ a ∈ xs,x<a)∧(∃ a ∈ ys,a≤y)∧(∃ a ∈ ys,y<a):=by
 unfold rZ at hc
 obtain ⟨hi,h1,_⟩:=List.findIdx?_eq_some_iff_getElem.1 hc
 exact Vo (h.has (List.getElem_mem hi)) h1
theorem Wc:pO (fun x=>rZ R x) xs:=Ab (C:=fun c=>c ∈ xsL R.flatten) (fun x z hxz hC=>funext fun y=>Mg fun l hl=>Ae fun r hr=>by
 have hrm:r ∈ R.flatten:=List.mem_flatten.2 ⟨l,hl,hr⟩
 have h1:=hC _ (Fo hrm).1
 have h2:=hC _ (Fo hrm).2
 show ((decide (r.X≤z)&&decide (z<r.X+r.W))&&_)=((decide (r.X≤x)&&decide (x<r.X+r.W))&&_)
 rw [show decide (r.X≤z)=decide (r.X≤x) from by simp only [h1],show decide (z<r.X+r.W)=decide (x<r.X+r.W) from by
  have:(z<r.X+r.W)=(x<r.X+r.W):=by apply propext;omega
  simp only [this]]) xs h.X.asc fun c hc=>.inr ((h.x.2 c).2 hc)
theorem We:pO (fun y=>fun x=>rZ R x y) ys:=Ab (C:=fun c=>c ∈ ysL R.flatten) (fun y z hyz hC=>funext fun x=>Mg fun l hl=>Ae fun r hr=>by
 have hrm:r ∈ R.flatten:=List.mem_flatten.2 ⟨l,hl,hr⟩
 have h1:=hC _ (Cx hrm).1
 have h2:=hC _ (Cx hrm).2
 show (_&&(decide (r.Y≤z)&&decide (z<r.Y+r.H)))=(_&&(decide (r.Y≤y)&&decide (y<r.Y+r.H)))
 rw [show decide (r.Y≤z)=decide (r.Y≤y) from by simp only [h1],show decide (z<r.Y+r.H)=decide (y<r.Y+r.H) from by
  have:(z<r.Y+r.H)=(y<r.Y+r.H):=by apply propext;omega
  simp only [this]]) ys h.Y.asc fun c hc=>.inr ((h.y.2 c).2 hc)
end
def num:Option Int→Int
 | none=>0
 | some i=>i+1
def cod (a b:Option Int):Int:=if a=b then 0 else num a*1000+num b
theorem Qh {a b:Option Int} (ha:∀ i,a=some i→0≤i) (hb:∀ i,b=some i→0≤i) (h:num a=num b):a=b:=by
 cases a with
 | none=>cases b with
   | none=>rfl
   | some j=>have:=hb j rfl;simp only [num] at h;omega
 | some i=>cases b with
   | none=>have:=ha i rfl;simp only [num] at h;omega
   | some j=>simp only [num] at h;rw [show i=j by omega]
def SmO (a:Option Int):Prop:=∀ i,a=some i→0≤i∧i<900
theorem Iq {a:Option Int} (h:SmO a):0≤num a∧num a≤900:=by
 cases a with
 | none=>simp [num]
 | some i=>have:=h i rfl;simp only [num];omega
theorem AA {a b:Option Int} (ha:SmO a) (hb:SmO b):cod a b=0↔a=b:=by
 unfold cod
 constructor
 ·intro h
  split at h
  ·assumption
  ·have:=Iq ha;have:=Iq hb
   exact Qh (fun i e=>(ha i e).1) (fun i e=>(hb i e).1) (by omega)
 ·intro h;rw [if_pos h]
theorem EL {a b a' b':Option Int} (ha:SmO a) (hb:SmO b) (ha':SmO a') (hb':SmO b') (h0:cod a b≠0) (h:cod a b=cod a' b'):a=a'∧b=b':=by
 have h0':cod a' b'≠0:=by rw [← h];exact h0
 unfold cod at h h0 h0'
 split at h
 ·rename_i e;rw [if_pos e] at h0;exact absurd rfl h0
 ·split at h
  ·rename_i e;rw [if_pos e] at h0';exact absurd rfl h0'
  ·have:=Iq ha;have:=Iq hb;have:=Iq ha';have:=Iq hb'
   exact ⟨Qh (fun i e=>(ha i e).1) (fun i e=>(ha' i e).1) (by omega),Qh (fun i e=>(hb i e).1) (fun i e=>(hb' i e).1) (by omega)⟩
theorem Gx {R:List (List aK)} (hm:R.length≤900) (x y:Int):SmO (jE R x y):=fun i h=>by
 unfold jE Fw at h
 cases e:rZ R x y with
 | none=>rw [e] at h;cases h
 | some j=>rw [e] at h;have:=FE e;simp at h;omega
def hS (R:List (List aK)) (y:Int) (z:Int):Int:=cod (jE R z y) (jE R z (y-1))
def vS (R:List (List aK)) (x:Int) (z:Int):Int:=cod (jE R x z) (jE R (x-1) z)
structure Al (A B:Int→Option Int) (xs:List Int):Prop where
 st:pO (fun z=>(A z,B z)) xs
 len:xs.length≤1000
 sa:∀ z,SmO (A z)
 sb:∀ z,SmO (B z)
 low:∀ x0,xs[0]?=some x0→∀ z,z<x0→A z=none∧B z=none
 high:∀ x1,xs[xs.length-1]?=some x1→∀ z,x1≤z→A z=none∧B z=none
 emp:xs=[]→∀ z,A z=none∧B z=none
theorem Om {g:List Int} {a b:Int} (hg:g.Pairwise fun x y=>x<y) (ha:g[0]?=some a) (hb:b ∈ g):a≤b:=by
 obtain ⟨i,hi⟩:=List.mem_iff_getElem?.1 hb
 rcases Nat.eq_zero_or_pos i with q | q
 ·subst q;rw [ha] at hi;injection hi with hi;omega
 ·have:=xJ hg q ha hi;omega
theorem Rg {g:List Int} {a b:Int} (hg:g.Pairwise fun x y=>x<y) (ha:g[g.length-1]?=some a) (hb:b ∈ g):b≤a:=by
 obtain ⟨i,hi⟩:=List.mem_iff_getElem?.1 hb
 have:=aT hi
 by_cases q:i=g.length-1
 ·subst q;rw [ha] at hi;injection hi with hi;omega
 ·have:=xJ hg (show i<g.length-1 by omega) hi ha;omega
section
variable {R:List (List aK)} {xs ys:List Int} (h:Lay R xs ys)
include h
theorem Ku:(∀ x0,xs[0]?=some x0→∀ x y,x<x0→rZ R x y=none)∧(∀ x1,xs[xs.length-1]?=some x1→∀ x y,x1≤x→rZ R x y=none)∧(xs=[]→∀ x y,rZ R x y=none) ∧
  (∀ y0,ys[0]?=some y0→∀ x y,y<y0→rZ R x y=none)∧(∀ y1,ys[ys.length-1]?=some y1→∀ x y,y1≤y→rZ R x y=none)∧(ys=[]→∀ x y,rZ R x y=none):=by
 have no:∀ {x y:Int},(∀ i,rZ R x y≠some i)→rZ R x y=none:=fun {x y} hn=>by
  cases e:rZ R x y with
  | none=>rfl
  | some i=>exact absurd e (hn i)
 refine ⟨fun x0 h0 x y hx=>no fun i e=>?_,fun x0 h0 x y hx=>no fun i e=>?_,fun h0 x y=>no fun i e=>?_,fun x0 h0 x y hx=>no fun i e=>?_,fun x0 h0 x y hx=>no fun i e=>?_,fun h0 x y=>no fun i e=>?_⟩ <;> obtain ⟨⟨a,ha,a1⟩,⟨b,hb,b1⟩,⟨c,hc,c1⟩,⟨d,hd,d1⟩⟩:=HM h e
 ·have:=Om h.X.asc h0 ha;omega
 ·have:=Rg h.X.asc h0 hb;omega
 ·rw [h0] at ha;cases ha
 ·have:=Om h.Y.asc h0 hc;omega
 ·have:=Rg h.Y.asc h0 hd;omega
 ·rw [h0] at hc;cases hc
omit h in
theorem nZ {x y:Int} (e:rZ R x y=none):jE R x y=none:=by unfold jE Fw;rw [e];rfl
theorem DZ (y:Int):Al (fun z=>jE R z y) (fun z=>jE R z (y-1)) xs:=by
 obtain ⟨o1,o2,o3,_⟩:=Ku h
 exact ⟨tL (fun f:Int→Option Nat=>(Fw (f y),Fw (f (y-1)))) (g:=fun x=>rZ R x) (Wc h),h.X.len,fun z=>Gx h.m _ _,fun z=>Gx h.m _ _,
  fun x0 h0 z hz=>⟨nZ (o1 x0 h0 z _ hz),nZ (o1 x0 h0 z _ hz)⟩,fun x0 h0 z hz=>⟨nZ (o2 x0 h0 z _ hz),nZ (o2 x0 h0 z _ hz)⟩,fun h0 z=>⟨nZ (o3 h0 z _),nZ (o3 h0 z _)⟩⟩
theorem EA (x:Int):Al (fun z=>jE R x z) (fun z=>jE R (x-1) z) ys:=by
 obtain ⟨_,_,_,o1,o2,o3⟩:=Ku h
 exact ⟨tL (fun f:Int→Option Nat=>(Fw (f x),Fw (f (x-1)))) (g:=fun y=>fun x=>rZ R x y) (We h),h.Y.len,fun z=>Gx h.m _ _,fun z=>Gx h.m _ _,
  fun x0 h0 z hz=>⟨nZ (o1 x0 h0 _ z hz),nZ (o1 x0 h0 _ z hz)⟩,fun x0 h0 z hz=>⟨nZ (o2 x0 h0 _ z hz),nZ (o2 x0 h0 _ z hz)⟩,fun h0 z=>⟨nZ (o3 h0 _ z),nZ (o3 h0 _ z)⟩⟩
end
section
variable {A B:Int→Option Int} {xs:List Int} (h:Al A B xs)
include h
theorem Al.s0 (z:Int):cod (A z) (B z)=0↔A z=B z:=AA (h.sa z) (h.sb z)
theorem Al.inj {z w:Int} (h0:cod (A z) (B z)≠0) (e:cod (A z) (B z)=cod (A w) (B w)):A z=A w∧B z=B w:=EL (h.sa z) (h.sb z) (h.sa w) (h.sb w) h0 e
theorem Al.lo:∃ lo,∀ z,z<lo→cod (A z) (B z)=0:=by
 have e0:∀ z,A z=none∧B z=none→cod (A z) (B z)=0:=fun z q=>by rw [q.1,q.2];rfl
 cases hx:xs[0]? with
 | none=>exact ⟨0,fun z _=>e0 z (h.emp (by simpa using hx) z)⟩
 | some x0=>exact ⟨x0,fun z hz=>e0 z (h.low x0 hx z hz)⟩
theorem Al.before {k:Nat} {x e:Int} (hx:xs[k]?=some x) (he:xs[k+1]?=some e):A (e-1)=A x∧B (e-1)=B x:=by
 obtain ⟨h1,h2⟩:=nG h.st hx he
 have:=h2 (e-1) (by omega) (by omega)
 injection this with q1 q2
 exact ⟨q1,q2⟩
end
def nm:Option Int→Int
 | some i=>i
 | none=>-1
theorem Uo {a b:Option Int} (ha:SmO a) (hb:SmO b):nm a=nm b↔a=b:=by
 constructor
 ·intro h
  cases a with
  | none=>cases b with
    | none=>rfl
    | some j=>have:=hb j rfl;simp only [nm] at h;omega
  | some i=>cases b with
    | none=>have:=ha i rfl;simp only [nm] at h;omega
    | some j=>simp only [nm] at h;rw [h]
 ·intro h;rw [h]
theorem Qg (R:List (List aK)) (x y:Int):nm (jE R x y)=Uj R x y:=by rw [HL];rfl
section
variable {R:List (List aK)} (hv:Eo R.flatten) (hm:R.length≤900) (hn:∀ l ∈ R,l.length≤1000)
include hv hm hn
theorem Xg {l:List aK} (hl:l ∈ R) (x y:Int):jN l x y=some (cov l x y):=by
 unfold jN cov
 have:=hn l hl
 rw [BU l (gU l x y) (fun r=>inC r x y) (.inr ()) (.inl ()) (fun k r hr=>?s) ?f]
 ·cases l.any (fun r=>inC r x y) <;> rfl
 case s =>
  have h1:=aT hr
  obtain ⟨e1,e2⟩:=Qv (hv r (List.mem_flatten.2 ⟨l,hl,List.mem_of_getElem? hr⟩))
  unfold gU
  simp only [h1,Int.ofNat_lt,decide_true,if_true,bD hr,Option.bind_some,e1,e2]
  have hb':(if decide (r.X≤x) then (if decide (x<r.X+r.W) then (if decide (r.Y≤y) then some (decide (y<r.Y+r.H)) else some false) else some false) else some false)=some (inC r x y):=by
   unfold inC
   cases decide (r.X≤x) <;> cases decide (x<r.X+r.W) <;> cases decide (r.Y≤y) <;> simp
  rw [hb',Option.bind_some,bA k (by omega)]
 case f=>simp [gU]
theorem BP (x y:Int):kU R x y=some (Uj R x y):=by
 unfold kU
 rw [Yl R (iK R x y) (fun l=>cov l x y) (fun k=>.inl (k:Int)) (.inr ()) (fun k l hl=>?s) ?f]
 ·unfold Uj rZ
  cases R.findIdx? (fun l=>cov l x y) <;> rfl
 case s =>
  have h1:=aT hl
  unfold iK
  simp only [h1,Int.ofNat_lt,decide_true,if_true,bD hl,Option.bind_some,Xg hv hm hn (List.mem_of_getElem? hl),bA k (by omega)]
 case f=>simp [iK]
def vM (R:List (List aK)) (xs ys:List Int) (i j:Nat):Int:=if 0<i∧0<j∧i<xs.length∧j<ys.length then Uj R (xs.getD (i-1) 0) (ys.getD (j-1) 0) else -1
def Ja (R:List (List aK)) (xs ys:List Int) (i:Nat):List Int:=(List.range (ys.length+1)).map fun j=>vM R xs ys i j
def yP (R:List (List aK)) (xs ys:List Int):List (List Int):=(List.range (xs.length+1)).map fun i=>Ja R xs ys i
omit hv hm hn in
theorem yQ (xs ys:List Int) (i j:Nat) (hj:j≤ys.length):(Ja R xs ys i)[j]?=some (vM R xs ys i j):=by
 unfold Ja;rw [List.getElem?_map,List.getElem?_range (by omega)];rfl
omit hv hm hn in
theorem Db (xs ys:List Int) (i:Nat) (hi:i≤xs.length):(yP R xs ys)[i]?=some (Ja R xs ys i):=by
 unfold yP;rw [List.getElem?_map,List.getElem?_range (by omega)];rfl
theorem Yh {xs ys:List Int} (hx:xs.length≤1000) (hy:ys.length≤1000):jO R xs ys=some (yP R xs ys):=by
 have inner:∀ (i:Nat) (M0:List (List Int)) (base:List (List Int)),i≤xs.length→base[i]?=some (List.replicate (ys.length+1) 0) →
   aM (fD R xs ys ((i:Int),M0)) (0,base)=some (base.set i (Ja R xs ys i)):=fun i M0 base hi hb=>by
  obtain ⟨C,hC⟩:∃ C,Ja R xs ys i=C:=⟨_,rfl⟩
  have hCl:C.length=ys.length+1:=by rw [← hC];simp [Ja]
  have hil:=aT hb
  obtain ⟨r,q1,q2⟩:=jJ (List.range (ys.length+1)) (fun k (s:List (List Int))=>((k:Int),s)) (fD R xs ys ((i:Int),M0)) (fun s=>s) (fun k s=>s=base.set i (C.take k++List.replicate (C.length-k) 0)) base (by
    rw [List.take_zero,List.nil_append,Nat.sub_zero,hCl,Hu hb])
   (fun k y s hy' hI=>by
    have hk:=aT hy'
    rw [List.length_range] at hk
    have hd:decide ((k:Int)≤(ys.length:Int))=true:=by simp;omega
    have hCk:C[k]?=some (vM R xs ys i k):=by rw [← hC];exact yQ xs ys i k (by omega)
    have gb:s[i]?=some (C.take k++List.replicate (C.length-k) 0):=by rw [hI,List.getElem?_set,if_pos rfl,if_pos hil]
    have gz:(C.take k++List.replicate (C.length-k) 0)[k]?=some (0:Int):=Gf hCk
    have hlk:=aT gz
    have hsl:s.length=base.length:=by rw [hI,List.length_set]
    unfold fD
    simp only [hd,if_true,bD gb,bD gz,Option.bind_some,Int.toNat_natCast]
    by_cases hc:0<i∧0<k∧i<xs.length∧k<ys.length
    ·obtain ⟨c1,c2,c3,c4⟩:=hc
     have e1:aE (i:Int) 1=((i-1:Nat):Int):=by rw [aW (by omega) (by omega)];omega
     have e2:aE (k:Int) 1=((k-1:Nat):Int):=by rw [aW (by omega) (by omega)];omega
     have g1:xs[i-1]?=some (xs.getD (i-1) 0):=by rw [List.getD_eq_getElem?_getD,List.getElem?_eq_getElem (by omega)];rfl
     have g2:ys[k-1]?=some (ys.getD (k-1) 0):=by rw [List.getD_eq_getElem?_getD,List.getElem?_eq_getElem (by omega)];rfl
     have g3:(s.set i ((C.take k++List.replicate (C.length-k) 0).set k (-1)))[i]?=some ((C.take k++List.replicate (C.length-k) 0).set k (-1)):=by rw [List.getElem?_set,if_pos rfl,if_pos (by omega)]
     have g4:((C.take k++List.replicate (C.length-k) 0).set k (-1))[k]?=some (-1:Int):=by rw [List.getElem?_set,if_pos rfl,if_pos hlk]
     have d1:decide ((i:Int)>0)=true:=by simp;omega
     have d2:decide ((k:Int)>0)=true:=by simp;omega
     have d3:decide ((i:Int)<(xs.length:Int))=true:=by simp;omega
     have d4:decide ((k:Int)<(ys.length:Int))=true:=by simp;omega
     simp only [d1,d2,d3,d4,if_true,Option.bind_some,bD g3,e1,e2,bD g1,bD g2,BP hv hm hn,bD g4,fC,bA k (by omega)]
     refine ⟨_,rfl, ?_⟩
     rw [List.set_set,List.set_set,hI,List.set_set]
     have:vM R xs ys i k=Uj R (xs.getD (i-1) 0) (ys.getD (k-1) 0):=by unfold vM;rw [if_pos ⟨c1,c2,c3,c4⟩]
     rw [← this,Cg hCk]
    ·have hcv:vM R xs ys i k=-1:=by unfold vM;rw [if_neg hc]
     have hb':(if decide ((i:Int)>0) then (if decide ((k:Int)>0) then (if decide ((i:Int)<(xs.length:Int)) then some (decide ((k:Int)<(ys.length:Int))) else some false) else some false) else some false)=some false:=by
      by_cases c1:0<i
      ·by_cases c2:0<k
       ·by_cases c3:i<xs.length
        ·have c4:¬ k<ys.length:=fun q=>hc ⟨c1,c2,c3,q⟩
         simp [c1,c2,c3,c4]
        ·simp [c1,c2,c3]
       ·simp [c1,c2]
      ·simp [c1]
     rw [hb']
     simp only [Option.bind_some,Bool.false_eq_true,if_false,fC,bA k (by omega)]
     refine ⟨_,rfl, ?_⟩
     rw [hI,List.set_set,← hcv,Cg hCk]) (fun s _=>by
    have:¬ ((List.range (ys.length+1)).length:Int)≤(ys.length:Int):=by rw [List.length_range];omega
    unfold fD
    simp only [this,decide_false,Bool.false_eq_true,if_false])
  rw [List.length_range,← hCl,List.take_length,Nat.sub_self,List.replicate_zero,List.append_nil] at q2
  rw [show ((0:Int),base)=(((0:Nat):Int),base) from rfl,q1,q2,hC]
 obtain ⟨C,hC⟩:∃ C,yP R xs ys=C:=⟨_,rfl⟩
 have hCl:C.length=xs.length+1:=by rw [← hC];simp [yP]
 have mk1:∀ {β:Type} (n:Nat) (z:β),n≤1000→mk (aJ (n:Int) 1) z=some (List.replicate (n+1) z):=fun {β} n z hn'=>by
  rw [bA n (by omega)]
  unfold mk
  rw [if_pos ⟨by omega,by simp [LIM];omega⟩,Int.toNat_natCast]
 obtain ⟨r,q1,q2⟩:=jJ (List.range (xs.length+1)) (fun k (s:List (List Int))=>((k:Int),s)) (gW R xs ys) (fun s=>s) (fun k s=>s=C.take k++List.replicate (C.length-k) []) (List.replicate (xs.length+1) []) (by
   rw [List.take_zero,List.nil_append,Nat.sub_zero,hCl])
  (fun k x s hx' hI=>by
   have hk:=aT hx'
   rw [List.length_range] at hk
   have hd:decide ((k:Int)≤(xs.length:Int))=true:=by simp;omega
   have hCk:C[k]?=some (Ja R xs ys k):=by rw [← hC];exact Db xs ys k (by omega)
   have g0:s[k]?=some []:=by rw [hI];exact Gf hCk
   have hks:=aT g0
   have g1:(s.set k (List.replicate (ys.length+1) 0))[k]?=some (List.replicate (ys.length+1) 0):=by rw [List.getElem?_set,if_pos rfl,if_pos hks]
   unfold gW
   simp only [hd,if_true,mk1 ys.length (0:Int) hy,Option.bind_some,bD g0,Int.toNat_natCast,inner k s _ (by omega) g1,bA k (by omega)]
   refine ⟨_,rfl, ?_⟩
   rw [List.set_set,hI,Cg hCk]) (fun s _=>by
   have:¬ ((List.range (xs.length+1)).length:Int)≤(xs.length:Int):=by rw [List.length_range];omega
   unfold gW
   simp only [this,decide_false,Bool.false_eq_true,if_false])
 rw [List.length_range,← hCl,List.take_length,Nat.sub_self,List.replicate_zero,List.append_nil] at q2
 unfold jO
 rw [mk1 xs.length ([]:List Int) hx]
 simp only [Option.bind_some]
 rw [show ((0:Int),List.replicate (xs.length+1) ([]:List Int))=(((0:Nat):Int),List.replicate (xs.length+1) []) from rfl,q1,q2,hC]
 rfl
end
def cS (q x:aI):Prop:=q.X2=x.X1∧q.Y2=x.Y1∧(q.Y1=x.Y2∨q.X1=x.X2)
instance (q x:aI):Decidable (cS q x):=by unfold cS;infer_instance
abbrev Ln:=aL
def jn (q x:Ln):Prop:=q.Low=x.Low∧q.kZ=x.kZ∧cS q.At x.At
instance (q x:Ln):Decidable (jn q x):=by unfold jn;infer_instance
theorem join_nil (x:Ln) (h:x.Low≠x.kZ):bI x []=some [x]:=by
 unfold bI
 have e1:(x.Low==x.kZ)=false:=by simp [h]
 have e2:aE (([]:List Ln).length:Int) 1=-1:=aW (by simp) (by simp)
 rw [e2]
 simp only [e1,Bool.false_eq_true,if_false,show decide ((-1:Int) ≥ 0)=false from rfl,Option.bind_some]
 rw [uK (by simp [LIM])]
 rfl
theorem Yf (x:Ln) (l:List Ln) (h:x.Low=x.kZ):bI x l=some l:=by
 unfold bI
 simp [h]
theorem Ie (x q:Ln) (o:List Ln) (ho:o.length≤10000000) (h:x.Low≠x.kZ):bI x (o++[q])=some (if jn q x then o++[⟨⟨q.At.X1,q.At.Y1,x.At.X2,x.At.Y2⟩,q.Low,q.kZ⟩] else o++[q]++[x]):=by
 unfold bI
 have e1:(x.Low==x.kZ)=false:=by simp [h]
 have hlen:((o++[q]).length:Int)=(o.length:Int)+1:=by simp
 have e2:aE ((o++[q]).length:Int) 1=(o.length:Int):=by rw [hlen,aW (by omega) (by omega)];omega
 have g:(o++[q])[o.length]?=some q:=by simp
 have d:decide ((o.length:Int) ≥ 0)=true:=by simp
 rw [e2]
 simp only [e1,Bool.false_eq_true,if_false,d,if_true,bD g,Option.bind_some,Int.toNat_natCast]
 have hj : (if (q.Low==x.Low)=true then (if (q.kZ==x.kZ)=true then (if (q.At.X2==x.At.X1)=true then (if (q.At.Y2==x.At.Y1)=true then (if (q.At.Y1==x.At.Y2)=true then some true else some (q.At.X1==x.At.X2)) else some false) else some false) else some false) else some false)=some (decide (jn q x)):=by
  unfold jn cS
  by_cases h1:q.Low=x.Low
  ·by_cases h2:q.kZ=x.kZ
   ·by_cases h3:q.At.X2=x.At.X1
    ·by_cases h4:q.At.Y2=x.At.Y1
     ·by_cases h5:q.At.Y1=x.At.Y2
      ·simp [h1,h2,h3,h4,h5]
      ·by_cases h6:q.At.X1=x.At.X2
       ·simp [h1,h2,h3,h4,h5,h6]
       ·simp [h1,h2,h3,h4,h5,h6]
     ·simp [h1,h2,h3,h4]
    ·simp [h1,h2,h3]
   ·simp [h1,h2]
  ·simp [h1]
 rw [hj,Option.bind_some]
 by_cases hc:jn q x
 ·have s1:(o++[q]).set o.length (⟨⟨q.At.X1,q.At.Y1,x.At.X2,q.At.Y2⟩,q.Low,q.kZ⟩:Ln)=o++[⟨⟨q.At.X1,q.At.Y1,x.At.X2,q.At.Y2⟩,q.Low,q.kZ⟩]:=by rw [List.set_append_right _ _ (Nat.le_refl _)];simp
  have g2:(o++[(⟨⟨q.At.X1,q.At.Y1,x.At.X2,q.At.Y2⟩,q.Low,q.kZ⟩:Ln)])[o.length]?=some ⟨⟨q.At.X1,q.At.Y1,x.At.X2,q.At.Y2⟩,q.Low,q.kZ⟩:=by simp
  simp only [hc,decide_true,if_true,s1,bD g2,Option.bind_some]
  rw [List.set_append_right _ _ (Nat.le_refl _)]
  simp
 ·simp only [hc,decide_false,Bool.false_eq_true,if_false]
  rw [uK (by simp [LIM];omega)]
  simp
theorem CU {A B:Int→Option Int} {xs:List Int} (h:Al A B xs) {ln:Int→Int→aI} {body:Int×List Ln→Option (Int×List Ln ⊕ List Ln)}
  (hb:∀ (k:Nat) x x' (out:List Ln),xs[k]?=some x→xs[k+1]?=some x'→body ((k:Int),out)=(bI ⟨ln x x',nm (B x),nm (A x)⟩ out).bind fun r=>some (.inl (((k+1:Nat):Int),r)))
  (hend:∀ (k:Nat) (out:List Ln),k<100000→xs.length≤k+1→body ((k:Int),out)=some (.inr out)) (hcs:∀ a b e e',cS (ln a b) (ln e e')↔b=e) (hmg:∀ a e e',(⟨(ln a e).X1,(ln a e).Y1,(ln e e').X2,(ln e e').Y2⟩:aI)=ln a e')
  {out0:List Ln} (h0:out0.length≤5000000) (hout:∀ q ∈ out0,∀ x x',x<x'→¬ cS q.At (ln x x')) :
  ∃ L,aM body (0,out0)=some (out0++L.map fun p=>⟨ln p.1 p.2,nm (B p.1),nm (A p.1)⟩)∧eK (fun z=>cod (A z) (B z)) L∧L.length≤xs.length:=by
 obtain ⟨s,hs⟩:∃ s:Int→Int,s=fun z=>cod (A z) (B z):=⟨_,rfl⟩
 have hlen:=h.len
 have s0:∀ z,s z=0↔A z=B z:=fun z=>by rw [hs];exact h.s0 z
 have sinj:∀ z w,s z≠0→s z=s w→A z=A w∧B z=B w:=fun z w q1 q2=>by subst hs;exact h.inj q1 q2
 obtain ⟨lo,hlo⟩:=h.lo
 replace hlo:∀ z,z<lo→s z=0:=fun z hz=>by rw [hs];exact hlo z hz
 have hst:pO s xs:=by rw [hs];exact tL (fun p:Option Int×Option Int=>cod p.1 p.2) (g:=fun z=>(A z,B z)) h.st
 rw [← hs]
 obtain ⟨mk,hmk⟩:∃ mk:Int×Int→Ln,mk=fun p=>⟨ln p.1 p.2,nm (B p.1),nm (A p.1)⟩:=⟨_,rfl⟩
 rw [← hmk]
 obtain ⟨r,q1,q2⟩:=iH (fun t:Int×List Ln=>((xs.length:Int)-t.1).toNat)
  (fun t:Int×List Ln=>∃ k:Nat,t.1=k∧(k<xs.length∨k=0)∧(xs=[]→t.2=out0)∧(∀ e,xs[k]?=some e→∃ L,eK (cut s e) L∧L.length≤k∧t.2=out0++L.map mk))
  (fun r=>∃ L,r=out0++L.map mk∧eK s L∧L.length≤xs.length) body (by
   rintro ⟨k',out⟩ ⟨k,hk',hk,hnil,hI⟩
   simp only at hk' hnil hI ⊢
   subst hk'
   by_cases hkl:k+1<xs.length
   case neg =>
    right
    refine ⟨out,hend k out (by omega) (by omega), ?_⟩
    rcases hk with hk | rfl
    ·obtain ⟨e,he⟩:∃ e,xs[k]?=some e:=⟨_,List.getElem?_eq_getElem hk⟩
     obtain ⟨L,hL,hLk,ho⟩:=hI e he
     refine ⟨L,ho,Nb hL fun z hz=>?_,by omega⟩
     have:=h.high e (by rw [show xs.length-1=k from by omega];exact he) z hz
     rw [s0,this.1,this.2]
    ·rcases Classical.em (xs=[]) with q | q
     ·refine ⟨[],by rw [hnil q];simp,⟨.nil,fun a b=>⟨fun m=>by simp at m,fun m=>absurd ((s0 a).2 ?_) m.2.1⟩⟩,by simp⟩
      rw [(h.emp q a).1,(h.emp q a).2]
     ·have hp:=List.length_pos_iff.2 q
      obtain ⟨e,he⟩:∃ e,xs[0]?=some e:=⟨_,List.getElem?_eq_getElem hp⟩
      obtain ⟨L,hL,hLk,ho⟩:=hI e he
      refine ⟨L,ho,Nb hL fun z hz=>?_,by omega⟩
      have:=h.high e (by rw [show xs.length-1=0 from by omega];exact he) z hz
      rw [s0,this.1,this.2]
   left
   obtain ⟨e,he⟩:∃ e,xs[k]?=some e:=⟨_,List.getElem?_eq_getElem (by omega)⟩
   obtain ⟨e',he'⟩:∃ e',xs[k+1]?=some e':=⟨_,List.getElem?_eq_getElem hkl⟩
   obtain ⟨hee,hst'⟩:=nG hst he he'
   obtain ⟨L,hL,hLk,ho⟩:=hI e he
   rw [hb k e e' out he he']
   have fin:∀ L',eK (cut s e') L'→L'.length≤k+1→bI ⟨ln e e',nm (B e),nm (A e)⟩ out=some (out0++L'.map mk) →
     ∃ s',(bI ⟨ln e e',nm (B e),nm (A e)⟩ out).bind (fun r=>some (.inl (((k+1:Nat):Int),r)))=some (.inl s':Int×List Ln ⊕ List Ln)∧(∃ k:Nat,s'.1=k∧(k<xs.length∨k=0)∧(xs=[]→s'.2=out0)∧(∀ e,xs[k]?=some e→∃ L,eK (cut s e) L∧L.length≤k∧s'.2=out0++L.map mk))∧((xs.length:Int)-s'.1).toNat<((xs.length:Int)-(k:Int)).toNat:=fun L' h1 h2 h3=>by
    rw [h3]
    refine ⟨(((k+1:Nat):Int),out0++L'.map mk),rfl,⟨k+1,rfl,.inl hkl,fun q=>by rw [q] at hkl;simp at hkl,fun e2 he2=>?_⟩,by simp only;omega⟩
    rw [he'] at he2;injection he2 with he2;subst he2
    exact ⟨L',h1,h2,rfl⟩
   have hne_iff:nm (B e)=nm (A e)↔s e=0:=by rw [s0,Uo (h.sb e) (h.sa e)];exact eq_comm
   rcases Classical.em (s e=0) with e0 | e0
   ·refine fin L (Pn hL hee hst' e0) (by omega) ?_
    rw [Yf _ _ (hne_iff.2 e0),ho]
   ·have hlh:(⟨ln e e',nm (B e),nm (A e)⟩:Ln).Low≠(⟨ln e e',nm (B e),nm (A e)⟩:Ln).kZ:=fun q=>e0 (hne_iff.1 q)
    rcases Classical.em (s (e-1)=s e) with e1 | e1
    ·obtain ⟨l0,a,hla,hrun⟩:=Pk hL hee hst' hlo e0 e1
     have hr:=oK.1 ((hL.2 a e).1 (by rw [hla];simp))
     have hb2:=sinj (e-1) a (by rw [e1];exact e0) (hr.2.2.2.1 (e-1) (by omega) (by omega))
     have hb3:=sinj (e-1) e (by rw [e1];exact e0) e1
     refine fin (l0++[(a,e')]) hrun (by rw [hla] at hLk;simp at hLk ⊢;omega) ?_
     have hout':out=(out0++l0.map mk)++[mk (a,e)]:=by rw [ho,hla];simp
     rw [hout',Ie _ _ _ (by rw [hla] at hLk;simp at hLk ⊢;omega) hlh,if_pos,List.map_append,← List.append_assoc]
     ·rw [hmk]
      simp only [List.map_cons,List.map_nil]
      rw [hmg]
     ·rw [hmk]
      refine ⟨?_, ?_,(hcs _ _ _ _).2 rfl⟩
      ·show nm (B a)=nm (B e);rw [← hb2.2,hb3.2]
      ·show nm (A a)=nm (A e);rw [← hb2.1,hb3.1]
    ·refine fin (L++[(e,e')]) (Tc hL hee hst' e0 e1) (by simp;omega) ?_
     have hres:(out0++L.map mk)++[(⟨ln e e',nm (B e),nm (A e)⟩:Ln)]=out0++(L++[(e,e')]).map mk:=by rw [List.map_append,← List.append_assoc,hmk];rfl
     rw [← hres,ho]
     rcases List.eq_nil_or_concat L with rfl | ⟨l0,p,hLp⟩
     ·rcases List.eq_nil_or_concat out0 with rfl | ⟨o,q,hoq⟩
      ·simp only [List.map_nil,List.append_nil,List.nil_append]
       exact join_nil _ hlh
      ·have hoq':out0=o++[q]:=by rw [hoq];exact List.concat_eq_append
       simp only [List.map_nil,List.append_nil]
       rw [hoq',Ie _ _ _ (by rw [hoq'] at h0;simp at h0;omega) hlh,if_neg]
       exact fun z=>hout q (by rw [hoq'];simp) e e' hee z.2.2
     ·have hLp':L=l0++[p]:=by rw [hLp];exact List.concat_eq_append
      have hout':out0++L.map mk=(out0++l0.map mk)++[mk p]:=by rw [hLp'];simp
      rw [hout',Ie _ _ _ (by rw [hLp'] at hLk;simp at hLk ⊢;omega) hlh,if_neg]
      intro z
      have hr:=oK.1 ((hL.2 p.1 p.2).1 (by rw [hLp'];simp))
      rw [hmk] at z
      obtain ⟨z1,z2,z3⟩:=z
      have z3':=(hcs p.1 p.2 e e').1 z3
      have z1':nm (B p.1)=nm (B e):=z1
      have z2':nm (A p.1)=nm (A e):=z2
      have y1:=(Uo (h.sb _) (h.sb _)).1 z1'
      have y2:=(Uo (h.sa _) (h.sa _)).1 z2'
      refine e1 ?_
      have:=hr.2.2.2.1 (e-1) (by omega) (by omega)
      rw [this,hs]
      simp only
      rw [y1,y2]) (0,out0)
   ⟨0,rfl,by omega,fun _=>rfl,fun e he=>by
    have hl:=h.low e he
    exact ⟨[],Nc fun z hz=>by rw [s0,(hl z hz).1,(hl z hz).2],by simp,by simp⟩⟩
 obtain ⟨L,rfl,q3,q4⟩:=q2
 exact ⟨L,q1,q3,q4⟩
end Go.SM
namespace Go.SM
open Go Go.VI
theorem Yg:mA=some true:=by kernel_rfl
end Go.SM
namespace Go.SM
open Go Go.VI Go.Cells
def Mj (R:List (List aK)) (xs ys:List Int):List Ln:=
 ys.flatMap (fun y=>(cY (hS R y)).map fun p=>⟨⟨p.1,y,p.2,y⟩,nm (jE R p.1 (y-1)),nm (jE R p.1 y)⟩)++xs.flatMap fun x=>(cY (vS R x)).map fun p=>⟨⟨x,p.1,x,p.2⟩,nm (jE R (x-1) p.1),nm (jE R x p.1)⟩
section
variable {R:List (List aK)} {xs ys:List Int} (h:Lay R xs ys) (hk:∀ t ∈ R,t.length≤1000) (lx:xs.length≤1000) (ly:ys.length≤1000)
include h
theorem Zy {i j:Nat} {x y:Int} (hx:xs[i]?=some x) (hi:i+1<xs.length) (hy:ys[j]?=some y):vM R xs ys (i+1) (j+1)=nm (jE R x y)∧vM R xs ys (i+1) j=nm (jE R x (y-1)):=by
 obtain ⟨_,_,_,o1,o2,_⟩:=Ku h
 have hjl:=aT hy
 have neg:∀ {x y:Int},rZ R x y=none→nm (jE R x y)=-1:=fun {x y} e=>by rw [nZ e];rfl
 constructor
 ·unfold vM
  by_cases hj:j+1<ys.length
  ·rw [if_pos ⟨by omega,by omega,hi,hj⟩]
   simp only [Nat.add_sub_cancel,xQ hx,xQ hy,Qg]
  ·rw [if_neg (by omega),neg (o2 y (by rw [show ys.length-1=j by omega];exact hy) x y (Int.le_refl y))]
 ·unfold vM
  by_cases hj:0<j
  ·rw [if_pos ⟨by omega,hj,hi,hjl⟩]
   obtain ⟨y0,hy0⟩:∃ y0,ys[j-1]?=some y0:=⟨_,List.getElem?_eq_getElem (by omega)⟩
   obtain ⟨h1,h2⟩:=nG (We h) hy0 (by rw [show j-1+1=j by omega];exact hy)
   simp only [Nat.add_sub_cancel,xQ hx,xQ hy0]
   rw [← Qg]
   have:=congrFun (h2 (y-1) (by omega) (by omega)) x
   unfold jE
   rw [this]
  ·obtain rfl:j=0:=by omega
   rw [if_neg (by omega),neg (o1 y hy x (y-1) (by omega))]
theorem Xq {i j:Nat} {x y:Int} (hx:xs[i]?=some x) (hy:ys[j]?=some y) (hj:j+1<ys.length):vM R xs ys (i+1) (j+1)=nm (jE R x y)∧vM R xs ys i (j+1)=nm (jE R (x-1) y):=by
 obtain ⟨o1,o2,_⟩:=Ku h
 have hil:=aT hx
 have neg:∀ {x y:Int},rZ R x y=none→nm (jE R x y)=-1:=fun {x y} e=>by rw [nZ e];rfl
 constructor
 ·unfold vM
  by_cases hi:i+1<xs.length
  ·rw [if_pos ⟨by omega,by omega,hi,hj⟩]
   simp only [Nat.add_sub_cancel,xQ hx,xQ hy,Qg]
  ·rw [if_neg (by omega),neg (o2 x (by rw [show xs.length-1=i by omega];exact hx) x y (Int.le_refl x))]
 ·unfold vM
  by_cases hi:0<i
  ·rw [if_pos ⟨hi,by omega,hil,hj⟩]
   obtain ⟨x0,hx0⟩:∃ x0,xs[i-1]?=some x0:=⟨_,List.getElem?_eq_getElem (by omega)⟩
   obtain ⟨h1,h2⟩:=nG (Wc h) hx0 (by rw [show i-1+1=i by omega];exact hx)
   simp only [Nat.add_sub_cancel,xQ hy,xQ hx0]
   rw [← Qg]
   have:=congrFun (h2 (x-1) (by omega) (by omega)) y
   unfold jE
   rw [this]
  ·obtain rfl:i=0:=by omega
   rw [if_neg (by omega),neg (o1 x hx (x-1) y (by omega))]
include lx ly
theorem FT {j:Nat} {y:Int} (hy:ys[j]?=some y) (s:List Ln) {out0:List Ln} (h0:out0.length≤5000000) (hout:∀ q ∈ out0,q.At.Y2<y) :
  aM (eO (xs,ys) (yP R xs ys) ((j:Int),s)) (0,out0)=some (out0++(cY (hS R y)).map fun p=>⟨⟨p.1,y,p.2,y⟩,nm (jE R p.1 (y-1)),nm (jE R p.1 y)⟩)∧(cY (hS R y)).length≤xs.length:=by
 have hjl:=aT hy
 obtain ⟨L,g1,g2,g3⟩:=CU (DZ h y) (ln:=fun a b=>⟨a,y,b,y⟩) (body:=eO (xs,ys) (yP R xs ys) ((j:Int),s)) (fun k x x' out hx hx'=>by
  have hkl:=aT hx'
  obtain ⟨c1,c2⟩:=Zy h hx hkl hy
  have d:decide (((k+1:Nat):Int)<(xs.length:Int))=true:=by simp;omega
  have g0:=Db (R:=R) xs ys (k+1) (by omega)
  have r1:=yQ (R:=R) xs ys (k+1) j (by omega)
  have r2:=yQ (R:=R) xs ys (k+1) (j+1) (by omega)
  unfold eO
  simp only [bA k (by omega),bA j (by omega),d,if_true,bD hx,bD hy,bD hx',bD g0,bD r1,bD r2,Option.bind_some,c1,c2]) (fun k out hk1 hk2=>by
  have d:decide (aJ (k:Int) 1<(xs.length:Int))=false:=by rw [bA k (by omega)];simp;omega
  unfold eO
  simp only [d,Bool.false_eq_true,if_false]) (fun a b e e'=>by unfold cS;simp) (fun a e e'=>rfl) h0 (fun q hq x x' _ hc=>by have:=hout q hq;have:=hc.2.1;simp only at this;omega)
 have e:cY (hS R y)=L:=kI g2
 rw [e];exact ⟨g1,g3⟩
theorem FU {i:Nat} {x:Int} (hx:xs[i]?=some x) (s:List Ln) {out0:List Ln} (h0:out0.length≤5000000) (hout:∀ q ∈ out0,(q.At.X2<x)∨(q.At.Y1=q.At.Y2∧q.At.X1<q.At.X2)) :
  aM (eQ (xs,ys) (yP R xs ys) ((i:Int),s)) (0,out0)=some (out0++(cY (vS R x)).map fun p=>⟨⟨x,p.1,x,p.2⟩,nm (jE R (x-1) p.1),nm (jE R x p.1)⟩)∧(cY (vS R x)).length≤ys.length:=by
 have hil:=aT hx
 obtain ⟨L,g1,g2,g3⟩:=CU (EA h x) (ln:=fun a b=>⟨x,a,x,b⟩) (body:=eQ (xs,ys) (yP R xs ys) ((i:Int),s)) (fun k y y' out hy hy'=>by
  have hkl:=aT hy'
  obtain ⟨c1,c2⟩:=Xq h hx hy hkl
  have d:decide (((k+1:Nat):Int)<(ys.length:Int))=true:=by simp;omega
  have g0:=Db (R:=R) xs ys i (by omega)
  have g0':=Db (R:=R) xs ys (i+1) (by omega)
  have r1:=yQ (R:=R) xs ys i (k+1) (by omega)
  have r2:=yQ (R:=R) xs ys (i+1) (k+1) (by omega)
  unfold eQ
  simp only [bA k (by omega),bA i (by omega),d,if_true,bD hx,bD hy,bD hy',bD g0,bD g0',bD r1,bD r2,Option.bind_some,c1,c2]) (fun k out hk1 hk2=>by
  have d:decide (aJ (k:Int) 1<(ys.length:Int))=false:=by rw [bA k (by omega)];simp;omega
  unfold eQ
  simp only [d,Bool.false_eq_true,if_false]) (fun a b e e'=>by unfold cS;simp) (fun a e e'=>rfl) h0 (fun q hq y y' hyy hc=>by
  obtain ⟨c1,c2,c3⟩:=hc
  simp only at c1 c2 c3
  have:=hout q hq
  omega)
 have e:cY (vS R x)=L:=kI g2
 rw [e];exact ⟨g1,g3⟩
theorem Nn:∃ r,aM (eP (xs,ys) (yP R xs ys)) (0,[])=some r∧aM (eS (xs,ys) (yP R xs ys)) (0,r)=some (Mj R xs ys)∧(Mj R xs ys).length≤2000000:=by
 have isr:∀ {s:Int→Int} {p:Int×Int},p ∈ cY s→p.1<p.2:=fun {s p} hp=>by
  unfold cY at hp
  split at hp
  ·rename_i hx
   exact (((Classical.choose_spec hx).2 p.1 p.2).1 hp).1
  ·cases hp
 obtain ⟨r,q1,q2,q3,q4⟩:=jJ ys (fun k (s:List Ln)=>((k:Int),s)) (eP (xs,ys) (yP R xs ys)) (fun s=>s) (fun k s=>s=(ys.take k).flatMap (fun y=>(cY (hS R y)).map fun p=>⟨⟨p.1,y,p.2,y⟩,nm (jE R p.1 (y-1)),nm (jE R p.1 y)⟩)∧s.length≤1000*k∧∀ q ∈ s,q.At.Y1=q.At.Y2∧q.At.X1<q.At.X2∧q.At.Y2 ∈ ys.take k) [] ⟨rfl,by simp,fun q hq=>by cases hq⟩
  (fun k y s hy hI=>by
   have hk:=aT hy
   have hd:decide ((k:Int)<(ys.length:Int))=true:=by simp [hk]
   obtain ⟨i1,i2,i3⟩:=hI
   obtain ⟨g1,g2⟩:=FT h lx ly hy s (out0:=s) (by omega) (fun q hq=>by
    obtain ⟨_,_,hm⟩:=i3 q hq
    obtain ⟨n,hn⟩:=List.mem_iff_getElem?.1 hm
    have hnl:=aT hn
    rw [List.length_take] at hnl
    rw [List.getElem?_take,if_pos (by omega)] at hn
    exact xJ h.Y.asc (show n<k by omega) hn hy)
   unfold eP
   simp only [hd,if_true,g1,Option.bind_some,bA k (by omega)]
   refine ⟨_,rfl, ?_,by simp;omega,fun q hq=>?_⟩
   ·rw [gA hy,List.flatMap_append,i1]
    simp
   ·rw [gA hy]
    rcases List.mem_append.1 hq with hq | hq
    ·obtain ⟨a,b,c⟩:=i3 q hq
     exact ⟨a,b,List.mem_append_left _ c⟩
    ·obtain ⟨p,hp,rfl⟩:=List.mem_map.1 hq
     exact ⟨rfl,isr hp,List.mem_append_right _ (by simp)⟩) (fun s _=>by simp [eP])
 rw [List.take_length] at q2 q4
 obtain ⟨r',t1,t2,t3,t4⟩:=jJ xs (fun k (s:List Ln)=>((k:Int),s)) (eS (xs,ys) (yP R xs ys)) (fun s=>s) (fun k s=>s=r++(xs.take k).flatMap (fun x=>(cY (vS R x)).map fun p=>⟨⟨x,p.1,x,p.2⟩,nm (jE R (x-1) p.1),nm (jE R x p.1)⟩)∧s.length≤1000000+1000*k∧∀ q ∈ s,q.At.X2 ∈ xs.take k∨(q.At.Y1=q.At.Y2∧q.At.X1<q.At.X2)) r ⟨by simp,by omega,fun q hq=>.inr ⟨(q4 q hq).1,(q4 q hq).2.1⟩⟩
  (fun k x s hx hI=>by
   have hk:=aT hx
   have hd:decide ((k:Int)<(xs.length:Int))=true:=by simp [hk]
   obtain ⟨i1,i2,i3⟩:=hI
   obtain ⟨g1,g2⟩:=FU h lx ly hx s (out0:=s) (by omega) (fun q hq=>by
    rcases i3 q hq with hm | hm
    ·left
     obtain ⟨n,hn⟩:=List.mem_iff_getElem?.1 hm
     have hnl:=aT hn
     rw [List.length_take] at hnl
     rw [List.getElem?_take,if_pos (by omega)] at hn
     exact xJ h.X.asc (show n<k by omega) hn hx
    ·exact .inr hm)
   unfold eS
   simp only [hd,if_true,g1,Option.bind_some,bA k (by omega)]
   refine ⟨_,rfl, ?_,by simp;omega,fun q hq=>?_⟩
   ·rw [gA hx,List.flatMap_append,i1]
    simp
   ·rw [gA hx]
    rcases List.mem_append.1 hq with hq | hq
    ·exact (i3 q hq).imp (fun c=>List.mem_append_left _ c) id
    ·obtain ⟨p,hp,rfl⟩:=List.mem_map.1 hq
     exact .inl (List.mem_append_right _ (by simp))) (fun s _=>by simp [eS])
 rw [List.take_length] at t2
 have e:r'=Mj R xs ys:=by rw [t2,q2];rfl
 exact ⟨r,by rw [show ((0:Int),([]:List Ln))=(((0:Nat):Int),[]) from rfl,q1],by rw [show ((0:Int),r)=(((0:Nat):Int),r) from rfl,t1,e],by rw [← e];omega⟩
end
theorem Tm {R:List (List aK)} {xs ys:List Int} (h:Lay R xs ys) (hk:∀ t ∈ R,t.length≤1000):fV R=some (Mj R xs ys)∧(Mj R xs ys).length≤2000000:=by
 have hm:=h.m
 have hn:=h.n
 have hfl:∀ k,(R.take k).flatten.length≤R.flatten.length:=fun k=>by
  conv=>rhs;rw [← List.take_append_drop k R,List.flatten_append,List.length_append]
  omega
 obtain ⟨r,q1,q2⟩:=jJ R (fun k (s:List aK)=>((k:Int),s)) (gL R) (fun s=>s) (fun k s=>s=(R.take k).flatten) [] (by simp)
  (fun k t s ht hI=>by
   have h1:=aT ht
   have hd:decide ((k:Int)<(R.length:Int))=true:=by simp [h1]
   have:=hfl k
   have:=hk t (List.mem_of_getElem? ht)
   unfold gL
   simp only [hd,if_true,bD ht,Option.bind_some,bA k (by omega)]
   subst hI
   rw [uK (by unfold LIM;omega)]
   refine ⟨_,rfl, ?_⟩
   rw [gA ht,List.flatten_append];simp) (fun s _=>by simp [gL])
 rw [List.take_length] at q2
 obtain ⟨xs1,ys1,g1,g2,g3⟩:=Vj h.v hn
 obtain rfl:=Je h.x g2
 obtain rfl:=Je h.y g3
 obtain ⟨r',b1,b2,b3⟩:=Nn h h.X.len h.Y.len
 refine ⟨?_,b3⟩
 unfold fV
 rw [show ((0:Int),([]:List aK))=(((0:Nat):Int),[]) from rfl,q1,q2]
 simp only [Option.bind_some,g1,Yh h.v hm hk h.X.len h.Y.len,b1,b2]
end Go.SM
end
