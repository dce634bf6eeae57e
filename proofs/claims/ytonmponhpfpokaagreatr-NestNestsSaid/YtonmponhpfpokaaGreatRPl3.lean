/- What the functions compute, part 3. -/
import Derived.Test.YtonmponhpfpokaaGreatRPl2
import Derived.Test.YtonmponhpfpokaaGreatRPl1
set_option linter.unusedVariables false
set_option linter.unusedSimpArgs false
set_option linter.unusedSectionVars false
noncomputable section
namespace Go.SM
open Go Go.VI
def qD (taken:(List (List aF))):Int→Option (Int ⊕ (Unit ⊕ Unit)):=fun a0 =>
 if (decide (a0<(taken.length:Int))) then ((idx taken a0).bind fun a1=>if (decide ((a1.length:Int)>12)) then (some (.inr (.inl ()))) else (some (.inl (aJ a0 1)))) else (some (.inr (.inr (()))))
def qE (taken:(List (List aF))):Int→Option (Int ⊕ (Unit ⊕ Unit)):=fun a0 =>
 if (decide (a0<(taken.length:Int))) then ((idx taken a0).bind fun a2=>(oM a2).bind fun a1=>if (!a1) then (some (.inr (.inl ()))) else (some (.inl (aJ a0 1)))) else (some (.inr (.inr (()))))
def yN (taken:(List (List aF))):Option (Int):=
 if (decide ((taken.length:Int)>8)) then (some 4) else ((aM (qD taken) 0).bind fun a0=>match a0 with | .inl a2=>some 4 | .inr a3=>(aM (qE taken) 0).bind fun a1=>match a1 with | .inl a4=>some 1 | .inr a5=>some 0)
def oZ (a1:(List aF)):Int×(List aT)→Option (Int×(List aT) ⊕ (List aT)):=fun a0 =>
 if (decide (a0.1<(a1.length:Int))) then ((idx a1 a0.1).bind fun a3=>(app a0.2 [(aT.mk a3 0 false)]).bind fun a2=>some (.inl ((aJ a0.1 1),a2))) else (some (.inr a0.2))
def gT (s0:bI):Int×(List aT)→Option (Int×(List aT) ⊕ (List aT)):=fun a0 =>
 if (decide (a0.1<([s0.bG,s0.Used].length:Int))) then ((idx [s0.bG,s0.Used] a0.1).bind fun a1=>(aM (oZ a1) (0,a0.2)).bind fun a2=>some (.inl ((aJ a0.1 1),a2))) else (some (.inr a0.2))
def sV (a1:Int×(List aT)):(List aT)→Option (Int×(List aT) ⊕ (List aT)):=fun a0 =>
 some (.inl ((aJ a1.1 1),a0))
def pE (set2:bA) (a1:(List aF)):Int×(List aT)→Option (Int×(List aT) ⊕ (List aT)):=fun a0 =>
 if (decide (a0.1<(a1.length:Int))) then ((idx a1 a0.1).bind fun a2=>(fN a2).bind fun a4=>if a4 then ((app a0.2 [(aT.mk a2 set2.Gap set2.dM)]).bind fun a3=>sV a0 a3) else (sV a0 a0.2)) else (some (.inr a0.2))
def sW (taken:(List (List aF))) (set2:bA):Int×(List aT)→Option (Int×(List aT) ⊕ (List aT)):=fun a0 =>
 if (decide (a0.1<(taken.length:Int))) then ((idx taken a0.1).bind fun a1=>(aM (pE set2 a1) (0,a0.2)).bind fun a2=>some (.inl ((aJ a0.1 1),a2))) else (some (.inr a0.2))
def wQ (s0:bI) (taken:(List (List aF))) (set2:bA):Option ((List aT)):=
 (aM (gT s0) (0,[])).bind fun a0=>(aM (sW taken set2) (0,a0)).bind fun a1=>some a1
def eD (x0:Int) (y:Int):Option (Bool):=
 ((sD x0).bind fun r4=>if r4 then ((sD y).bind fun r5=>if r5 then (some (decide (x0<y))) else (some true)) else (some (decide (x0<y)))).bind fun j3=>some j3
def yT (a:Int):Int×(List Int)→Option (Int×(List Int) ⊕ (List Int)):=fun a0 =>
 (if (decide (a0.1>a)) then ((idx a0.2 a0.1).bind fun a4=>(idx a0.2 (aI a0.1 1)).bind fun a5=>(eD a4 a5).bind fun a3=>some a3) else (some false)).bind fun a2=>if a2 then ((idx a0.2 (aI a0.1 1)).bind fun a1=>(idx a0.2 a0.1).bind fun a6=>(idx a0.2 a0.1).bind fun a7=>(idx (List.set a0.2 (Int.toNat a0.1) a1) (aI a0.1 1)).bind fun a8=>some (.inl ((aI a0.1 1),(List.set (List.set a0.2 (Int.toNat a0.1) a1) (Int.toNat (aI a0.1 1)) a6)))) else (some (.inr a0.2))
def yU (a:Int) (b:Int):Int×(List Int)→Option (Int×(List Int) ⊕ (List Int)):=fun a0 =>
 if (decide (a0.1<b)) then ((aM (yT a) (a0.1,a0.2)).bind fun a1=>some (.inl ((aJ a0.1 1),a1))) else (some (.inr a0.2))
def sQ (a:Int) (b:Int) (h0:(List Int)):Option ((List Int)):=
 (aM (yU a b) ((aJ a 1),h0)).bind fun a0=>some a0
def nY (first:Int) (a0:Int×(List Int)):Int→Option (Int×(List Int) ⊕ ((List Int) ⊕ (List Int))):=fun a1 =>
 (idx a0.2 (aJ first a0.1)).bind fun a4=>(idx a0.2 (aJ first a1)).bind fun a5=>(eD a4 a5).bind fun a3=>if (!a3) then (some (.inr (.inr a0.2))) else ((idx a0.2 (aJ first a1)).bind fun a2=>(idx a0.2 (aJ first a0.1)).bind fun a6=>(idx a0.2 (aJ first a0.1)).bind fun a7=>(idx (List.set a0.2 (Int.toNat (aJ first a0.1)) a2) (aJ first a1)).bind fun a8=>some (.inl (a1,(List.set (List.set a0.2 (Int.toNat (aJ first a0.1)) a2) (Int.toNat (aJ first a1)) a6))))
def Co (hi:Int) (first:Int):Int×(List Int)→Option (Int×(List Int) ⊕ ((List Int) ⊕ (List Int))):=fun a0 =>
 if (decide ((aJ (eS 2 a0.1) 1) ≥ hi)) then (some (.inr (.inl a0.2))) else ((if (decide ((aJ (aJ (eS 2 a0.1) 1) 1)<hi)) then ((idx a0.2 (aJ first (aJ (eS 2 a0.1) 1))).bind fun a3=>(idx a0.2 (aJ (aJ first (aJ (eS 2 a0.1) 1)) 1)).bind fun a4=>(eD a3 a4).bind fun a2=>some a2) else (some false)).bind fun a1=>if a1 then (nY first a0 (aJ (aJ (eS 2 a0.1) 1) 1)) else (nY first a0 (aJ (eS 2 a0.1) 1)))
def qK (lo:Int) (hi:Int) (first:Int) (h0:(List Int)):Option ((List Int)):=
 (aM (Co hi first) (lo,h0)).bind fun a2=>match a2 with | .inl a0=>some a0 | .inr a1=>some a1
def Cl (a:Int) (b:Int):Int×(List Int)→Option (Int×(List Int) ⊕ (List Int)):=fun a0 =>
 if (decide (a0.1 ≥ 0)) then ((qK a0.1 (aI b a) a a0.2).bind fun a1=>some (.inl ((aI a0.1 1),a1))) else (some (.inr a0.2))
def Cm (a:Int):Int×(List Int)→Option (Int×(List Int) ⊕ (List Int)):=fun a0 =>
 if (decide (a0.1 ≥ 0)) then ((idx a0.2 (aJ a a0.1)).bind fun a1=>(idx a0.2 a).bind fun a3=>(idx a0.2 a).bind fun a4=>(idx (List.set a0.2 (Int.toNat a) a1) (aJ a a0.1)).bind fun a5=>(qK 0 a0.1 a (List.set (List.set a0.2 (Int.toNat a) a1) (Int.toNat (aJ a a0.1)) a3)).bind fun a2=>some (.inl ((aI a0.1 1),a2))) else (some (.inr a0.2))
def wE (a:Int) (b:Int) (h0:(List Int)):Option ((List Int)):=
 (aM (Cl a b) ((pH (aI (aI b a) 1) 2),h0)).bind fun a1=>(aM (Cm a) ((aI (aI b a) 1),a1)).bind fun a0=>some a0
def kA (a:Int) (a0:Int×Int×(List Int)):Int→Option (Int×Int×(List Int) ⊕ (List Int)):=fun a1 =>
 (idx a0.2.2 (aJ a a1)).bind fun a2=>(idx a0.2.2 a0.1).bind fun a3=>(idx a0.2.2 a0.1).bind fun a4=>(idx (List.set a0.2.2 (Int.toNat a0.1) a2) (aJ a a1)).bind fun a5=>some (.inl ((aJ a0.1 1),(gK .u64 (gK .u64 (gK .u64 a0.2.1 (IntKind.wrap .u64 (a0.2.1*2^(min (Int.toNat 13) 64)))) (Int.fdiv (gK .u64 a0.2.1 (IntKind.wrap .u64 (a0.2.1*2^(min (Int.toNat 13) 64)))) (2^(min (Int.toNat 7) 64)))) (IntKind.wrap .u64 ((gK .u64 (gK .u64 a0.2.1 (IntKind.wrap .u64 (a0.2.1*2^(min (Int.toNat 13) 64)))) (Int.fdiv (gK .u64 a0.2.1 (IntKind.wrap .u64 (a0.2.1*2^(min (Int.toNat 13) 64)))) (2^(min (Int.toNat 7) 64))))*2^(min (Int.toNat 17) 64)))),(List.set (List.set a0.2.2 (Int.toNat a0.1) a2) (Int.toNat (aJ a a1)) a3)))
def yR (a:Int) (b:Int) (r2:Int):Int×Int×(List Int)→Option (Int×Int×(List Int) ⊕ (List Int)):=fun a0 =>
 if (decide (a0.1≤(aJ (aJ a (eS (pH (aI b a) 4) 2)) 1))) then ((wF a0.2.1).bind fun a1=>if (decide ((IntKind.wrap .i64 (Ik .u64 a1 (IntKind.wrap .u64 (r2-1)))) ≥ (aI b a))) then (kA a a0 (aI (IntKind.wrap .i64 (Ik .u64 a1 (IntKind.wrap .u64 (r2-1)))) (aI b a))) else (kA a a0 (IntKind.wrap .i64 (Ik .u64 a1 (IntKind.wrap .u64 (r2-1)))))) else (some (.inr a0.2.2))
def sP (a:Int) (b:Int) (h0:(List Int)):Option ((List Int)):=
 if (decide ((aI b a) ≥ 8)) then ((uT (aI b a)).bind fun r2=>(aM (yR a b r2) ((aI (aJ a (eS (pH (aI b a) 4) 2)) 1),(IntKind.wrap .u64 (aI b a)),h0)).bind fun a0=>some a0) else (some h0)
def nQ (data:(List Int)) (a:Int) (b:Int) (h0_0:Int):Option (Int×Int×Int):=
 (idx data b).bind fun a1=>(idx data a).bind fun a2=>(eD a1 a2).bind fun a0=>if a0 then (some (b,a,(aJ h0_0 1))) else (some (a,b,h0_0))
def sN (data:(List Int)) (a:Int) (b:Int) (c:Int) (h0_0:Int):Option (Int×Int):=
 (nQ data a b h0_0).bind fun r2=>(nQ data r2.2.1 c r2.2.2).bind fun r4=>(nQ data r2.1 r4.1 r4.2.2).bind fun r6=>some (r6.2.1,r6.2.2)
def hU (data:(List Int)) (a:Int) (h0_0:Int):Option (Int×Int):=
 (sN data (aI a 1) a (aJ a 1) h0_0).bind fun r2=>some (r2.1,r2.2)
def lG:(Int×Int)→Option (Int×Int):=fun a0 =>
 if (a0.2==0) then (some (a0.1,1)) else (if (a0.2==12) then (some (a0.1,2)) else (some (a0.1,0)))
def lH (data:(List Int)):(Int×Int×Int×Int)→Option (Int×Int):=fun a0 =>
 (sN data a0.1 a0.2.1 a0.2.2.1 a0.2.2.2).bind fun a1=>lG (a1.1,a1.2)
def tT (data:(List Int)) (a:Int) (b:Int):Option (Int×Int):=
 if (decide ((aI b a) ≥ 8)) then (if (decide ((aI b a) ≥ 50)) then ((hU data (aJ a (eS (pH (aI b a) 4) 1)) 0).bind fun a0=>(hU data (aJ a (eS (pH (aI b a) 4) 2)) a0.2).bind fun a1=>(hU data (aJ a (eS (pH (aI b a) 4) 3)) a1.2).bind fun a2=>lH data (a0.1,a1.1,a2.1,a2.2)) else (lH data ((aJ a (eS (pH (aI b a) 4) 1)),(aJ a (eS (pH (aI b a) 4) 2)),(aJ a (eS (pH (aI b a) 4) 3)),0))) else (lG ((aJ a (eS (pH (aI b a) 4) 2)),0))
def zK:Int×Int×(List Int)→Option (Int×Int×(List Int) ⊕ (List Int)):=fun a0 =>
 if (decide (a0.1<a0.2.1)) then ((idx a0.2.2 a0.2.1).bind fun a1=>(idx a0.2.2 a0.1).bind fun a2=>(idx a0.2.2 a0.1).bind fun a3=>(idx (List.set a0.2.2 (Int.toNat a0.1) a1) a0.2.1).bind fun a4=>some (.inl ((aJ a0.1 1),(aI a0.2.1 1),(List.set (List.set a0.2.2 (Int.toNat a0.1) a1) (Int.toNat a0.2.1) a2)))) else (some (.inr a0.2.2))
def tP (a:Int) (b:Int) (h0:(List Int)):Option ((List Int)):=
 (aM (zK) (a,(aI b 1),h0)).bind fun a0=>some a0
def gQ (a1:Int×Int×(List Int)):Int×(List Int)→Option (Int×Int×(List Int) ⊕ (Bool×(List Int) ⊕ (List Int))):=fun a0 =>
 some (.inl (a0.1,(aJ a1.2.1 1),a0.2))
def uF (b:Int) (a1:Int×Int×(List Int)):Int→Option (Int ⊕ Int):=fun a0 =>
 (if (decide (a0<b)) then ((idx a1.2.2 a0).bind fun a4=>(idx a1.2.2 (aI a0 1)).bind fun a5=>(eD a4 a5).bind fun a3=>some (!a3)) else (some false)).bind fun a2=>if a2 then (some (.inl (aJ a0 1))) else (some (.inr a0))
def uG (b:Int):Int×(List Int)→Option (Int×(List Int) ⊕ (List Int)):=fun a0 =>
 if (decide (a0.1<b)) then ((idx a0.2 a0.1).bind fun a3=>(idx a0.2 (aI a0.1 1)).bind fun a4=>(eD a3 a4).bind fun a2=>if (!a2) then (some (.inr a0.2)) else ((idx a0.2 (aI a0.1 1)).bind fun a1=>(idx a0.2 a0.1).bind fun a5=>(idx a0.2 a0.1).bind fun a6=>(idx (List.set a0.2 (Int.toNat a0.1) a1) (aI a0.1 1)).bind fun a7=>some (.inl ((aJ a0.1 1),(List.set (List.set a0.2 (Int.toNat a0.1) a1) (Int.toNat (aI a0.1 1)) a5))))) else (some (.inr a0.2))
def gR (b:Int) (a2:Int×Int×(List Int)) (a0:Int):(List Int)→Option (Int×Int×(List Int) ⊕ (Bool×(List Int) ⊕ (List Int))):=fun a1 =>
 if (decide ((aI b a0) ≥ 2)) then ((aM (uG b) ((aJ a0 1),a1)).bind fun a3=>gQ a2 (a0,a3)) else (gQ a2 (a0,a1))
def uH:Int×(List Int)→Option (Int×(List Int) ⊕ (List Int)):=fun a0 =>
 if (decide (a0.1 ≥ 1)) then ((idx a0.2 a0.1).bind fun a3=>(idx a0.2 (aI a0.1 1)).bind fun a4=>(eD a3 a4).bind fun a2=>if (!a2) then (some (.inr a0.2)) else ((idx a0.2 (aI a0.1 1)).bind fun a1=>(idx a0.2 a0.1).bind fun a5=>(idx a0.2 a0.1).bind fun a6=>(idx (List.set a0.2 (Int.toNat a0.1) a1) (aI a0.1 1)).bind fun a7=>some (.inl ((aI a0.1 1),(List.set (List.set a0.2 (Int.toNat a0.1) a1) (Int.toNat (aI a0.1 1)) a5))))) else (some (.inr a0.2))
def uI (a:Int) (b:Int):Int×Int×(List Int)→Option (Int×Int×(List Int) ⊕ (Bool×(List Int) ⊕ (List Int))):=fun a0 =>
 if (decide (a0.2.1<5)) then ((aM (uF b a0) a0.1).bind fun a1=>if (a1==b) then (some (.inr (.inl (true,a0.2.2)))) else (if (decide ((aI b a)<50)) then (some (.inr (.inl (false,a0.2.2)))) else ((idx a0.2.2 (aI a1 1)).bind fun a2=>(idx a0.2.2 a1).bind fun a3=>(idx a0.2.2 a1).bind fun a5=>(idx (List.set a0.2.2 (Int.toNat a1) a2) (aI a1 1)).bind fun a6=>if (decide ((aI a1 a) ≥ 2)) then ((aM (uH) ((aI a1 1),(List.set (List.set a0.2.2 (Int.toNat a1) a2) (Int.toNat (aI a1 1)) a3))).bind fun a4=>gR b a0 a1 a4) else (gR b a0 a1 (List.set (List.set a0.2.2 (Int.toNat a1) a2) (Int.toNat (aI a1 1)) a3))))) else (some (.inr (.inr a0.2.2)))
def nV (a:Int) (b:Int) (h0:(List Int)):Option (Bool×(List Int)):=
 (aM (uI a b) ((aJ a 1),0,h0)).bind fun a2=>match a2 with | .inl a0=>some (a0.1,a0.2) | .inr a1=>some (false,a1)
def xX (a:Int) (a1:Int×Int×(List Int)):Int→Option (Int ⊕ Int):=fun a0 =>
 (if (decide (a0≤a1.2.1)) then ((idx a1.2.2 a).bind fun a4=>(idx a1.2.2 a0).bind fun a5=>(eD a4 a5).bind fun a3=>some (!a3)) else (some false)).bind fun a2=>if a2 then (some (.inl (aJ a0 1))) else (some (.inr a0))
def xY (a:Int) (a1:Int×Int×(List Int)) (a4:Int):Int→Option (Int ⊕ Int):=fun a0 =>
 (if (decide (a4≤a0)) then ((idx a1.2.2 a).bind fun a5=>(idx a1.2.2 a0).bind fun a6=>(eD a5 a6).bind fun a3=>some a3) else (some false)).bind fun a2=>if a2 then (some (.inl (aI a0 1))) else (some (.inr a0))
def xZ (a:Int):Int×Int×(List Int)→Option (Int×Int×(List Int) ⊕ Int×(List Int)):=fun a0 =>
 (aM (xX a a0) a0.1).bind fun a1=>(aM (xY a a0 a1) a0.2.1).bind fun a2=>if (decide (a1>a2)) then (some (.inr (a1,a0.2.2))) else ((idx a0.2.2 a2).bind fun a3=>(idx a0.2.2 a1).bind fun a4=>(idx a0.2.2 a1).bind fun a5=>(idx (List.set a0.2.2 (Int.toNat a1) a3) a2).bind fun a6=>some (.inl ((aJ a1 1),(aI a2 1),(List.set (List.set a0.2.2 (Int.toNat a1) a3) (Int.toNat a2) a4))))
def sB (a:Int) (b:Int) (pivot:Int) (h0:(List Int)):Option (Int×(List Int)):=
 (idx h0 pivot).bind fun x9=>(idx h0 a).bind fun a1=>(idx h0 a).bind fun a2=>(idx (List.set h0 (Int.toNat a) x9) pivot).bind fun a3=>(aM (xZ a) ((aJ a 1),(aI b 1),(List.set (List.set h0 (Int.toNat a) x9) (Int.toNat pivot) a1))).bind fun a0=>some (a0.1,a0.2)
def Bm (a:Int) (b:Int) (pivot:Int) (h0:(List Int)) (x9:Int) (a5:Int):Int→Option (Int ⊕ Int):=fun a0 =>
 (if (decide (a0≤(aI b 1))) then ((idx (List.set (List.set h0 (Int.toNat a) x9) (Int.toNat pivot) a5) a0).bind fun a3=>(idx (List.set (List.set h0 (Int.toNat a) x9) (Int.toNat pivot) a5) a).bind fun a4=>(eD a3 a4).bind fun a2=>some a2) else (some false)).bind fun a1=>if a1 then (some (.inl (aJ a0 1))) else (some (.inr a0))
def Bn (a:Int) (pivot:Int) (h0:(List Int)) (x9:Int) (a6:Int) (a3:Int):Int→Option (Int ⊕ Int):=fun a0 =>
 (if (decide (a3≤a0)) then ((idx (List.set (List.set h0 (Int.toNat a) x9) (Int.toNat pivot) a6) a0).bind fun a4=>(idx (List.set (List.set h0 (Int.toNat a) x9) (Int.toNat pivot) a6) a).bind fun a5=>(eD a4 a5).bind fun a2=>some (!a2)) else (some false)).bind fun a1=>if a1 then (some (.inl (aI a0 1))) else (some (.inr a0))
def Bo (a:Int) (a1:Int×Int×(List Int)):Int→Option (Int ⊕ Int):=fun a0 =>
 (if (decide (a0≤a1.2.1)) then ((idx a1.2.2 a0).bind fun a4=>(idx a1.2.2 a).bind fun a5=>(eD a4 a5).bind fun a3=>some a3) else (some false)).bind fun a2=>if a2 then (some (.inl (aJ a0 1))) else (some (.inr a0))
def Bp (a:Int) (a1:Int×Int×(List Int)) (a4:Int):Int→Option (Int ⊕ Int):=fun a0 =>
 (if (decide (a4≤a0)) then ((idx a1.2.2 a0).bind fun a5=>(idx a1.2.2 a).bind fun a6=>(eD a5 a6).bind fun a3=>some (!a3)) else (some false)).bind fun a2=>if a2 then (some (.inl (aI a0 1))) else (some (.inr a0))
def Bq (a:Int):Int×Int×(List Int)→Option (Int×Int×(List Int) ⊕ Int×(List Int)):=fun a0 =>
 (aM (Bo a a0) a0.1).bind fun a1=>(aM (Bp a a0 a1) a0.2.1).bind fun a2=>if (decide (a1>a2)) then (some (.inr (a2,a0.2.2))) else ((idx a0.2.2 a2).bind fun a3=>(idx a0.2.2 a1).bind fun a4=>(idx a0.2.2 a1).bind fun a5=>(idx (List.set a0.2.2 (Int.toNat a1) a3) a2).bind fun a6=>some (.inl ((aJ a1 1),(aI a2 1),(List.set (List.set a0.2.2 (Int.toNat a1) a3) (Int.toNat a2) a4))))
def vG (a:Int) (b:Int) (pivot:Int) (h0:(List Int)):Option (Int×Bool×(List Int)):=
 (idx h0 pivot).bind fun x9=>(idx h0 a).bind fun a3=>(idx h0 a).bind fun b6=>(idx (List.set h0 (Int.toNat a) x9) pivot).bind fun b7=>(aM (Bm a b pivot h0 x9 a3) (aJ a 1)).bind fun a2=>(aM (Bn a pivot h0 x9 a3 a2) (aI b 1)).bind fun a1=>if (decide (a2>a1)) then ((idx (List.set (List.set h0 (Int.toNat a) x9) (Int.toNat pivot) a3) a).bind fun a6=>(idx (List.set (List.set h0 (Int.toNat a) x9) (Int.toNat pivot) a3) a1).bind fun a8=>(idx (List.set (List.set h0 (Int.toNat a) x9) (Int.toNat pivot) a3) a1).bind fun b2=>(idx (List.set (List.set (List.set h0 (Int.toNat a) x9) (Int.toNat pivot) a3) (Int.toNat a1) a6) a).bind fun b3=>some (a1,true,(List.set (List.set (List.set (List.set h0 (Int.toNat a) x9) (Int.toNat pivot) a3) (Int.toNat a1) a6) (Int.toNat a) a8))) else ((idx (List.set (List.set h0 (Int.toNat a) x9) (Int.toNat pivot) a3) a1).bind fun a7=>(idx (List.set (List.set h0 (Int.toNat a) x9) (Int.toNat pivot) a3) a2).bind fun a9=>(idx (List.set (List.set h0 (Int.toNat a) x9) (Int.toNat pivot) a3) a2).bind fun b4=>(idx (List.set (List.set (List.set h0 (Int.toNat a) x9) (Int.toNat pivot) a3) (Int.toNat a2) a7) a1).bind fun b5=>(aM (Bq a) ((aJ a2 1),(aI a1 1),(List.set (List.set (List.set (List.set h0 (Int.toNat a) x9) (Int.toNat pivot) a3) (Int.toNat a2) a7) (Int.toNat a1) a9))).bind fun a0=>(idx a0.2 a).bind fun a4=>(idx a0.2 a0.1).bind fun a5=>(idx a0.2 a0.1).bind fun b0=>(idx (List.set a0.2 (Int.toNat a0.1) a4) a).bind fun b1=>some (a0.1,false,(List.set (List.set a0.2 (Int.toNat a0.1) a4) (Int.toNat a) a5)))
def oU (self:Int→Int→Int→(List Int)→Option ((List Int))) (a1:Int×Int×Int×Bool×Bool×(List Int)) (a3:Int×(List Int)) (a4:Int×Int×(List Int)):Bool×Bool×(List Int)→Option (Int×Int×Int×Bool×Bool×(List Int) ⊕ (List Int)):=fun a2 =>
 (if (decide (a1.1>0)) then ((idx a2.2.2 (aI a1.1 1)).bind fun b0=>(idx a2.2.2 a4.1).bind fun b1=>(eD b0 b1).bind fun a7=>some (!a7)) else (some false)).bind fun a6=>if a6 then ((sB a1.1 a1.2.1 a4.1 a2.2.2).bind fun a5=>some (.inl (a5.1,a1.2.1,a3.1,a2.1,a2.2.1,a5.2))) else ((vG a1.1 a1.2.1 a4.1 a2.2.2).bind fun a0=>if (decide ((aI a0.1 a1.1)<(aI a1.2.1 a0.1))) then ((self a1.1 a0.1 a3.1 a0.2.2).bind fun a8=>some (.inl ((aJ a0.1 1),a1.2.1,a3.1,(decide ((aI a0.1 a1.1) ≥ (pH (aI a1.2.1 a1.1) 8))),a0.2.1,a8))) else ((self (aJ a0.1 1) a1.2.1 a3.1 a0.2.2).bind fun a9=>some (.inl (a1.1,a0.1,a3.1,(decide ((aI a1.2.1 a0.1) ≥ (pH (aI a1.2.1 a1.1) 8))),a0.2.1,a9))))
def oW (self:Int→Int→Int→(List Int)→Option ((List Int))) (a3:Int×Int×Int×Bool×Bool×(List Int)) (a4:Int×(List Int)):Int×Int×(List Int)→Option (Int×Int×Int×Bool×Bool×(List Int) ⊕ (List Int)):=fun a0 =>
 (if a3.2.2.2.1 then (if a3.2.2.2.2.1 then (some (true,true,(a0.2.1==1))) else (some (true,false,false))) else (some (false,a3.2.2.2.2.1,false))).bind fun a1=>if a1.2.2 then ((nV a3.1 a3.2.1 a0.2.2).bind fun a2=>if a2.1 then (some (.inr a2.2)) else (oU self a3 a4 a0 (a1.1,a1.2.1,a2.2))) else (oU self a3 a4 a0 (a1.1,a1.2.1,a0.2.2))
def oX (self:Int→Int→Int→(List Int)→Option ((List Int))) (a2:Int×Int×Int×Bool×Bool×(List Int)):Int×(List Int)→Option (Int×Int×Int×Bool×Bool×(List Int) ⊕ (List Int)):=fun a0 =>
 (tT a0.2 a2.1 a2.2.1).bind fun a1=>if (a1.2==2) then ((tP a2.1 a2.2.1 a0.2).bind fun a3=>oW self a2 a0 ((aI (aI a2.2.1 1) (aI a1.1 a2.1)),1,a3)) else (oW self a2 a0 (a1.1,a1.2,a0.2))
def Cx (self:Int→Int→Int→(List Int)→Option ((List Int))):Int×Int×Int×Bool×Bool×(List Int)→Option (Int×Int×Int×Bool×Bool×(List Int) ⊕ (List Int)):=fun a0 =>
 if (decide ((aI a0.2.1 a0.1)≤12)) then ((sQ a0.1 a0.2.1 a0.2.2.2.2.2).bind fun a1=>some (.inr a1)) else (if (a0.2.2.1==0) then ((wE a0.1 a0.2.1 a0.2.2.2.2.2).bind fun a2=>some (.inr a2)) else (if (!a0.2.2.2.1) then ((sP a0.1 a0.2.1 a0.2.2.2.2.2).bind fun a3=>oX self a0 ((aI a0.2.2.1 1),a3)) else (oX self a0 (a0.2.2.1,a0.2.2.2.2.2))))
def tM (self:Int→Int→Int→(List Int)→Option ((List Int))) (a:Int) (b:Int) (limit:Int) (h0:(List Int)):Option ((List Int)):=
 (aM (Cx self) (a,b,limit,true,true,h0)).bind fun a0=>some a0
def iA:Nat→Int→Int→Int→(List Int)→Option ((List Int))
 | 0=>fun _ _ _ _=>none
 | n+1=>tM (iA n)
def wT (a:Int) (b:Int) (limit:Int) (h0:(List Int)):Option ((List Int)):=iA 1000 a b limit h0
def sA (h0:(List Int)):Option ((List Int)):=
 (Mt (IntKind.wrap .u64 (h0.length:Int))).bind fun r3=>(wT 0 (h0.length:Int) r3 h0).bind fun r4=>some r4
def mL (y:Int) (a_0:(List aF)) (a_1:(List aT)) (a_2:Int) (a_3:Int) (a_4:Int) (a_5:Int) (a_6:Int) (a_7:Int):Option (Bool):=
 (if (decide (y<a_3)) then (some true) else (some (decide (y>(aI (aJ a_3 a_5) a_7))))).bind fun j1=>some j1
def pU (s0:(List Int)) (f_0_0:(List aF)) (f_0_1:(List aT)) (f_0_2:Int) (f_0_3:Int) (f_0_4:Int) (f_0_5:Int) (f_0_6:Int) (f_0_7:Int):Int→Option (Int ⊕ (Int ⊕ Unit)):=fun a0 =>
 if (decide (a0<(s0.length:Int))) then ((idx s0 a0).bind fun a2=>(mL a2 f_0_0 f_0_1 f_0_2 f_0_3 f_0_4 f_0_5 f_0_6 f_0_7).bind fun a1=>if a1 then (some (.inr (.inl a0))) else (some (.inl (aJ a0 1)))) else (some (.inr (.inr (()))))
def jD (s0:(List Int)) (f_0_0:(List aF)) (f_0_1:(List aT)) (f_0_2:Int) (f_0_3:Int) (f_0_4:Int) (f_0_5:Int) (f_0_6:Int) (f_0_7:Int):Option (Int):=
 (aM (pU s0 f_0_0 f_0_1 f_0_2 f_0_3 f_0_4 f_0_5 f_0_6 f_0_7) 0).bind fun a1=>match a1 with | .inl a0=>some a0 | .inr a2=>some (-1)
def eE (a1:Int×Int×(List Int)):Int×(List Int)→Option (Int×Int×(List Int) ⊕ Int×(List Int)):=fun a0 =>
 some (.inl (a0.1,(aJ a1.2.1 1),a0.2))
def pN (del_0_0:(List aF)) (del_0_1:(List aT)) (del_0_2:Int) (del_0_3:Int) (del_0_4:Int) (del_0_5:Int) (del_0_6:Int) (del_0_7:Int):Int×Int×(List Int)→Option (Int×Int×(List Int) ⊕ Int×(List Int)):=fun a0 =>
 if (decide (a0.2.1<(a0.2.2.length:Int))) then ((idx a0.2.2 a0.2.1).bind fun a1=>(mL a1 del_0_0 del_0_1 del_0_2 del_0_3 del_0_4 del_0_5 del_0_6 del_0_7).bind fun a2=>if (!a2) then ((idx a0.2.2 a0.1).bind fun a3=>eE a0 ((aJ a0.1 1),(List.set a0.2.2 (Int.toNat a0.1) a1))) else (eE a0 (a0.1,a0.2.2))) else (some (.inr (a0.1,a0.2.2)))
def cQ (del_0_0:(List aF)) (del_0_1:(List aT)) (del_0_2:Int) (del_0_3:Int) (del_0_4:Int) (del_0_5:Int) (del_0_6:Int) (del_0_7:Int) (h380:(List Int)):Option ((List Int)):=
 (jD h380 del_0_0 del_0_1 del_0_2 del_0_3 del_0_4 del_0_5 del_0_6 del_0_7).bind fun r2=>if (r2==(-1)) then (some h380) else ((aM (pN del_0_0 del_0_1 del_0_2 del_0_3 del_0_4 del_0_5 del_0_6 del_0_7) (r2,(aJ r2 1),h380)).bind fun a0=>if (decide ((0:Int)≤a0.1)&&(decide (a0.1≤(a0.2.length:Int))&&decide ((a0.2.length:Int)≤(a0.2.length:Int)))) then ((slc (cpy a0.2 (Int.toNat a0.1) (List.replicate (Int.toNat (a0.2.length:Int)-Int.toNat a0.1) 0)) 0 a0.1).bind fun a1=>some a1) else none)
def eV (a1:aT) (a2:aF):Int×(List Int)→Option (Int×(List Int) ⊕ (List Int)):=fun a0 =>
 if (decide (a0.1<([0,a1.gap].length:Int))) then ((idx [0,a1.gap] a0.1).bind fun a3=>(app a0.2 [(aI (aJ (aJ a1.aF.Y a1.aF.H) a3) a2.Y),(aI (aI (aI a1.aF.Y a3) a2.Y) a2.H)]).bind fun a4=>some (.inl ((aJ a0.1 1),a4))) else (some (.inr a0.2))
def kW (s0:eU) (a1:aT):Int×(List Int)→Option (Int×(List Int) ⊕ (List Int)):=fun a0 =>
 if (decide (a0.1<(s0.lS.length:Int))) then ((idx s0.lS a0.1).bind fun a2=>(aM (eV a1 a2) (0,a0.2)).bind fun a3=>some (.inl ((aJ a0.1 1),a3))) else (some (.inr a0.2))
def kX (s0:eU):Int×(List Int)→Option (Int×(List Int) ⊕ (List Int)):=fun a0 =>
 if (decide (a0.1<(s0.bU.length:Int))) then ((idx s0.bU a0.1).bind fun a1=>(aM (kW s0 a1) (0,a0.2)).bind fun a2=>some (.inl ((aJ a0.1 1),a2))) else (some (.inr a0.2))
def sX (s0:eU):Option ((List Int)):=
 (aM (kX s0) (0,[s0.lT.Y])).bind fun a3=>(sA a3).bind fun a0=>(tL a0).bind fun a1=>(cQ s0.lS s0.bU s0.lT.X s0.lT.Y s0.lT.W s0.lT.H s0.w s0.h a1).bind fun a2=>some a2
def Al (a:aH):Option (Bool):=
 some (decide ((aI a.hi a.lo)<2))
def oQ (s0:(List aH)):Int→Option (Int ⊕ (Int ⊕ Unit)):=fun a0 =>
 if (decide (a0<(s0.length:Int))) then ((idx s0 a0).bind fun a2=>(Al a2).bind fun a1=>if a1 then (some (.inr (.inl a0))) else (some (.inl (aJ a0 1)))) else (some (.inr (.inr (()))))
def iI (s0:(List aH)):Option (Int):=
 (aM (oQ s0) 0).bind fun a1=>match a1 with | .inl a0=>some a0 | .inr a2=>some (-1)
def dO (a1:Int×Int×(List aH)):Int×(List aH)→Option (Int×Int×(List aH) ⊕ Int×(List aH)):=fun a0 =>
 some (.inl (a0.1,(aJ a1.2.1 1),a0.2))
def oB:Int×Int×(List aH)→Option (Int×Int×(List aH) ⊕ Int×(List aH)):=fun a0 =>
 if (decide (a0.2.1<(a0.2.2.length:Int))) then ((idx a0.2.2 a0.2.1).bind fun a1=>(Al a1).bind fun a2=>if (!a2) then ((idx a0.2.2 a0.1).bind fun a3=>dO a0 ((aJ a0.1 1),(List.set a0.2.2 (Int.toNat a0.1) a1))) else (dO a0 (a0.1,a0.2.2))) else (some (.inr (a0.1,a0.2.2)))
def gZ (h380:(List aH)):Option ((List aH)):=
 (iI h380).bind fun r2=>if (r2==(-1)) then (some h380) else ((aM (oB) (r2,(aJ r2 1),h380)).bind fun a0=>if (decide ((0:Int)≤a0.1)&&(decide (a0.1≤(a0.2.length:Int))&&decide ((a0.2.length:Int)≤(a0.2.length:Int)))) then ((slc (cpy a0.2 (Int.toNat a0.1) (List.replicate (Int.toNat (a0.2.length:Int)-Int.toNat a0.1) (aH.mk 0 0))) 0 a0.1).bind fun a1=>some a1) else none)
def yQ (h380:(List aH)):Option ((List aH)):=
 (gZ h380).bind fun r2=>some r2
def sU (o:aT) (r1:aF) (y:Int):Option ((List aH)):=
 (if (decide ((aJ r1.Y y)<(aJ o.aF.Y o.aF.H))) then (some (decide (o.aF.Y<(aJ (aJ r1.Y y) r1.H)))) else (some false)).bind fun j1=>(if (decide ((imax (imax 0 (aI (aI (aI o.aF.Y r1.Y) y) r1.H)) (aI (aI (aJ r1.Y y) o.aF.Y) o.aF.H)) ≥ o.gap)) then (some (decide ((imax (imax 0 (aI (aI (aI o.aF.Y r1.Y) y) r1.H)) (aI (aI (aJ r1.Y y) o.aF.Y) o.aF.H))>0))) else (some false)).bind fun a1=>if a1 then (some []) else ((if o.common then (some (j1,true)) else (some (false,false))).bind fun a0=>if a0.1 then ((yQ [(aH.mk (aI (aI (aI o.aF.X r1.X) r1.W) o.gap) (aI (aI o.aF.X r1.X) r1.W)),(aH.mk (aI (aI o.aF.X r1.X) r1.W) (aI (aJ o.aF.X o.aF.W) r1.X)),(aH.mk (aI (aJ o.aF.X o.aF.W) r1.X) (aJ (aI (aJ o.aF.X o.aF.W) r1.X) o.gap))]).bind fun a4=>some a4) else ((if a0.2 then (some (((imax (imax 0 (aI (aI (aI o.aF.Y r1.Y) y) r1.H)) (aI (aI (aJ r1.Y y) o.aF.Y) o.aF.H))==0),true)) else (some (false,false))).bind fun a2=>if a2.1 then ((yQ [(aH.mk (aI (aI (aI o.aF.X r1.X) r1.W) o.gap) (aI (aI o.aF.X r1.X) r1.W)),(aH.mk (aI (aJ o.aF.X o.aF.W) r1.X) (aJ (aI (aJ o.aF.X o.aF.W) r1.X) o.gap))]).bind fun a5=>some a5) else ((if ((imax (imax 0 (aI (aI (aI o.aF.Y r1.Y) y) r1.H)) (aI (aI (aJ r1.Y y) o.aF.Y) o.aF.H))==0) then (if (o.gap==0) then (some (!j1)) else (some false)) else (some false)).bind fun a3=>if a3 then (some []) else ((yQ [(aH.mk (aI (aI (aI o.aF.X r1.X) r1.W) o.gap) (aJ (aI (aJ o.aF.X o.aF.W) r1.X) o.gap))]).bind fun a6=>some a6))))
def iO (vals:(List Int)):Int→Option (Int ⊕ (Int ⊕ Unit)):=fun a0 =>
 if (decide (a0<(vals.length:Int))) then ((idx vals a0).bind fun a1=>if (a1 != 0) then (some (.inr (.inl a1))) else (some (.inl (aJ a0 1)))) else (some (.inr (.inr (()))))
def Ma (vals:(List Int)):Option (Int):=
 (aM (iO vals) 0).bind fun a1=>match a1 with | .inl a0=>some a0 | .inr a2=>some 0
def bM (a:eK) (a1:aH) (b:aH):Option (Int):=
 (uA a1.lo b.lo).bind fun r7=>(uA a1.hi b.hi).bind fun r8=>(Ma [r7,r8]).bind fun r9=>some r9
def lI (a:Int):Int×(List aH)→Option (Int×(List aH) ⊕ (List aH)):=fun a0 =>
 (if (decide (a0.1>a)) then ((idx a0.2 a0.1).bind fun a4=>(idx a0.2 (aI a0.1 1)).bind fun a5=>(bM (eK.mk ) a4 a5).bind fun a3=>some (decide (a3<0))) else (some false)).bind fun a2=>if a2 then ((idx a0.2 (aI a0.1 1)).bind fun a1=>(idx a0.2 a0.1).bind fun a6=>(idx a0.2 a0.1).bind fun a7=>(idx (List.set a0.2 (Int.toNat a0.1) a1) (aI a0.1 1)).bind fun a8=>some (.inl ((aI a0.1 1),(List.set (List.set a0.2 (Int.toNat a0.1) a1) (Int.toNat (aI a0.1 1)) a6)))) else (some (.inr a0.2))
def lJ (a:Int) (b:Int):Int×(List aH)→Option (Int×(List aH) ⊕ (List aH)):=fun a0 =>
 if (decide (a0.1<b)) then ((aM (lI a) (a0.1,a0.2)).bind fun a1=>some (.inl ((aJ a0.1 1),a1))) else (some (.inr a0.2))
def fM (a:Int) (b:Int) (h0:(List aH)):Option ((List aH)):=
 (aM (lJ a b) ((aJ a 1),h0)).bind fun a0=>some a0
def cZ (first:Int) (a0:Int×(List aH)):Int→Option (Int×(List aH) ⊕ ((List aH) ⊕ (List aH))):=fun a1 =>
 (idx a0.2 (aJ first a0.1)).bind fun a4=>(idx a0.2 (aJ first a1)).bind fun a5=>(bM (eK.mk ) a4 a5).bind fun a3=>if (!(decide (a3<0))) then (some (.inr (.inr a0.2))) else ((idx a0.2 (aJ first a1)).bind fun a2=>(idx a0.2 (aJ first a0.1)).bind fun a6=>(idx a0.2 (aJ first a0.1)).bind fun a7=>(idx (List.set a0.2 (Int.toNat (aJ first a0.1)) a2) (aJ first a1)).bind fun a8=>some (.inl (a1,(List.set (List.set a0.2 (Int.toNat (aJ first a0.1)) a2) (Int.toNat (aJ first a1)) a6))))
def nR (hi:Int) (first:Int):Int×(List aH)→Option (Int×(List aH) ⊕ ((List aH) ⊕ (List aH))):=fun a0 =>
 if (decide ((aJ (eS 2 a0.1) 1) ≥ hi)) then (some (.inr (.inl a0.2))) else ((if (decide ((aJ (aJ (eS 2 a0.1) 1) 1)<hi)) then ((idx a0.2 (aJ first (aJ (eS 2 a0.1) 1))).bind fun a3=>(idx a0.2 (aJ (aJ first (aJ (eS 2 a0.1) 1)) 1)).bind fun a4=>(bM (eK.mk ) a3 a4).bind fun a2=>some (decide (a2<0))) else (some false)).bind fun a1=>if a1 then (cZ first a0 (aJ (aJ (eS 2 a0.1) 1) 1)) else (cZ first a0 (aJ (eS 2 a0.1) 1)))
def dZ (lo:Int) (hi:Int) (first:Int) (h0:(List aH)):Option ((List aH)):=
 (aM (nR hi first) (lo,h0)).bind fun a2=>match a2 with | .inl a0=>some a0 | .inr a1=>some a1
def nN (a:Int) (b:Int):Int×(List aH)→Option (Int×(List aH) ⊕ (List aH)):=fun a0 =>
 if (decide (a0.1 ≥ 0)) then ((dZ a0.1 (aI b a) a a0.2).bind fun a1=>some (.inl ((aI a0.1 1),a1))) else (some (.inr a0.2))
def nO (a:Int):Int×(List aH)→Option (Int×(List aH) ⊕ (List aH)):=fun a0 =>
 if (decide (a0.1 ≥ 0)) then ((idx a0.2 (aJ a a0.1)).bind fun a1=>(idx a0.2 a).bind fun a3=>(idx a0.2 a).bind fun a4=>(idx (List.set a0.2 (Int.toNat a) a1) (aJ a a0.1)).bind fun a5=>(dZ 0 a0.1 a (List.set (List.set a0.2 (Int.toNat a) a1) (Int.toNat (aJ a a0.1)) a3)).bind fun a2=>some (.inl ((aI a0.1 1),a2))) else (some (.inr a0.2))
def gP (a:Int) (b:Int) (h0:(List aH)):Option ((List aH)):=
 (aM (nN a b) ((pH (aI (aI b a) 1) 2),h0)).bind fun a1=>(aM (nO a) ((aI (aI b a) 1),a1)).bind fun a0=>some a0
def cP (a:Int) (a0:Int×Int×(List aH)):Int→Option (Int×Int×(List aH) ⊕ (List aH)):=fun a1 =>
 (idx a0.2.2 (aJ a a1)).bind fun a2=>(idx a0.2.2 a0.1).bind fun a3=>(idx a0.2.2 a0.1).bind fun a4=>(idx (List.set a0.2.2 (Int.toNat a0.1) a2) (aJ a a1)).bind fun a5=>some (.inl ((aJ a0.1 1),(gK .u64 (gK .u64 (gK .u64 a0.2.1 (IntKind.wrap .u64 (a0.2.1*2^(min (Int.toNat 13) 64)))) (Int.fdiv (gK .u64 a0.2.1 (IntKind.wrap .u64 (a0.2.1*2^(min (Int.toNat 13) 64)))) (2^(min (Int.toNat 7) 64)))) (IntKind.wrap .u64 ((gK .u64 (gK .u64 a0.2.1 (IntKind.wrap .u64 (a0.2.1*2^(min (Int.toNat 13) 64)))) (Int.fdiv (gK .u64 a0.2.1 (IntKind.wrap .u64 (a0.2.1*2^(min (Int.toNat 13) 64)))) (2^(min (Int.toNat 7) 64))))*2^(min (Int.toNat 17) 64)))),(List.set (List.set a0.2.2 (Int.toNat a0.1) a2) (Int.toNat (aJ a a1)) a3)))
def lE (a:Int) (b:Int) (r2:Int):Int×Int×(List aH)→Option (Int×Int×(List aH) ⊕ (List aH)):=fun a0 =>
 if (decide (a0.1≤(aJ (aJ a (eS (pH (aI b a) 4) 2)) 1))) then ((wF a0.2.1).bind fun a1=>if (decide ((IntKind.wrap .i64 (Ik .u64 a1 (IntKind.wrap .u64 (r2-1)))) ≥ (aI b a))) then (cP a a0 (aI (IntKind.wrap .i64 (Ik .u64 a1 (IntKind.wrap .u64 (r2-1)))) (aI b a))) else (cP a a0 (IntKind.wrap .i64 (Ik .u64 a1 (IntKind.wrap .u64 (r2-1)))))) else (some (.inr a0.2.2))
def fL (a:Int) (b:Int) (h0:(List aH)):Option ((List aH)):=
 if (decide ((aI b a) ≥ 8)) then ((uT (aI b a)).bind fun r2=>(aM (lE a b r2) ((aI (aJ a (eS (pH (aI b a) 4) 2)) 1),(IntKind.wrap .u64 (aI b a)),h0)).bind fun a0=>some a0) else (some h0)
def cJ (data:(List aH)) (a:Int) (b:Int) (h0_0:Int):Option (Int×Int×Int):=
 (idx data b).bind fun a1=>(idx data a).bind fun a2=>(bM (eK.mk ) a1 a2).bind fun a0=>if (decide (a0<0)) then (some (b,a,(aJ h0_0 1))) else (some (a,b,h0_0))
def eF (data:(List aH)) (a:Int) (b:Int) (c:Int) (h0_0:Int):Option (Int×Int):=
 (cJ data a b h0_0).bind fun r2=>(cJ data r2.2.1 c r2.2.2).bind fun r4=>(cJ data r2.1 r4.1 r4.2.2).bind fun r6=>some (r6.2.1,r6.2.2)
def bW (data:(List aH)) (a:Int) (h0_0:Int):Option (Int×Int):=
 (eF data (aI a 1) a (aJ a 1) h0_0).bind fun r2=>some (r2.1,r2.2)
def cT:(Int×Int)→Option (Int×Int):=fun a0 =>
 if (a0.2==0) then (some (a0.1,1)) else (if (a0.2==12) then (some (a0.1,2)) else (some (a0.1,0)))
def cU (data:(List aH)):(Int×Int×Int×Int)→Option (Int×Int):=fun a0 =>
 (eF data a0.1 a0.2.1 a0.2.2.1 a0.2.2.2).bind fun a1=>cT (a1.1,a1.2)
def gA (data:(List aH)) (a:Int) (b:Int):Option (Int×Int):=
 if (decide ((aI b a) ≥ 8)) then (if (decide ((aI b a) ≥ 50)) then ((bW data (aJ a (eS (pH (aI b a) 4) 1)) 0).bind fun a0=>(bW data (aJ a (eS (pH (aI b a) 4) 2)) a0.2).bind fun a1=>(bW data (aJ a (eS (pH (aI b a) 4) 3)) a1.2).bind fun a2=>cU data (a0.1,a1.1,a2.1,a2.2)) else (cU data ((aJ a (eS (pH (aI b a) 4) 1)),(aJ a (eS (pH (aI b a) 4) 2)),(aJ a (eS (pH (aI b a) 4) 3)),0))) else (cT ((aJ a (eS (pH (aI b a) 4) 2)),0))
def lQ:Int×Int×(List aH)→Option (Int×Int×(List aH) ⊕ (List aH)):=fun a0 =>
 if (decide (a0.1<a0.2.1)) then ((idx a0.2.2 a0.2.1).bind fun a1=>(idx a0.2.2 a0.1).bind fun a2=>(idx a0.2.2 a0.1).bind fun a3=>(idx (List.set a0.2.2 (Int.toNat a0.1) a1) a0.2.1).bind fun a4=>some (.inl ((aJ a0.1 1),(aI a0.2.1 1),(List.set (List.set a0.2.2 (Int.toNat a0.1) a1) (Int.toNat a0.2.1) a2)))) else (some (.inr a0.2.2))
def fT (a:Int) (b:Int) (h0:(List aH)):Option ((List aH)):=
 (aM (lQ) (a,(aI b 1),h0)).bind fun a0=>some a0
def cC (a1:Int×Int×(List aH)):Int×(List aH)→Option (Int×Int×(List aH) ⊕ (Bool×(List aH) ⊕ (List aH))):=fun a0 =>
 some (.inl (a0.1,(aJ a1.2.1 1),a0.2))
def jG (b:Int) (a1:Int×Int×(List aH)):Int→Option (Int ⊕ Int):=fun a0 =>
 (if (decide (a0<b)) then ((idx a1.2.2 a0).bind fun a4=>(idx a1.2.2 (aI a0 1)).bind fun a5=>(bM (eK.mk ) a4 a5).bind fun a3=>some (!(decide (a3<0)))) else (some false)).bind fun a2=>if a2 then (some (.inl (aJ a0 1))) else (some (.inr a0))
def jH (b:Int):Int×(List aH)→Option (Int×(List aH) ⊕ (List aH)):=fun a0 =>
 if (decide (a0.1<b)) then ((idx a0.2 a0.1).bind fun a3=>(idx a0.2 (aI a0.1 1)).bind fun a4=>(bM (eK.mk ) a3 a4).bind fun a2=>if (!(decide (a2<0))) then (some (.inr a0.2)) else ((idx a0.2 (aI a0.1 1)).bind fun a1=>(idx a0.2 a0.1).bind fun a5=>(idx a0.2 a0.1).bind fun a6=>(idx (List.set a0.2 (Int.toNat a0.1) a1) (aI a0.1 1)).bind fun a7=>some (.inl ((aJ a0.1 1),(List.set (List.set a0.2 (Int.toNat a0.1) a1) (Int.toNat (aI a0.1 1)) a5))))) else (some (.inr a0.2))
def cD (b:Int) (a2:Int×Int×(List aH)) (a0:Int):(List aH)→Option (Int×Int×(List aH) ⊕ (Bool×(List aH) ⊕ (List aH))):=fun a1 =>
 if (decide ((aI b a0) ≥ 2)) then ((aM (jH b) ((aJ a0 1),a1)).bind fun a3=>cC a2 (a0,a3)) else (cC a2 (a0,a1))
def jI:Int×(List aH)→Option (Int×(List aH) ⊕ (List aH)):=fun a0 =>
 if (decide (a0.1 ≥ 1)) then ((idx a0.2 a0.1).bind fun a3=>(idx a0.2 (aI a0.1 1)).bind fun a4=>(bM (eK.mk ) a3 a4).bind fun a2=>if (!(decide (a2<0))) then (some (.inr a0.2)) else ((idx a0.2 (aI a0.1 1)).bind fun a1=>(idx a0.2 a0.1).bind fun a5=>(idx a0.2 a0.1).bind fun a6=>(idx (List.set a0.2 (Int.toNat a0.1) a1) (aI a0.1 1)).bind fun a7=>some (.inl ((aI a0.1 1),(List.set (List.set a0.2 (Int.toNat a0.1) a1) (Int.toNat (aI a0.1 1)) a5))))) else (some (.inr a0.2))
def jJ (a:Int) (b:Int):Int×Int×(List aH)→Option (Int×Int×(List aH) ⊕ (Bool×(List aH) ⊕ (List aH))):=fun a0 =>
 if (decide (a0.2.1<5)) then ((aM (jG b a0) a0.1).bind fun a1=>if (a1==b) then (some (.inr (.inl (true,a0.2.2)))) else (if (decide ((aI b a)<50)) then (some (.inr (.inl (false,a0.2.2)))) else ((idx a0.2.2 (aI a1 1)).bind fun a2=>(idx a0.2.2 a1).bind fun a3=>(idx a0.2.2 a1).bind fun a5=>(idx (List.set a0.2.2 (Int.toNat a1) a2) (aI a1 1)).bind fun a6=>if (decide ((aI a1 a) ≥ 2)) then ((aM (jI) ((aI a1 1),(List.set (List.set a0.2.2 (Int.toNat a1) a2) (Int.toNat (aI a1 1)) a3))).bind fun a4=>cD b a0 a1 a4) else (cD b a0 a1 (List.set (List.set a0.2.2 (Int.toNat a1) a2) (Int.toNat (aI a1 1)) a3))))) else (some (.inr (.inr a0.2.2)))
def eH (a:Int) (b:Int) (h0:(List aH)):Option (Bool×(List aH)):=
 (aM (jJ a b) ((aJ a 1),0,h0)).bind fun a2=>match a2 with | .inl a0=>some (a0.1,a0.2) | .inr a1=>some (false,a1)
def kM (a:Int) (a1:Int×Int×(List aH)):Int→Option (Int ⊕ Int):=fun a0 =>
 (if (decide (a0≤a1.2.1)) then ((idx a1.2.2 a).bind fun a4=>(idx a1.2.2 a0).bind fun a5=>(bM (eK.mk ) a4 a5).bind fun a3=>some (!(decide (a3<0)))) else (some false)).bind fun a2=>if a2 then (some (.inl (aJ a0 1))) else (some (.inr a0))
def kO (a:Int) (a1:Int×Int×(List aH)) (a4:Int):Int→Option (Int ⊕ Int):=fun a0 =>
 (if (decide (a4≤a0)) then ((idx a1.2.2 a).bind fun a5=>(idx a1.2.2 a0).bind fun a6=>(bM (eK.mk ) a5 a6).bind fun a3=>some (decide (a3<0))) else (some false)).bind fun a2=>if a2 then (some (.inl (aI a0 1))) else (some (.inr a0))
def kP (a:Int):Int×Int×(List aH)→Option (Int×Int×(List aH) ⊕ Int×(List aH)):=fun a0 =>
 (aM (kM a a0) a0.1).bind fun a1=>(aM (kO a a0 a1) a0.2.1).bind fun a2=>if (decide (a1>a2)) then (some (.inr (a1,a0.2.2))) else ((idx a0.2.2 a2).bind fun a3=>(idx a0.2.2 a1).bind fun a4=>(idx a0.2.2 a1).bind fun a5=>(idx (List.set a0.2.2 (Int.toNat a1) a3) a2).bind fun a6=>some (.inl ((aJ a1 1),(aI a2 1),(List.set (List.set a0.2.2 (Int.toNat a1) a3) (Int.toNat a2) a4))))
def fK (a:Int) (b:Int) (pivot:Int) (h0:(List aH)):Option (Int×(List aH)):=
 (idx h0 pivot).bind fun x9=>(idx h0 a).bind fun a1=>(idx h0 a).bind fun a2=>(idx (List.set h0 (Int.toNat a) x9) pivot).bind fun a3=>(aM (kP a) ((aJ a 1),(aI b 1),(List.set (List.set h0 (Int.toNat a) x9) (Int.toNat pivot) a1))).bind fun a0=>some (a0.1,a0.2)
def mU (a:Int) (b:Int) (pivot:Int) (h0:(List aH)) (x9:aH) (a5:aH):Int→Option (Int ⊕ Int):=fun a0 =>
 (if (decide (a0≤(aI b 1))) then ((idx (List.set (List.set h0 (Int.toNat a) x9) (Int.toNat pivot) a5) a0).bind fun a3=>(idx (List.set (List.set h0 (Int.toNat a) x9) (Int.toNat pivot) a5) a).bind fun a4=>(bM (eK.mk ) a3 a4).bind fun a2=>some (decide (a2<0))) else (some false)).bind fun a1=>if a1 then (some (.inl (aJ a0 1))) else (some (.inr a0))
def mV (a:Int) (pivot:Int) (h0:(List aH)) (x9:aH) (a6:aH) (a3:Int):Int→Option (Int ⊕ Int):=fun a0 =>
 (if (decide (a3≤a0)) then ((idx (List.set (List.set h0 (Int.toNat a) x9) (Int.toNat pivot) a6) a0).bind fun a4=>(idx (List.set (List.set h0 (Int.toNat a) x9) (Int.toNat pivot) a6) a).bind fun a5=>(bM (eK.mk ) a4 a5).bind fun a2=>some (!(decide (a2<0)))) else (some false)).bind fun a1=>if a1 then (some (.inl (aI a0 1))) else (some (.inr a0))
def mX (a:Int) (a1:Int×Int×(List aH)):Int→Option (Int ⊕ Int):=fun a0 =>
 (if (decide (a0≤a1.2.1)) then ((idx a1.2.2 a0).bind fun a4=>(idx a1.2.2 a).bind fun a5=>(bM (eK.mk ) a4 a5).bind fun a3=>some (decide (a3<0))) else (some false)).bind fun a2=>if a2 then (some (.inl (aJ a0 1))) else (some (.inr a0))
def mY (a:Int) (a1:Int×Int×(List aH)) (a4:Int):Int→Option (Int ⊕ Int):=fun a0 =>
 (if (decide (a4≤a0)) then ((idx a1.2.2 a0).bind fun a5=>(idx a1.2.2 a).bind fun a6=>(bM (eK.mk ) a5 a6).bind fun a3=>some (!(decide (a3<0)))) else (some false)).bind fun a2=>if a2 then (some (.inl (aI a0 1))) else (some (.inr a0))
def mZ (a:Int):Int×Int×(List aH)→Option (Int×Int×(List aH) ⊕ Int×(List aH)):=fun a0 =>
 (aM (mX a a0) a0.1).bind fun a1=>(aM (mY a a0 a1) a0.2.1).bind fun a2=>if (decide (a1>a2)) then (some (.inr (a2,a0.2.2))) else ((idx a0.2.2 a2).bind fun a3=>(idx a0.2.2 a1).bind fun a4=>(idx a0.2.2 a1).bind fun a5=>(idx (List.set a0.2.2 (Int.toNat a1) a3) a2).bind fun a6=>some (.inl ((aJ a1 1),(aI a2 1),(List.set (List.set a0.2.2 (Int.toNat a1) a3) (Int.toNat a2) a4))))
def gJ (a:Int) (b:Int) (pivot:Int) (h0:(List aH)):Option (Int×Bool×(List aH)):=
 (idx h0 pivot).bind fun x9=>(idx h0 a).bind fun a3=>(idx h0 a).bind fun b6=>(idx (List.set h0 (Int.toNat a) x9) pivot).bind fun b7=>(aM (mU a b pivot h0 x9 a3) (aJ a 1)).bind fun a2=>(aM (mV a pivot h0 x9 a3 a2) (aI b 1)).bind fun a1=>if (decide (a2>a1)) then ((idx (List.set (List.set h0 (Int.toNat a) x9) (Int.toNat pivot) a3) a).bind fun a6=>(idx (List.set (List.set h0 (Int.toNat a) x9) (Int.toNat pivot) a3) a1).bind fun a8=>(idx (List.set (List.set h0 (Int.toNat a) x9) (Int.toNat pivot) a3) a1).bind fun b2=>(idx (List.set (List.set (List.set h0 (Int.toNat a) x9) (Int.toNat pivot) a3) (Int.toNat a1) a6) a).bind fun b3=>some (a1,true,(List.set (List.set (List.set (List.set h0 (Int.toNat a) x9) (Int.toNat pivot) a3) (Int.toNat a1) a6) (Int.toNat a) a8))) else ((idx (List.set (List.set h0 (Int.toNat a) x9) (Int.toNat pivot) a3) a1).bind fun a7=>(idx (List.set (List.set h0 (Int.toNat a) x9) (Int.toNat pivot) a3) a2).bind fun a9=>(idx (List.set (List.set h0 (Int.toNat a) x9) (Int.toNat pivot) a3) a2).bind fun b4=>(idx (List.set (List.set (List.set h0 (Int.toNat a) x9) (Int.toNat pivot) a3) (Int.toNat a2) a7) a1).bind fun b5=>(aM (mZ a) ((aJ a2 1),(aI a1 1),(List.set (List.set (List.set (List.set h0 (Int.toNat a) x9) (Int.toNat pivot) a3) (Int.toNat a2) a7) (Int.toNat a1) a9))).bind fun a0=>(idx a0.2 a).bind fun a4=>(idx a0.2 a0.1).bind fun a5=>(idx a0.2 a0.1).bind fun b0=>(idx (List.set a0.2 (Int.toNat a0.1) a4) a).bind fun b1=>some (a0.1,false,(List.set (List.set a0.2 (Int.toNat a0.1) a4) (Int.toNat a) a5)))
def dG (self:Int→Int→Int→(List aH)→Option ((List aH))) (a1:Int×Int×Int×Bool×Bool×(List aH)) (a3:Int×(List aH)) (a4:Int×Int×(List aH)):Bool×Bool×(List aH)→Option (Int×Int×Int×Bool×Bool×(List aH) ⊕ (List aH)):=fun a2 =>
 (if (decide (a1.1>0)) then ((idx a2.2.2 (aI a1.1 1)).bind fun b0=>(idx a2.2.2 a4.1).bind fun b1=>(bM (eK.mk ) b0 b1).bind fun a7=>some (!(decide (a7<0)))) else (some false)).bind fun a6=>if a6 then ((fK a1.1 a1.2.1 a4.1 a2.2.2).bind fun a5=>some (.inl (a5.1,a1.2.1,a3.1,a2.1,a2.2.1,a5.2))) else ((gJ a1.1 a1.2.1 a4.1 a2.2.2).bind fun a0=>if (decide ((aI a0.1 a1.1)<(aI a1.2.1 a0.1))) then ((self a1.1 a0.1 a3.1 a0.2.2).bind fun a8=>some (.inl ((aJ a0.1 1),a1.2.1,a3.1,(decide ((aI a0.1 a1.1) ≥ (pH (aI a1.2.1 a1.1) 8))),a0.2.1,a8))) else ((self (aJ a0.1 1) a1.2.1 a3.1 a0.2.2).bind fun a9=>some (.inl (a1.1,a0.1,a3.1,(decide ((aI a1.2.1 a0.1) ≥ (pH (aI a1.2.1 a1.1) 8))),a0.2.1,a9))))
def dH (self:Int→Int→Int→(List aH)→Option ((List aH))) (a3:Int×Int×Int×Bool×Bool×(List aH)) (a4:Int×(List aH)):Int×Int×(List aH)→Option (Int×Int×Int×Bool×Bool×(List aH) ⊕ (List aH)):=fun a0 =>
 (if a3.2.2.2.1 then (if a3.2.2.2.2.1 then (some (true,true,(a0.2.1==1))) else (some (true,false,false))) else (some (false,a3.2.2.2.2.1,false))).bind fun a1=>if a1.2.2 then ((eH a3.1 a3.2.1 a0.2.2).bind fun a2=>if a2.1 then (some (.inr a2.2)) else (dG self a3 a4 a0 (a1.1,a1.2.1,a2.2))) else (dG self a3 a4 a0 (a1.1,a1.2.1,a0.2.2))
def dJ (self:Int→Int→Int→(List aH)→Option ((List aH))) (a2:Int×Int×Int×Bool×Bool×(List aH)):Int×(List aH)→Option (Int×Int×Int×Bool×Bool×(List aH) ⊕ (List aH)):=fun a0 =>
 (gA a0.2 a2.1 a2.2.1).bind fun a1=>if (a1.2==2) then ((fT a2.1 a2.2.1 a0.2).bind fun a3=>dH self a2 a0 ((aI (aI a2.2.1 1) (aI a1.1 a2.1)),1,a3)) else (dH self a2 a0 (a1.1,a1.2,a0.2))
def nW (self:Int→Int→Int→(List aH)→Option ((List aH))):Int×Int×Int×Bool×Bool×(List aH)→Option (Int×Int×Int×Bool×Bool×(List aH) ⊕ (List aH)):=fun a0 =>
 if (decide ((aI a0.2.1 a0.1)≤12)) then ((fM a0.1 a0.2.1 a0.2.2.2.2.2).bind fun a1=>some (.inr a1)) else (if (a0.2.2.1==0) then ((gP a0.1 a0.2.1 a0.2.2.2.2.2).bind fun a2=>some (.inr a2)) else (if (!a0.2.2.2.1) then ((fL a0.1 a0.2.1 a0.2.2.2.2.2).bind fun a3=>dJ self a0 ((aI a0.2.2.1 1),a3)) else (dJ self a0 (a0.2.2.1,a0.2.2.2.2.2))))
def fR (self:Int→Int→Int→(List aH)→Option ((List aH))) (a:Int) (b:Int) (limit:Int) (h0:(List aH)):Option ((List aH)):=
 (aM (nW self) (a,b,limit,true,true,h0)).bind fun a0=>some a0
def bR:Nat→Int→Int→Int→(List aH)→Option ((List aH))
 | 0=>fun _ _ _ _=>none
 | n+1=>fR (bR n)
def gV (a:Int) (b:Int) (limit:Int) (h0:(List aH)):Option ((List aH)):=bR 1000 a b limit h0
def bZ (h0:(List aH)):Option ((List aH)):=
 (Mt (IntKind.wrap .u64 (h0.length:Int))).bind fun r3=>(gV 0 (h0.length:Int) r3 h0).bind fun r4=>some r4
def kV (s0:eU) (y:Int) (a3:aT):Int×(List aH)→Option (Int×(List aH) ⊕ (List aH)):=fun a0 =>
 if (decide (a0.1<(s0.lS.length:Int))) then ((idx s0.lS a0.1).bind fun a4=>(sU a3 a4 y).bind fun a2=>(app a0.2 a2).bind fun a1=>some (.inl ((aJ a0.1 1),a1))) else (some (.inr a0.2))
def pJ (s0:eU) (y:Int):Int×(List aH)→Option (Int×(List aH) ⊕ (List aH)):=fun a0 =>
 if (decide (a0.1<(s0.bU.length:Int))) then ((idx s0.bU a0.1).bind fun a1=>(aM (kV s0 y a1) (0,a0.2)).bind fun a2=>some (.inl ((aJ a0.1 1),a2))) else (some (.inr a0.2))
def pF (s0:eU) (y:Int):Option ((List aH)):=
 (aM (pJ s0 y) (0,[])).bind fun a1=>(bZ a1).bind fun a0=>some a0
def Ca (a1:Int×Bool×Int):(Int×Bool)→Option ((Int×Bool×Int) ⊕ (Int×Bool)):=fun a0 =>
 some (.inl (a0.1,a0.2,(aJ a1.2.2 1)))
def Cb (l:(List aH)) (lo:Int) (hi:Int):(Int×Bool×Int)→Option ((Int×Bool×Int) ⊕ (Int×Bool)):=fun a0 =>
 if (decide (a0.2.2<(l.length:Int))) then ((idx l a0.2.2).bind fun a1=>(if (decide (a1.lo<a0.1)) then (some (decide (a0.1<a1.hi))) else (some false)).bind fun a2=>if a2 then (Ca a0 (a1.hi,true)) else (Ca a0 (a0.1,a0.2.1))) else (some (.inr (a0.1,a0.2.1)))
def Cc (l:(List aH)) (lo:Int) (hi:Int):(Int×Bool)→Option ((Int×Bool) ⊕ Int):=fun a0 =>
 if a0.2 then ((aM (Cb l lo hi) (a0.1,false,0)).bind fun a1=>some (.inl (a1.1,a1.2))) else (some (.inr a0.1))
def En (l:(List aH)) (lo:Int) (hi:Int):Option (Int×Bool):=
 (aM (Cc l lo hi) (lo,true)).bind fun a0=>some (a0,(decide (a0≤hi)))
def rP (s0:eU) (a4:(List Int)):Int→Option (Int ⊕ ((Int×Int) ⊕ Unit)):=fun a3 =>
 if (decide (a3<(a4.length:Int))) then ((idx a4 a3).bind fun a1=>(pF s0 a1).bind fun a2=>(En a2 s0.lT.X (aI (aJ s0.lT.X s0.lT.W) s0.w)).bind fun a0=>if a0.2 then (some (.inr (.inl (a0.1,a1)))) else (some (.inl (aJ a3 1)))) else (some (.inr (.inr (()))))
def uZ (s0:eU):Option (Int×Int×Bool):=
 (if (decide (s0.w>s0.lT.W)) then (some true) else (some (decide (s0.h>s0.lT.H)))).bind fun j2=>if j2 then (some (0,0,false)) else ((sX s0).bind fun a3=>(aM (rP s0 a3) 0).bind fun a1=>match a1 with | .inl a0=>some (a0.1,a0.2,true) | .inr a2=>some (0,0,false))
def vQ (a1:Bool×Int×Int×Int×Int):(Bool×Int×Int×Int)→Option ((Bool×Int×Int×Int×Int) ⊕ (Bool×Int×Int×Int)):=fun a0 =>
 some (.inl (a0.1,(aJ a1.2.1 1),a0.2.1,a0.2.2.1,a0.2.2.2))
def Cj (a2:aU×Int×ByteArray×ByteArray×Int×Int):(Int×Int×Int)→Option ((Int×Int×Int) ⊕ (Int×Int)):=fun a0 =>
 if (decide (a0.1<(a2.1.aD.length:Int))) then ((idx a2.1.aD a0.1).bind fun a1=>some (.inl ((aJ a0.1 1),(imax a0.2.1 (aJ a1.X a1.W)),(imax a0.2.2 (aJ a1.Y a1.H))))) else (some (.inr (a0.2.1,a0.2.2)))
def tS (s0:bI) (x2:aU) (a6:aF×Bool) (a7:(List aT)):(Bool×Int×Int×Int×Int)→Option ((Bool×Int×Int×Int×Int) ⊕ (Bool×Int×Int×Int)):=fun a0 =>
 if (decide (a0.2.1<4)) then ((eJ x2 s0 a0.2.1).bind fun a5=>if (!a5) then (vQ a0 (a0.1,a0.2.2.1,a0.2.2.2.1,a0.2.2.2.2)) else ((tH x2 (aN.mk 0 0 0 0 a0.2.1)).bind fun a2=>if (a2.2.1 != 0) then (vQ a0 (a0.1,a0.2.2.1,a0.2.2.2.1,a0.2.2.2.2)) else ((aM (Cj a2) (0,0,0)).bind fun a4=>(uZ (eU.mk a2.1.aD a7 a6.1 a4.1 a4.2)).bind fun a1=>(if a1.2.2 then (if a0.1 then (if (decide (a1.2.1<a0.2.2.2.1)) then (some (true,true)) else (if (a1.2.1==a0.2.2.2.1) then (some (true,(decide (a1.1<a0.2.2.1)))) else (some (true,false)))) else (some (false,true))) else (some (a0.1,false))).bind fun a3=>if a3.2 then (vQ a0 (true,a1.1,a1.2.1,a0.2.1)) else (vQ a0 (a3.1,a0.2.2.1,a0.2.2.2.1,a0.2.2.2.2))))) else (some (.inr (a0.1,a0.2.2.1,a0.2.2.2.1,a0.2.2.2.2)))
def Hq (s0:bI) (taken:(List (List aF))) (x2:aU) (set3:bA):Option (aN×Bool×Int×Int×Int×Int):=
 (bO s0).bind fun r4=>if (r4 != 0) then (some ((aN.mk 0 0 0 0 0),false,r4,0,0,0)) else ((yN taken).bind fun r8=>if (r8 != 0) then (some ((aN.mk 0 0 0 0 0),false,r8,0,0,0)) else ((bB x2).bind fun a1=>if (a1 != 0) then (some ((aN.mk 0 0 0 0 0),false,a1,0,0,0)) else ((cX set3).bind fun a3=>if (!a3) then (some ((aN.mk 0 0 0 0 0),false,1,0,0,0)) else ((oL s0 set3.aS).bind fun a2=>if (!a2.2) then (some ((aN.mk 0 0 0 0 0),false,0,0,0,0)) else ((wQ s0 taken set3).bind fun a4=>(aM (tS s0 x2 a2 a4) (false,0,0,0,0)).bind fun a0=>some ((aN.mk 0 0 a0.2.1 a0.2.2.1 a0.2.2.2),a0.1,0,a0.2.1,a0.2.2.1,a0.2.2.2))))))
def iM (l:(List aF)) (hard:(List aF)) (a2:Int×(List Int)):Int×(List Int)→Option (Int×(List Int) ⊕ (List Int)):=fun a0 =>
 if (decide (a0.1<(hard.length:Int))) then ((idx hard a0.1).bind fun a3=>(idx hard a0.1).bind fun a4=>(idx l a2.1).bind fun a5=>(gH (aI (aJ a3.Y a4.H) a5.Y) a0.2).bind fun a1=>some (.inl ((aJ a0.1 1),a1))) else (some (.inr a0.2))
def iN (l:(List aF)) (soft:(List aF)) (set3:bA) (a2:Int×(List Int)):Int×(List Int)→Option (Int×(List Int) ⊕ (List Int)):=fun a0 =>
 if (decide (a0.1<(soft.length:Int))) then ((idx soft a0.1).bind fun a1=>(idx l a2.1).bind fun a6=>(gH (aI (aJ a1.Y a1.H) a6.Y) a0.2).bind fun a3=>(idx l a2.1).bind fun a7=>(gH (aI (aJ (aJ a1.Y a1.H) set3.Gap) a7.Y) a3).bind fun a4=>(idx l a2.1).bind fun a8=>(idx l a2.1).bind fun a9=>(gH (aI (aI a1.Y a8.H) a9.Y) a4).bind fun a5=>some (.inl ((aJ a0.1 1),a5))) else (some (.inr a0.2))
def kY (l:(List aF)) (hard:(List aF)) (soft:(List aF)) (set3:bA):Int×(List Int)→Option (Int×(List Int) ⊕ (List Int)):=fun a0 =>
 if (decide (a0.1<(l.length:Int))) then ((aM (iM l hard a0) (0,a0.2)).bind fun a1=>(aM (iN l soft set3 a0) (0,a1)).bind fun a2=>some (.inl ((aJ a0.1 1),a2))) else (some (.inr a0.2))
def oJ (l:(List aF)) (hard:(List aF)) (soft:(List aF)) (set3:bA):Option ((List Int)):=
 (aM (kY l hard soft set3) (0,[set3.aS])).bind fun a0=>some a0
def kK (r0:aF) (o:aF) (y:Int) (set3:bA) (soft:Bool):(List aV)→Option ((List aV)):=fun j4 =>
 (if soft then (some (decide ((imax (imax 0 (aI (aI o.Y (aJ y r0.Y)) r0.H)) (aI (aI (aJ y r0.Y) o.Y) o.H)) ≥ set3.Gap))) else (some true)).bind fun j6=>if j6 then (some j4) else ((if set3.dM then (some (((imax (imax 0 (aI (aI o.Y (aJ y r0.Y)) r0.H)) (aI (aI (aJ y r0.Y) o.Y) o.H))==0),true)) else (some (false,false))).bind fun a0=>if a0.1 then ((app j4 [(aV.mk (aI (aI (aI o.X r0.W) r0.X) set3.Gap) (aI (aI o.X r0.W) r0.X)),(aV.mk (aI (aJ o.X o.W) r0.X) (aJ (aI (aJ o.X o.W) r0.X) set3.Gap))]).bind fun a1=>some a1) else ((app j4 [(aV.mk (aI (aI (aI o.X r0.W) r0.X) set3.Gap) (aJ (aI (aJ o.X o.W) r0.X) set3.Gap))]).bind fun a2=>some a2))
def jU (r0:aF) (o:aF) (y:Int) (set3:bA) (soft:Bool):Option ((List aV)):=
 (if (decide ((aJ y r0.Y)<(aJ o.Y o.H))) then (some (decide (o.Y<(aJ (aJ y r0.Y) r0.H)))) else (some false)).bind fun a0=>if a0 then ((app [] [(aV.mk (aI (aI o.X r0.W) r0.X) (aI (aJ o.X o.W) r0.X))]).bind fun a1=>kK r0 o y set3 soft a1) else (kK r0 o y set3 soft [])
def jA (l:(List aF)) (hard:(List aF)) (set3:bA) (y:Int) (a3:Int×(List aV)):Int×(List aV)→Option (Int×(List aV) ⊕ (List aV)):=fun a0 =>
 if (decide (a0.1<(hard.length:Int))) then ((idx l a3.1).bind fun a4=>(idx hard a0.1).bind fun a5=>(jU a4 a5 y set3 false).bind fun a2=>(app a0.2 a2).bind fun a1=>some (.inl ((aJ a0.1 1),a1))) else (some (.inr a0.2))
def jB (l:(List aF)) (soft:(List aF)) (set3:bA) (y:Int) (a3:Int×(List aV)):Int×(List aV)→Option (Int×(List aV) ⊕ (List aV)):=fun a0 =>
 if (decide (a0.1<(soft.length:Int))) then ((idx l a3.1).bind fun a4=>(idx soft a0.1).bind fun a5=>(jU a4 a5 y set3 true).bind fun a2=>(app a0.2 a2).bind fun a1=>some (.inl ((aJ a0.1 1),a1))) else (some (.inr a0.2))
def jC (l:(List aF)) (hard:(List aF)) (soft:(List aF)) (set3:bA) (y:Int):Int×(List aV)→Option (Int×(List aV) ⊕ (List aV)):=fun a0 =>
 if (decide (a0.1<(l.length:Int))) then ((aM (jA l hard set3 y a0) (0,a0.2)).bind fun a1=>(aM (jB l soft set3 y a0) (0,a1)).bind fun a2=>some (.inl ((aJ a0.1 1),a2))) else (some (.inr a0.2))
def mB (a1:Int×Bool×Int):(Int×Bool)→Option ((Int×Bool×Int) ⊕ (Int×Bool)):=fun a0 =>
 some (.inl (a0.1,a0.2,(aJ a1.2.2 1)))
def mD (a1:(List aV)):(Int×Bool×Int)→Option ((Int×Bool×Int) ⊕ (Int×Bool)):=fun a0 =>
 if (decide (a0.2.2<(a1.length:Int))) then (((idx a1 a0.2.2).bind fun a3=>if (decide (a3.lo<a0.1)) then ((idx a1 a0.2.2).bind fun a4=>some (decide (a0.1<a4.hi))) else (some false)).bind fun a2=>if a2 then ((idx a1 a0.2.2).bind fun a5=>mB a0 (a5.hi,true)) else (mB a0 (a0.1,a0.2.1))) else (some (.inr (a0.1,a0.2.1)))
def mE (a2:(List aV)):(Int×Bool)→Option ((Int×Bool) ⊕ Int):=fun a0 =>
 if a0.2 then ((aM (mD a2) (a0.1,false,0)).bind fun a1=>some (.inl (a1.1,a1.2))) else (some (.inr a0.1))
def lA (l:(List aF)) (hard:(List aF)) (soft:(List aF)) (set3:bA) (y:Int) (last:Int):Option (Int×Bool):=
 (aM (jC l hard soft set3 y) (0,[])).bind fun a1=>(aM (mE a1) (set3.aS,true)).bind fun a0=>some (a0,(decide (a0≤last)))
def jV (r2:aU×ByteArray×ByteArray×Int×Int):(Int×Int×Int)→Option ((Int×Int×Int) ⊕ (Int×Int)):=fun a0 =>
 if (decide (a0.2.2<(r2.1.aD.length:Int))) then ((idx r2.1.aD a0.2.2).bind fun a1=>(idx r2.1.aD a0.2.2).bind fun a2=>(idx r2.1.aD a0.2.2).bind fun a3=>(idx r2.1.aD a0.2.2).bind fun a4=>some (.inl ((imax a0.1 (aJ a1.X a2.W)),(imax a0.2.1 (aJ a3.Y a4.H)),(aJ a0.2.2 1)))) else (some (.inr (a0.1,a0.2.1)))
def nL (a0:Int):Unit→Option (Int ⊕ ((Int×Int) ⊕ Unit)):=fun a1 =>
 some (.inl (aJ a0 1))
def nM (s2:bI) (soft:(List aF)) (set4:bA) (r2:aU×ByteArray×ByteArray×Int×Int) (a3:Int×Int) (a5:(List aF)) (a1:(List Int)):Int→Option (Int ⊕ ((Int×Int) ⊕ Unit)):=fun a0 =>
 if (decide (a0<(a1.length:Int))) then (((idx a1 a0).bind fun a6=>if (decide (a6<set4.aS)) then (some true) else ((idx a1 a0).bind fun a7=>some (decide (a7>(aI (aI s2.bP set4.aS) a3.2))))).bind fun a4=>if a4 then (nL a0 ()) else ((idx a1 a0).bind fun a8=>(lA r2.1.aD a5 soft set4 a8 (aI (aI s2.cM set4.aS) a3.1)).bind fun a2=>if a2.2 then ((idx a1 a0).bind fun a9=>some (.inr (.inl (a2.1,a9)))) else (nL a0 ()))) else (some (.inr (.inr (()))))
def qT (x0:aU) (turn:Int) (s2:bI) (soft:(List aF)) (set4:bA):Option (aN×Bool×Int×Int×Int):=
 (gG x0 turn).bind fun r2=>(aM (jV r2) (0,0,0)).bind fun a4=>(app [] s2.bG).bind fun a2=>(app a2 s2.Used).bind fun a1=>(oJ r2.1.aD a1 soft set4).bind fun a3=>(aM (nM s2 soft set4 r2 a4 a1 a3) 0).bind fun a5=>match a5 with | .inl a0=>some ((aN.mk 0 0 a0.1 a0.2 turn),true,a0.1,a0.2,turn) | .inr a6=>some ((aN.mk 0 0 0 0 0),false,0,0,0)
def iU (a1:Bool×Int×Int×Int×Int×Int×Int):(Bool×Int×Int×Int×Int×Int)→Option ((Bool×Int×Int×Int×Int×Int×Int) ⊕ (Bool×Int×Int×Int×Int×Int)):=fun a0 =>
 some (.inl (a0.1,(aJ a1.2.1 1),a0.2.1,a0.2.2.1,a0.2.2.2.1,a0.2.2.2.2.1,a0.2.2.2.2.2))
def fA (s0:bI) (soft:(List aF)) (x2:aU) (set3:bA):(Bool×Int×Int×Int×Int×Int×Int)→Option ((Bool×Int×Int×Int×Int×Int×Int) ⊕ (Bool×Int×Int×Int×Int×Int)):=fun a0 =>
 if (decide (a0.2.1<4)) then ((iE x2 s0 a0.2.1).bind fun a3=>if (!a3) then (iU a0 (a0.1,a0.2.2.1,a0.2.2.2.1,a0.2.2.2.2.1,a0.2.2.2.2.2.1,a0.2.2.2.2.2.2)) else ((qT x2 a0.2.1 s0 soft set3).bind fun a1=>(if a1.2.1 then (if a0.1 then (if (decide (a1.1.Y<a0.2.2.2.2.2.1)) then (some (true,true)) else (if (a1.1.Y==a0.2.2.2.2.2.1) then (some (true,(decide (a1.1.X<a0.2.2.2.2.1)))) else (some (true,false)))) else (some (false,true))) else (some (a0.1,false))).bind fun a2=>if a2.2 then (iU a0 (true,a1.1.aU,a1.1.bI,a1.1.X,a1.1.Y,a1.1.tZ)) else (iU a0 (a2.1,a0.2.2.1,a0.2.2.2.1,a0.2.2.2.2.1,a0.2.2.2.2.2.1,a0.2.2.2.2.2.2)))) else (some (.inr (a0.1,a0.2.2.1,a0.2.2.2.1,a0.2.2.2.2.1,a0.2.2.2.2.2.1,a0.2.2.2.2.2.2)))
def lN (s0:bI) (soft:(List aF)) (x2:aU) (set3:bA):Option (aN×Bool×Int×Int×Int×Int×Int):=
 (aM (fA s0 soft x2 set3) (false,0,0,0,0,0,0)).bind fun a0=>some ((aN.mk a0.2.1 a0.2.2.1 a0.2.2.2.1 a0.2.2.2.2.1 a0.2.2.2.2.2),a0.1,a0.2.1,a0.2.2.1,a0.2.2.2.1,a0.2.2.2.2.1,a0.2.2.2.2.2)
def gF (taken:(List (List aF))):Int×(List aF)→Option (Int×(List aF) ⊕ Unit ⊕ (List aF)):=fun a0 =>
 if (decide (a0.1<(taken.length:Int))) then ((idx taken a0.1).bind fun a2=>if (decide ((a2.length:Int)>12)) then (some (.inr (.inl ()))) else ((idx taken a0.1).bind fun a3=>(app a0.2 a3).bind fun a1=>some (.inl ((aJ a0.1 1),a1)))) else (some (.inr (.inr a0.2)))
def wY (s0:bI) (taken:(List (List aF))) (x2:aU) (set3:bA):Option (aN×Bool×Int×Int×Int×Int×Int×Int):=
 (dF s0).bind fun r2=>if (r2 != 0) then (some ((aN.mk 0 0 0 0 0),false,r2,0,0,0,0,0)) else (if (decide ((taken.length:Int)>8)) then (some ((aN.mk 0 0 0 0 0),false,4,0,0,0,0,0)) else ((aM (gF taken) (0,[])).bind fun a5=>match a5 with | .inl a6=>some ((aN.mk 0 0 0 0 0),false,4,0,0,0,0,0) | .inr a1=>(cG a1).bind fun a3=>if (!a3) then (some ((aN.mk 0 0 0 0 0),false,1,0,0,0,0,0)) else ((cO x2).bind fun a2=>if (a2 != 0) then (some ((aN.mk 0 0 0 0 0),false,a2,0,0,0,0,0)) else ((dD set3).bind fun a4=>if (!a4) then (some ((aN.mk 0 0 0 0 0),false,1,0,0,0,0,0)) else ((lN s0 a1 x2 set3).bind fun a0=>some ((aN.mk a0.1.aU a0.1.bI a0.1.X a0.1.Y a0.1.tZ),a0.2.1,0,a0.1.aU,a0.1.bI,a0.1.X,a0.1.Y,a0.1.tZ))))))
def qY (a w b v:Int):Int:=max 0 (max (b-a-w) (a-b-v))
def ovI (a w b v:Int):Prop:=a<b+v∧b<a+w
instance (a w b v:Int):Decidable (ovI a w b v):=by unfold ovI;infer_instance
def Ic (g:Int) (c:Bool) (r o:aF) (x y:Int):Prop:=
 (ovI (x+r.X) r.W o.X o.W∧ovI (y+r.Y) r.H o.Y o.H)∨(max (qY (x+r.X) r.W o.X o.W) (qY (y+r.Y) r.H o.Y o.H)<g∧¬ (c=true∧max (qY (x+r.X) r.W o.X o.W) (qY (y+r.Y) r.H o.Y o.H)=0))
def sO (g:Int) (c:Bool) (soft:Bool) (r o:aF) (y:Int):List (Int×Int):=
 (if ovI (y+r.Y) r.H o.Y o.H then [(o.X-r.W-r.X,o.X+o.W-r.X)] else []) ++
 (if soft=false∨g≤qY (y+r.Y) r.H o.Y o.H then [] else if c=true∧qY (y+r.Y) r.H o.Y o.H=0 then [(o.X-r.W-r.X-g,o.X-r.W-r.X),(o.X+o.W-r.X,o.X+o.W-r.X+g)] else [(o.X-r.W-r.X-g,o.X+o.W-r.X+g)])
def xA (g:Int) (c:Bool) (r o:aF) (y:Int):List (Int×Int):=
 if g≤qY (y+r.Y) r.H o.Y o.H∧0<qY (y+r.Y) r.H o.Y o.H then []
 else if c=true∧ovI (y+r.Y) r.H o.Y o.H then [(o.X-r.X-r.W-g,o.X-r.X-r.W),(o.X-r.X-r.W,o.X+o.W-r.X),(o.X+o.W-r.X,o.X+o.W-r.X+g)]
 else if c=true∧qY (y+r.Y) r.H o.Y o.H=0 then [(o.X-r.X-r.W-g,o.X-r.X-r.W),(o.X+o.W-r.X,o.X+o.W-r.X+g)]
 else if qY (y+r.Y) r.H o.Y o.H=0∧g=0∧¬ ovI (y+r.Y) r.H o.Y o.H then []
 else [(o.X-r.X-r.W-g,o.X+o.W-r.X+g)]
def inS (l:List (Int×Int)) (x:Int):Prop:=∃ s ∈ l,s.1<x∧x<s.2
theorem wO (x:Int):inS [] x↔False:=by unfold inS;simp
theorem Ae (s:Int×Int) (l:List (Int×Int)) (x:Int):inS (s::l) x↔(s.1<x∧x<s.2)∨inS l x:=by unfold inS;simp
theorem Sa (a b:List (Int×Int)) (x:Int):inS (a++b) x↔inS a x∨inS b x:=by
 unfold inS
 constructor
 ·rintro ⟨s,hs,h⟩
  rcases List.mem_append.1 hs with q | q
  ·exact .inl ⟨s,q,h⟩
  ·exact .inr ⟨s,q,h⟩
 ·rintro (⟨s,hs,h⟩ | ⟨s,hs,h⟩)
  ·exact ⟨s,List.mem_append_left _ hs,h⟩
  ·exact ⟨s,List.mem_append_right _ hs,h⟩
theorem Yv (l:List (Int×Int)) (x:Int):inS (l.filter fun s=>!decide (s.2-s.1<2)) x↔inS l x:=by
 unfold inS
 constructor
 ·rintro ⟨s,hs,h⟩;exact ⟨s,(List.mem_filter.1 hs).1,h⟩
 ·rintro ⟨s,hs,h⟩
  refine ⟨s,List.mem_filter.2 ⟨hs, ?_⟩,h⟩
  have:¬ s.2-s.1<2:=by omega
  simp [this]
theorem Pr {g:Int} {c:Bool} {r o:aF} (hg:0≤g) (hr:0<r.W) (ho:0<o.W) (hr':0<r.H) (ho':0<o.H) (x y:Int):inS (sO g c true r o y) x↔Ic g c r o x y:=by
 unfold sO Ic
 rw [Sa]
 by_cases h1:ovI (y+r.Y) r.H o.Y o.H
 ·rw [if_pos h1]
  by_cases h2:g≤qY (y+r.Y) r.H o.Y o.H
  ·rw [if_pos (.inr h2)]
   simp only [Ae,wO,h1,and_true,or_false]
   unfold ovI qY at *
   omega
  ·rw [if_neg (by simpa using h2)]
   by_cases h3:c=true∧qY (y+r.Y) r.H o.Y o.H=0
   ·rw [if_pos h3]
    simp only [Ae,wO,h1,h3.1,and_true,or_false,true_and]
    unfold ovI qY at *
    omega
   ·rw [if_neg h3]
    have h4:c=false:=by
     rcases Bool.eq_false_or_eq_true c with q | q
     ·refine absurd ⟨q, ?_⟩ h3
      unfold ovI qY at *;omega
     ·exact q
    simp only [Ae,wO,h1,h4,and_true,or_false,Bool.false_eq_true,false_and,not_false_eq_true]
    unfold ovI qY at *
    omega
 ·rw [if_neg h1]
  by_cases h2:g≤qY (y+r.Y) r.H o.Y o.H
  ·rw [if_pos (.inr h2)]
   simp only [wO,h1,and_false,false_or,false_iff]
   unfold ovI qY at *
   omega
  ·rw [if_neg (by simpa using h2)]
   by_cases h3:c=true∧qY (y+r.Y) r.H o.Y o.H=0
   ·rw [if_pos h3]
    simp only [Ae,wO,h1,h3.1,and_false,false_or,or_false,true_and]
    unfold ovI qY at *
    omega
   ·rw [if_neg h3]
    simp only [Ae,wO,h1,and_false,false_or,or_false]
    cases c
    ·simp only [Bool.false_eq_true,false_and,not_false_eq_true,and_true]
     unfold ovI qY at *
     omega
    ·simp only [true_and] at h3 ⊢
     unfold ovI qY at *
     omega
theorem Pq {g:Int} {c:Bool} {r o:aF} (hr:0<r.W) (ho:0<o.W) (x y:Int):inS (sO g c false r o y) x↔Ic 0 false r o x y:=by
 unfold sO Ic
 have hf:(false=false∨g≤qY (y+r.Y) r.H o.Y o.H):=Or.inl rfl
 rw [Sa,if_pos hf]
 by_cases h1:ovI (y+r.Y) r.H o.Y o.H
 ·rw [if_pos h1]
  simp only [Ae,wO,h1,and_true,or_false,Bool.false_eq_true,false_and,not_false_eq_true]
  unfold ovI qY at *
  omega
 ·rw [if_neg h1]
  simp only [wO,h1,and_false,false_or,or_false,Bool.false_eq_true,false_and,not_false_eq_true,and_true,false_iff]
  unfold qY
  omega
theorem AB {g:Int} {c:Bool} {r o:aF} (hg:0≤g) (hr:0<r.W) (ho:0<o.W) (hr':0<r.H) (ho':0<o.H) (x y:Int):inS (xA g c r o y) x↔Ic g c r o x y:=by
 unfold xA Ic
 split
 ·rename_i h
  simp only [wO,false_iff]
  unfold ovI qY at *
  omega
 ·split
  ·rename_i h0 h
   simp only [Ae,wO,h.1,h.2,or_false,and_true,true_and]
   unfold ovI qY at *
   omega
  ·split
   ·rename_i h0 h1 h
    have h2:¬ ovI (y+r.Y) r.H o.Y o.H:=fun q=>h1 ⟨h.1,q⟩
    simp only [Ae,wO,h.1,h2,or_false,and_false,false_or,true_and]
    unfold ovI qY at *
    omega
   ·split
    ·rename_i h0 h1 h2 h
     simp only [wO,false_iff]
     unfold ovI qY at *
     omega
    ·rename_i h0 h1 h2 h
     simp only [Ae,wO,or_false]
     cases c
     ·simp only [Bool.false_eq_true,false_and,not_false_eq_true,and_true]
      unfold ovI qY at *
      omega
     ·simp only [true_and] at *
      unfold ovI qY at *
      omega
theorem LM {g:Int} {c:Bool} {r o:aF} (hg:0≤g) (hr:0<r.W) (ho:0<o.W) (hr':0<r.H) (ho':0<o.H) {x y:Int} (h1:Ic g c r o x (y-1)) (h2:¬ Ic g c r o x y) :
  y=o.Y+o.H-r.Y∨y=o.Y+o.H+g-r.Y∨(c=true∧y=o.Y-r.H-r.Y):=by
 unfold Ic ovI qY at *
 cases c
 ·simp only [Bool.false_eq_true,false_and,not_false_eq_true,and_true,or_false] at *
  omega
 ·simp only [true_and] at *
  omega
def Fe (l:List aF) (obs:List (aF×Int×Bool)) (m hx hy:Int) (x y:Int):Prop:=
 m≤x∧x≤hx∧m≤y∧y≤hy∧∀ o ∈ obs,∀ r ∈ l,¬ Ic o.2.1 o.2.2 r o.1 x y
def JH (l:List aF) (obs:List (aF×Int×Bool)) (ys:List Int):Prop:=
 ∀ o ∈ obs,∀ r ∈ l,o.1.Y+o.1.H-r.Y ∈ ys∧o.1.Y+o.1.H+o.2.1-r.Y ∈ ys∧(o.2.2=true→o.1.Y-r.H-r.Y ∈ ys)
def JI (obs:List (aF×Int×Bool)):Prop:=∀ o ∈ obs,0<o.1.W∧0<o.1.H∧0≤o.2.1
def JJ (l:List aF):Prop:=∀ r ∈ l,0<r.W∧0<r.H
theorem down {l:List aF} {obs:List (aF×Int×Bool)} {m hx hy:Int} (pl:JJ l) (po:JI obs) {ys:List Int} (hm:m ∈ ys) (hc:JH l obs ys):∀ (n:Nat) (x y:Int),(y-m).toNat≤n→Fe l obs m hx hy x y→∃ y' ∈ ys,y'≤y∧Fe l obs m hx hy x y'
 | 0,x,y,hn,h=>⟨m,hm,by have:=h.2.2.1;omega,by have:=h.2.2.1;rw [show m=y by omega];rw [show m=y by omega] at h;exact h⟩
 | n+1,x,y,hn,h=>by
   rcases Classical.em (y=m) with e | e
   ·subst e;exact ⟨y,hm,Int.le_refl y,h⟩
   rcases Classical.em (Fe l obs m hx hy x (y-1)) with f | f
   ·obtain ⟨y',h1,h2,h3⟩:=down pl po hm hc n x (y-1) (by omega) f
    exact ⟨y',h1,by omega,h3⟩
   ·obtain ⟨a1,a2,a3,a4,a5⟩:=h
    have:∃ o ∈ obs,∃ r ∈ l,Ic o.2.1 o.2.2 r o.1 x (y-1):=by
     refine Classical.byContradiction fun q=>f ⟨a1,a2,by omega,by omega,fun o ho r hr hb=>q ⟨o,ho,r,hr,hb⟩⟩
    obtain ⟨o,ho,r,hr,hb⟩:=this
    obtain ⟨p1,p2,p3⟩:=po o ho
    obtain ⟨r1,r2⟩:=pl r hr
    obtain ⟨c1,c2,c3⟩:=hc o ho r hr
    refine ⟨y, ?_,Int.le_refl y,a1,a2,a3,a4,a5⟩
    rcases LM p3 r1 p1 r2 p2 hb (a5 o ho r hr) with e | e | ⟨e',e⟩
    ·rw [e];exact c1
    ·rw [e];exact c2
    ·rw [e];exact c3 e'
def Lst (P:Int→Int→Prop):Option (Int×Int)→Prop
 | none=>∀ x y,¬ P x y
 | some p=>P p.1 p.2∧∀ x y,P x y→p.2<y∨(p.2=y∧p.1≤x)
theorem Sf {P:Int→Int→Prop} {a b:Option (Int×Int)} (ha:Lst P a) (hb:Lst P b):a=b:=by
 cases a with
 | none=>cases b with
   | none=>rfl
   | some q=>exact absurd hb.1 (ha _ _)
 | some p=>cases b with
   | none=>exact absurd ha.1 (hb _ _)
   | some q =>
     have h1:=ha.2 _ _ hb.1
     have h2:=hb.2 _ _ ha.1
     congr 1
     obtain ⟨p1,p2⟩:=p
     obtain ⟨q1,q2⟩:=q
     simp only at h1 h2
     rw [Prod.mk.injEq]
     omega
def La (l:List (Int×Int)) (m x:Int):Prop:=m≤x∧¬ inS l x∧∀ z,m≤z→z<x→inS l z
theorem Vl {l l':List (Int×Int)} (h:∀ x,inS l x↔inS l' x) {m x x':Int} (h1:La l m x) (h2:La l' m x'):x=x':=by
 obtain ⟨a1,a2,a3⟩:=h1
 obtain ⟨b1,b2,b3⟩:=h2
 rcases Int.lt_or_le x x' with q | q
 ·exact absurd ((h x).2 (b3 x a1 q)) a2
 ·rcases Int.lt_or_le x' x with r | r
  ·exact absurd ((h x').1 (a3 x' b1 r)) b2
  ·omega
def scan (f:Int→Int) (hx:Int):List Int→Option (Int×Int)
 | []=>none
 | y::t=>if f y≤hx then some (f y,y) else scan f hx t
theorem Uw {f:Int→Int} {hx:Int}:∀ {ys:List Int} {p:Int×Int},ys.Pairwise (fun a b=>a<b)→scan f hx ys=some p→p.2 ∈ ys∧p.1=f p.2∧f p.2≤hx∧∀ y ∈ ys,y<p.2→¬ f y≤hx
 | [],p,_,h=>by cases h
 | y::t,p,hp,h=>by
   unfold scan at h
   have hh:=List.pairwise_cons.1 hp
   split at h
   ·rename_i q
    injection h with h;subst h
    exact ⟨List.mem_cons_self,rfl,q,fun z hz hl=>by
     rcases List.mem_cons.1 hz with e | e
     ·simp only at hl;omega
     ·have:=hh.1 z e;simp only at hl;omega⟩
   ·rename_i q
    obtain ⟨a1,a2,a3,a4⟩:=Uw hh.2 h
    refine ⟨List.mem_cons_of_mem _ a1,a2,a3,fun z hz hl=>?_⟩
    rcases List.mem_cons.1 hz with e | e
    ·rw [e];exact q
    ·exact a4 z e hl
theorem Uv {f:Int→Int} {hx:Int}:∀ {ys:List Int},scan f hx ys=none→∀ y ∈ ys,¬ f y≤hx
 | [],_,y,hy=>by cases hy
 | z::t,h,y,hy=>by
   unfold scan at h
   split at h
   ·cases h
   ·rename_i q
    rcases List.mem_cons.1 hy with e | e
    ·rw [e];exact q
    ·exact Uv h y e
theorem Xt {l:List aF} {obs:List (aF×Int×Bool)} {m hx hy:Int} (pl:JJ l) (po:JI obs) {ys:List Int} (ha:ys.Pairwise fun a b=>a<b) (hm:m ∈ ys) (hc:JH l obs ys) {f:Int→Int}
  {sp:Int→List (Int×Int)} (hf:∀ y,m≤y→y≤hy→La (sp y) m (f y)) (hs:∀ x y,inS (sp y) x↔∃ o ∈ obs,∃ r ∈ l,Ic o.2.1 o.2.2 r o.1 x y) :
  Lst (Fe l obs m hx hy) (scan f hx (ys.filter fun y=>decide (m≤y)&&decide (y≤hy))):=by
 have mem:∀ y,y ∈ (ys.filter fun y=>decide (m≤y)&&decide (y≤hy))↔y ∈ ys∧m≤y∧y≤hy:=fun y=>by
  rw [List.mem_filter,Bool.and_eq_true,decide_eq_true_eq,decide_eq_true_eq]
 have fe:∀ y,m≤y→y≤hy→f y≤hx→Fe l obs m hx hy (f y) y:=fun y h1 h2 h3=>by
  obtain ⟨a1,a2,a3⟩:=hf y h1 h2
  exact ⟨a1,h3,h1,h2,fun o ho r hr hb=>a2 ((hs _ _).2 ⟨o,ho,r,hr,hb⟩)⟩
 have fm:∀ x y,Fe l obs m hx hy x y→f y≤x:=fun x y h=>by
  obtain ⟨h1,h2,h3,h4,h5⟩:=h
  obtain ⟨a1,a2,a3⟩:=hf y h3 h4
  rcases Int.lt_or_le x (f y) with q | q
  ·obtain ⟨o,ho,r,hr,hb⟩:=(hs _ _).1 (a3 x h1 q)
   exact absurd hb (h5 o ho r hr)
  ·exact q
 have dn:∀ x y,Fe l obs m hx hy x y→∃ y',y' ∈ (ys.filter fun y=>decide (m≤y)&&decide (y≤hy))∧y'≤y∧f y'≤hx:=fun x y h=>by
  obtain ⟨y',h1,h2,h3⟩:=down pl po hm hc _ x y (Nat.le_refl _) h
  exact ⟨y',(mem y').2 ⟨h1,h3.2.2.1,h3.2.2.2.1⟩,h2,Int.le_trans (fm x y' h3) h3.2.1⟩
 cases e:scan f hx (ys.filter fun y=>decide (m≤y)&&decide (y≤hy)) with
 | none =>
   intro x y h
   obtain ⟨y',h1,_,h3⟩:=dn x y h
   exact Uv e y' h1 h3
 | some p =>
   obtain ⟨a1,a2,a3,a4⟩:=Uw (ha.filter _) e
   obtain ⟨_,b1,b2⟩:=(mem _).1 a1
   refine ⟨by rw [a2];exact fe _ b1 b2 a3,fun x y h=>?_⟩
   rcases Int.lt_or_le y p.2 with q | q
   ·obtain ⟨y',h1,h2,h3⟩:=dn x y h
    exact absurd h3 (a4 y' h1 (by omega))
   ·rcases Int.lt_or_le p.2 y with r | r
    ·exact .inl r
    ·have:p.2=y:=by omega
     refine .inr ⟨this, ?_⟩
     rw [a2,this];exact fm x y h
set_option maxRecDepth 10000
theorem IM (h:List Int):sA h=Gb (brL eD) h:=by kernel_rfl
theorem OP (x y:Int):eD x y=some (decide (x<y)):=by
 unfold eD sD
 have e:∀ z:Int,(z != z)=false:=fun z=>by simp
 simp only [e,Option.bind_some,Bool.false_eq_true,if_false]
theorem brO (β:Type) (x y:Int) (k:Bool→Option β):brL eD β x y k=k (ltI x y):=by
 unfold brL ltI
 rw [OP,Option.bind_some]
theorem IP {l:List Int} (hl:l.length≤1073741824):∃ r,sA l=some r∧r.Perm l∧r.Pairwise fun x y=>ltI y x=false:=by
 rw [IM]
 exact Pp (P:=fun _=>True) (d:=0) (fun β x y k _ _=>brO β x y k) MJ ⟨by omega,fun _ _ _=>trivial⟩
theorem IQ (h:List aH):bZ h=Gb (brC (bM eK.mk)) h:=by kernel_rfl
def ltS (x y:aH):Bool:=decide (x.lo<y.lo∨(x.lo=y.lo∧x.hi<y.hi))
theorem PN:Ob ltS where
 asymm x y h:=by unfold ltS at *;simp at *;omega
 neg x y z h:=by unfold ltS at *;simp at *;omega
theorem PS (x y:aH):bM eK.mk x y=some (if x.lo<y.lo then -1 else if y.lo<x.lo then 1 else if x.hi<y.hi then -1 else if y.hi<x.hi then 1 else 0):=by
 unfold bM Ma
 simp only [PR,Option.bind_some]
 have key:∀ a b:Int,aM (iO [a,b]) 0=some (if a≠0 then .inl a else if b≠0 then .inl b else .inr ()):=fun a b=>by
  have h0:iO [a,b] 0=if a≠0 then some (.inr (.inl a)) else some (.inl 1):=by
   unfold iO
   have:idx [a,b] 0=some a:=rfl
   by_cases h:a=0 <;> simp [this,h] <;> rfl
  have h1:iO [a,b] 1=if b≠0 then some (.inr (.inl b)) else some (.inl 2):=by
   unfold iO
   have:idx [a,b] 1=some b:=rfl
   by_cases h:b=0 <;> simp [this,h] <;> rfl
  have h2:iO [a,b] 2=some (.inr (.inr ())):=by
   unfold iO;simp
  by_cases ha:a=0
  ·have e0:iO [a,b] 0=some (.inl 1):=by rw [h0,if_neg (by simpa using ha)]
   by_cases hb:b=0
   ·have e1:iO [a,b] 1=some (.inl 2):=by rw [h1,if_neg (by simpa using hb)]
    rw [eI e0,eI e1,cF h2,if_neg (by simpa using ha),if_neg (by simpa using hb)]
   ·have e1:iO [a,b] 1=some (.inr (.inl b)):=by rw [h1,if_pos hb]
    rw [eI e0,cF e1,if_neg (by simpa using ha),if_pos hb]
  ·have e0:iO [a,b] 0=some (.inr (.inl a)):=by rw [h0,if_pos ha]
   rw [cF e0,if_pos ha]
 rw [key]
 by_cases c1:x.lo<y.lo
 ·simp [c1]
 ·by_cases c2:y.lo<x.lo
  ·simp [c1,c2]
  ·by_cases c3:x.hi<y.hi
   ·simp [c1,c2,c3]
   ·by_cases c4:y.hi<x.hi <;> simp [c1,c2,c3,c4]
theorem brS (β:Type) (x y:aH) (k:Bool→Option β):brC (bM eK.mk) β x y k=k (ltS x y):=by
 unfold brC ltS
 rw [PS,Option.bind_some]
 congr 1
 by_cases c1:x.lo<y.lo
 ·simp [c1]
 ·by_cases c2:y.lo<x.lo
  ·have:¬ x.lo=y.lo:=by omega
   simp [c1,c2,this]
  ·have:x.lo=y.lo:=by omega
   by_cases c3:x.hi<y.hi
   ·simp [this,c3]
   ·by_cases c4:y.hi<x.hi <;> simp [this,c3,c4]
theorem IU {l:List aH} (hl:l.length≤1073741824):∃ r,bZ l=some r∧r.Perm l:=by
 rw [IQ]
 obtain ⟨r,h1,h2,_⟩:=Pp (P:=fun _=>True) (d:=⟨0,0⟩) (fun β x y k _ _=>brS β x y k) PN (l:=l) ⟨by omega,fun _ _ _=>trivial⟩
 exact ⟨r,h1,h2⟩
def KD {α:Type} (q:α→Option Bool) (s:List α):Int→Option (Int ⊕ (Int ⊕ Unit)):=fun k =>
 if decide (k<(s.length:Int)) then ((idx s k).bind fun x=>(q x).bind fun r=>if r then some (.inr (.inl k)) else some (.inl (aJ k 1))) else some (.inr (.inr ()))
def KE {α:Type} (s:Int×Int×List α):Int×List α→Option (Int×Int×List α ⊕ Int×List α):=fun j=>some (.inl (j.1,aJ s.2.1 1,j.2))
def MZ {α:Type} (q:α→Option Bool):Int×Int×List α→Option (Int×Int×List α ⊕ Int×List α):=fun s =>
 if decide (s.2.1<(s.2.2.length:Int)) then ((idx s.2.2 s.2.1).bind fun x=>(q x).bind fun r=>if !r then ((idx s.2.2 s.1).bind fun _=>KE s (aJ s.1 1,List.set s.2.2 (Int.toNat s.1) x)) else KE s (s.1,s.2.2)) else some (.inr (s.1,s.2.2))
def df {α:Type} (q:α→Option Bool) (z:α) (h:List α):Option (List α):=
 ((aM (KD q h) 0).bind fun x=>match x with | .inl j=>some j | .inr _=>some (-1)).bind fun r2=>if (r2==(-1)) then (some h) else ((aM (MZ q) (r2,(aJ r2 1),h)).bind fun a0=>if (decide ((0:Int)≤a0.1)&&(decide (a0.1≤(a0.2.length:Int))&&decide ((a0.2.length:Int)≤(a0.2.length:Int)))) then ((slc (cpy a0.2 (Int.toNat a0.1) (List.replicate (Int.toNat (a0.2.length:Int)-Int.toNat a0.1) z)) 0 a0.1).bind fun a1=>some a1) else none)
theorem GR {α R:Type} (l:List α) (body:Int→Option (Int ⊕ R)) (q:α→Bool) (yes:Nat→R) (no:R) (step:∀ (k:Nat) (x:α),l[k]?=some x→body k=if q x then some (.inr (yes k)) else some (.inl ((k+1:Nat):Int))) (fin:body (l.length:Int)=some (.inr no)) :
  aM body 0=some (match l.findIdx? q with | some i=>yes i | none=>no):=by
 have key:∀ (m k:Nat),k+m=l.length→aM body (k:Int)=some (match (l.drop k).findIdx? q with | some i=>yes (k+i) | none=>no):=by
  intro m
  induction m with
  | zero =>
    intro k h;obtain rfl:k=l.length:=by omega
    rw [List.drop_length,cF fin];rfl
  | succ m ih =>
    intro k h
    have hk:k<l.length:=by omega
    have hx:l[k]?=some l[k]:=by simp
    have hs:=step k _ hx
    rw [List.drop_eq_getElem_cons hk,List.findIdx?_cons]
    cases hq:q l[k] with
    | true=>rw [hq] at hs;rw [cF hs];simp
    | false =>
      rw [hq] at hs
      rw [eI hs,ih (k+1) (by omega)]
      cases (l.drop (k+1)).findIdx? q with
      | none=>rfl
      | some i=>simp;congr 1;omega
 have:=key l.length 0 (by omega)
 simpa using this
theorem LZ {α:Type} {q:α→Option Bool} {p:α→Bool} (hq:∀ x,q x=some (p x)) (z:α) {h:List α} (hl:h.length≤100000000):df q z h=some (h.filter fun x=>!p x):=by
 unfold df
 rw [GR h (KD q h) p (fun k=>.inl (k:Int)) (.inr ()) (fun k x hx=>?s) ?f]
 case s =>
  have hk:=bY hx
  have hd:decide ((k:Int)<(h.length:Int))=true:=by simp [hk]
  unfold KD
  simp only [hd,if_true,bE hx,Option.bind_some,hq,bT k (by omega)]
 case f=>simp [KD]
 cases hf:h.findIdx? p with
 | none =>
   rw [List.findIdx?_eq_none_iff] at hf
   have:h.filter (fun x=>!p x)=h:=by
    rw [List.filter_eq_self];intro x hx;rw [hf x hx];rfl
   rw [this];rfl
 | some i =>
   obtain ⟨hi,hpi,hmin⟩:=List.findIdx?_eq_some_iff_getElem.1 hf
   have e1:((i:Int)==-1)=false:=by
    rw [beq_eq_false_iff_ne];omega
   simp only [Option.bind_some,e1,Bool.false_eq_true,if_false]
   have fst:(h.take (i+1)).filter (fun x=>!p x)=h.take i:=by
    rw [List.take_add_one,List.getElem?_eq_getElem hi,List.filter_append]
    have a1:(h.take i).filter (fun x=>!p x)=h.take i:=by
     rw [List.filter_eq_self]
     intro x hx
     obtain ⟨k,hk,rfl⟩:=List.mem_iff_getElem.1 hx
     rw [List.length_take] at hk
     rw [List.getElem_take]
     have:=hmin k (by omega)
     simpa using this
    rw [a1]
    simp [hpi]
   obtain ⟨r,q1,w,s,q2,q3,q4⟩:=nD (fun t:Int×Int×List α=>((h.length:Int)-t.2.1).toNat)
    (fun t:Int×Int×List α=>∃ w k:Nat,t.1=w∧t.2.1=k∧k≤h.length∧w<k∧t.2.2.length=h.length∧t.2.2.take w=(h.take k).filter (fun x=>!p x)∧t.2.2.drop k=h.drop k)
    (fun r:Int×List α=>∃ (w:Nat) (s:List α),r=((w:Int),s)∧w≤s.length∧s.take w=h.filter fun x=>!p x) (MZ q) (by
     rintro ⟨w',k',s⟩ ⟨w,k,hw',hk',hk,hwk,hs,ht,hd⟩
     simp only at hw' hk' hs ht hd ⊢
     subst hw' hk'
     unfold MZ
     by_cases hkn:k<h.length
     ·left
      have hdc:decide ((k:Int)<(s.length:Int))=true:=by simp;omega
      obtain ⟨x,hx⟩:∃ x,h[k]?=some x:=⟨_,List.getElem?_eq_getElem hkn⟩
      have hsx:s[k]?=some x:=by
       have:=congrArg (fun l=>l[0]?) hd
       simp only [List.getElem?_drop,Nat.add_zero] at this
       rw [this];exact hx
      obtain ⟨y,hy⟩:∃ y,s[w]?=some y:=⟨_,List.getElem?_eq_getElem (by omega)⟩
      have htk:h.take (k+1)=h.take k++[x]:=by rw [List.take_add_one,hx];rfl
      have hdk:s.drop (k+1)=h.drop (k+1):=by
       have:=congrArg List.tail hd
       simpa [List.tail_drop] using this
      simp only [hdc,if_true,bE hsx,Option.bind_some,hq]
      cases hpx:p x with
      | true =>
        refine ⟨((w:Int),((k+1:Nat):Int),s),by simp [KE,bT k (by omega)],⟨w,k+1,rfl,rfl,by omega,by omega,hs, ?_,hdk⟩,by simp only;omega⟩
        rw [htk,List.filter_append,← ht];simp [hpx]
      | false =>
        refine ⟨(((w+1:Nat):Int),((k+1:Nat):Int),s.set w x),by simp [KE,bE hy,bT k (by omega),bT w (by omega)],⟨w+1,k+1,rfl,rfl,by omega,by omega,by simp [hs], ?_, ?_⟩,by simp only;omega⟩
        ·rw [htk,List.filter_append,← ht,List.take_add_one,List.take_set_of_le (Nat.le_refl w)]
         rw [List.getElem?_set_self (by omega)]
         simp [hpx]
        ·rw [List.drop_set_of_lt (by omega),hdk]
     ·right
      have hdc:decide ((k:Int)<(s.length:Int))=false:=by simp;omega
      refine ⟨((w:Int),s),by simp only [hdc,Bool.false_eq_true,if_false],w,s,rfl,by omega, ?_⟩
      rw [ht,show k=h.length by omega,List.take_length]) ((i:Int),aJ (i:Int) 1,h)
    ⟨i,i+1,rfl,by simp only [bT i (by omega)],hi,Nat.lt_succ_self i,rfl,by rw [fst],rfl⟩
   subst q2
   rw [q1]
   simp only [Option.bind_some,Int.toNat_natCast]
   have c1:(decide ((0:Int)≤(w:Int))&&(decide ((w:Int)≤(s.length:Int))&&decide ((s.length:Int)≤(s.length:Int))))=true:=by simp;exact q3
   rw [c1,if_pos rfl]
   unfold slc cpy
   rw [if_pos ⟨Int.le_refl 0,by omega,by simp;omega⟩]
   simp only [Option.bind_some,Int.toNat_natCast,Int.toNat_zero,List.drop_zero]
   rw [List.append_assoc,List.take_append_of_le_length (by rw [List.length_take];omega),List.take_take,Nat.min_self,q4]
theorem IW (l:List aH) (hl:l.length≤1000):yQ l=some (l.filter fun s=>!decide (aI s.hi s.lo<2)):=by
 have h:yQ l=(df Al ⟨0,0⟩ l).bind fun r=>some r:=rfl
 rw [h,LZ (q:=Al) (p:=fun s=>decide (aI s.hi s.lo<2)) (fun x=>rfl) _ (by omega)]
 rfl
theorem KB (a:List aF) (b:List aT) (c d e f g i:Int) (l:List Int) (hl:l.length≤100000000):cQ a b c d e f g i l=some (l.filter fun y=>!(decide (y<d) || decide (y>aI (aJ d f) i))):=by
 have h:cQ a b c d e f g i l=df (fun y=>mL y a b c d e f g i) 0 l:=rfl
 rw [h,LZ (p:=fun y=>decide (y<d) || decide (y>aI (aJ d f) i)) (fun y=>?_) _ hl]
 unfold mL
 cases decide (y<d) <;> rfl
end Go.SM
namespace Go.SM
open Go Go.VI Go.Cells
def mkS (p:Int×Int):aH:=⟨p.1,p.2⟩
def inN (l:List aH) (x:Int):Prop:=∃ s ∈ l,s.lo<x∧x<s.hi
theorem KQ (l:List (Int×Int)) (x:Int):inN (l.map mkS) x↔inS l x:=by
 unfold inN inS
 constructor
 ·rintro ⟨s,hs,h⟩
  obtain ⟨p,hp,rfl⟩:=List.mem_map.1 hs
  exact ⟨p,hp,h⟩
 ·rintro ⟨p,hp,h⟩;exact ⟨mkS p,List.mem_map.2 ⟨p,hp,rfl⟩,h⟩
structure BO (o:aT):Prop where
 v:vR o.aF
 g:0≤o.gap∧o.gap≤14400
def Jx (s:Int×Int):Bool:=!decide (s.2-s.1<2)
theorem IV {o:aT} {r:aF} {y:Int} (ho:BO o) (hr:vR r) (hy : -4194304≤y∧y≤4194304):sU o r y=some (((xA o.gap o.common r o.aF y).filter Jx).map mkS):=by
 obtain ⟨hov,hg⟩:=ho
 unfold vR at hov hr
 unfold sU
 have sp:∀ l:List (Int×Int),l.length≤1000→(∀ p ∈ l,-16777216≤p.1∧p.1≤16777216∧-16777216≤p.2∧p.2≤16777216)→yQ (l.map mkS)=some ((l.filter Jx).map mkS):=fun l hl hp=>by
  rw [IW _ (by rw [List.length_map];exact hl),List.filter_map]
  congr 2
  refine List.filter_congr fun p hpm=>?_
  have:=hp p hpm
  have e:aI (mkS p).hi (mkS p).lo=p.2-p.1:=bF (a:=p.2) (b:=p.1) (by omega) (by omega)
  simp only [Function.comp,Jx,e]
 simp (disch:=omega) only [aR,bF,Ij]
 have eu:max (max 0 (o.aF.Y-r.Y-y-r.H)) (r.Y+y-o.aF.Y-o.aF.H)=qY (y+r.Y) r.H o.aF.Y o.aF.H:=by unfold qY;omega
 have ej:(if decide (r.Y+y<o.aF.Y+o.aF.H)=true then some (decide (o.aF.Y<r.Y+y+r.H)) else some false)=some (decide (ovI (y+r.Y) r.H o.aF.Y o.aF.H)):=by
  unfold ovI
  by_cases h1:r.Y+y<o.aF.Y+o.aF.H
  ·have h1':y+r.Y<o.aF.Y+o.aF.H:=by omega
   simp only [h1,h1',decide_true,if_true,true_and]
   congr 1
   exact decide_eq_decide.2 (by omega)
  ·have h1':¬ y+r.Y<o.aF.Y+o.aF.H:=by omega
   simp [h1,h1']
 have eb:∀ a:Int,(a==0)=decide (a=0):=fun a=>by by_cases h:a=0 <;> simp [h]
 rw [ej,eu]
 generalize hu:qY (y+r.Y) r.H o.aF.Y o.aF.H=u
 have hou:ovI (y+r.Y) r.H o.aF.Y o.aF.H→u=0:=fun h=>by rw [← hu];unfold ovI at h;unfold qY;omega
 have hu0:0≤u:=by rw [← hu];unfold qY;omega
 unfold xA
 rw [hu]
 simp only [Option.bind_some,eb]
 generalize ho':decide (ovI (y+r.Y) r.H o.aF.Y o.aF.H)=ov
 have hov':ovI (y+r.Y) r.H o.aF.Y o.aF.H↔ov=true:=by rw [← ho',decide_eq_true_eq]
 simp only [hov'] at hou ⊢
 have d:∀ p q:Int×Int,(∀ z ∈ [p,q],-16777216≤z.1∧z.1≤16777216∧-16777216≤z.2∧z.2≤16777216)→True:=fun _ _ _=>trivial
 have s1:=sp [(o.aF.X-r.X-r.W-o.gap,o.aF.X+o.aF.W-r.X+o.gap)] (by simp) (by simp;omega)
 have s2:=sp [(o.aF.X-r.X-r.W-o.gap,o.aF.X-r.X-r.W),(o.aF.X+o.aF.W-r.X,o.aF.X+o.aF.W-r.X+o.gap)] (by simp) (by simp;omega)
 have s3:=sp [(o.aF.X-r.X-r.W-o.gap,o.aF.X-r.X-r.W),(o.aF.X-r.X-r.W,o.aF.X+o.aF.W-r.X),(o.aF.X+o.aF.W-r.X,o.aF.X+o.aF.W-r.X+o.gap)] (by simp) (by simp;omega)
 simp only [List.map_cons,List.map_nil,mkS] at s1 s2 s3
 simp only [s1,s2,s3,Option.bind_some]
 by_cases h1:u ≥ o.gap
 ·by_cases h2:u>0
  ·have h12:o.gap≤u∧0<u:=⟨h1,h2⟩
   simp only [h1,h2,h12,and_self,decide_true,if_true,Option.bind_some]
   rfl
  ·have hz:u=0:=by omega
   have hg0:o.gap=0:=by omega
   subst hz
   cases o.common <;> cases ov <;> simp [hg0] <;> rfl
 ·have h12:¬ (o.gap≤u∧0<u):=fun q=>h1 q.1
  have hg0:¬ o.gap=0:=by omega
  by_cases hz:u=0
  ·cases o.common <;> cases ov <;> simp [h1,hz,hg0] <;> rfl
  ·have hov0:ov=false:=by
    cases ov with
    | false=>rfl
    | true=>exact absurd (hou rfl) hz
   subst hov0
   cases o.common <;> simp [h1,hz,hg0] <;> rfl
theorem AD (g:Int) (c:Bool) (r o:aF) (y:Int):(xA g c r o y).length≤3:=by
 unfold xA
 split
 ·simp
 ·split
  ·simp
  ·split
   ·simp
   ·split <;> simp
theorem EH {o:aT} {r:aF} {y:Int} (ho:BO o) (hr:vR r):∀ s ∈ xA o.gap o.common r o.aF y,s.2≤8388608:=by
 obtain ⟨hov,hg⟩:=ho
 unfold vR at hov hr
 unfold xA
 intro s hs
 split at hs
 ·cases hs
 ·split at hs
  ·simp at hs;rcases hs with rfl | rfl | rfl <;> simp only <;> omega
  ·split at hs
   ·simp at hs;rcases hs with rfl | rfl <;> simp only <;> omega
   ·split at hs
    ·cases hs
    ·simp at hs;subst hs;simp only;omega
structure BS (s:eU):Prop where
 r:∀ r ∈ s.lS,vR r
 rl:s.lS.length≤12
 o:∀ o ∈ s.bU,BO o
 ol:s.bU.length≤1000
def Zf (l:List aT):List (aF×Int×Bool):=l.map fun o=>(o.aF,o.gap,o.common)
def Ha (s:eU) (y:Int):List (Int×Int):=s.bU.flatMap fun o=>s.lS.flatMap fun r=>(xA o.gap o.common r o.aF y).filter Jx
theorem CF {s:eU} (h:BS s) (x y:Int):inS (Ha s y) x↔∃ o ∈ Zf s.bU,∃ r ∈ s.lS,Ic o.2.1 o.2.2 r o.1 x y:=by
 have one:∀ o ∈ s.bU,∀ r ∈ s.lS,(inS ((xA o.gap o.common r o.aF y).filter Jx) x↔Ic o.gap o.common r o.aF x y):=fun o ho r hr=>by
  have b:=h.o o ho
  have v:=b.v
  have w:=h.r r hr
  unfold vR at v w
  exact (Yv _ _).trans (AB b.g.1 (by omega) (by omega) (by omega) (by omega) x y)
 unfold Ha
 constructor
 ·rintro ⟨p,hp,hx⟩
  obtain ⟨o,ho,hp⟩:=List.mem_flatMap.1 hp
  obtain ⟨r,hr,hp⟩:=List.mem_flatMap.1 hp
  exact ⟨_,List.mem_map.2 ⟨o,ho,rfl⟩,r,hr,(one o ho r hr).1 ⟨p,hp,hx⟩⟩
 ·rintro ⟨o',ho',r,hr,hb⟩
  obtain ⟨o,ho,rfl⟩:=List.mem_map.1 ho'
  obtain ⟨p,hp,hx⟩:=(one o ho r hr).2 hb
  exact ⟨p,List.mem_flatMap.2 ⟨o,ho,List.mem_flatMap.2 ⟨r,hr,hp⟩⟩,hx⟩
theorem EW {s:eU} (h:BS s) (y:Int):∀ p ∈ Ha s y,p.2≤8388608:=fun p hp=>by
 obtain ⟨o,ho,hp⟩:=List.mem_flatMap.1 hp
 obtain ⟨r,hr,hp⟩:=List.mem_flatMap.1 hp
 exact EH (h.o o ho) (h.r r hr) p (List.mem_filter.1 hp).1
theorem MX {s:eU} (h:BS s) {y:Int} (hy : -4194304≤y∧y≤4194304) {o:aT} (ho:o ∈ s.bU) (out0:List aH) (h0:out0.length≤100000) :
  aM (kV s y o) (0,out0)=some (out0++(s.lS.flatMap fun r=>(xA o.gap o.common r o.aF y).filter Jx).map mkS)∧(s.lS.flatMap fun r=>(xA o.gap o.common r o.aF y).filter Jx).length≤36:=by
 have hrl:=h.rl
 obtain ⟨a,q1,q2,q3⟩:=mF s.lS (fun k (t:List aH)=>((k:Int),t)) (kV s y o) (fun t=>t) (fun k t=>t=out0++((s.lS.take k).flatMap fun r=>(xA o.gap o.common r o.aF y).filter Jx).map mkS∧((s.lS.take k).flatMap fun r=>(xA o.gap o.common r o.aF y).filter Jx).length≤3*k) out0 (by simp)
  (fun k r t hr hI=>by
   have hk:=bY hr
   have hd:decide ((k:Int)<(s.lS.length:Int))=true:=by simp [hk]
   obtain ⟨i1,i2⟩:=hI
   have e:=IV (h.o o ho) (h.r r (List.mem_of_getElem? hr)) hy
   have l3:((xA o.gap o.common r o.aF y).filter Jx).length≤3:=Nat.le_trans (List.length_filter_le _ _) (AD _ _ _ _ _)
   unfold kV
   simp only [hd,if_true,bE hr,Option.bind_some,e,bT k (by omega)]
   rw [jZ (by rw [i1];simp only [List.length_append,List.length_map];unfold LIM;omega)]
   refine ⟨_,rfl, ?_, ?_⟩
   ·rw [fI hr,List.flatMap_append,i1];simp
   ·rw [fI hr,List.flatMap_append];simp only [List.flatMap_cons,List.flatMap_nil,List.append_nil,List.length_append];omega) (fun t _=>by simp [kV])
 rw [List.take_length] at q2 q3
 exact ⟨by rw [show ((0:Int),out0)=(((0:Nat):Int),out0) from rfl,q1,q2],by omega⟩
theorem Yn {s:eU} (h:BS s) {y:Int} (hy : -4194304≤y∧y≤4194304):∃ L,pF s y=some L∧L.length≤100000∧(∀ x,inN L x↔inS (Ha s y) x)∧∀ p ∈ L,p.hi≤8388608:=by
 have hol:=h.ol
 obtain ⟨a,q1,q2,q3⟩:=mF s.bU (fun k (t:List aH)=>((k:Int),t)) (pJ s y) (fun t=>t) (fun k t=>t=((s.bU.take k).flatMap fun o=>s.lS.flatMap fun r=>(xA o.gap o.common r o.aF y).filter Jx).map mkS∧t.length≤36*k) [] (by simp)
  (fun k o t ho hI=>by
   have hk:=bY ho
   have hd:decide ((k:Int)<(s.bU.length:Int))=true:=by simp [hk]
   obtain ⟨i1,i2⟩:=hI
   obtain ⟨e1,e2⟩:=MX h hy (List.mem_of_getElem? ho) t (by omega)
   unfold pJ
   simp only [hd,if_true,bE ho,Option.bind_some,e1,bT k (by omega)]
   refine ⟨_,rfl, ?_, ?_⟩
   ·rw [fI ho,List.flatMap_append,i1];simp
   ·simp only [List.length_append,List.length_map];omega) (fun t _=>by simp [pJ])
 rw [List.take_length] at q2
 obtain ⟨r,r1,r2⟩:=IU (l:=a) (by omega)
 refine ⟨r, ?_,by rw [r2.length_eq];omega,fun x=>?_,fun p hp=>?_⟩
 ·unfold pF
  rw [show ((0:Int),([]:List aH))=(((0:Nat):Int),[]) from rfl,q1]
  simp only [Option.bind_some,r1]
 ·rw [← KQ]
  have:a=(Ha s y).map mkS:=q2
  rw [← this]
  unfold inN
  constructor
  ·rintro ⟨t,ht,hh⟩;exact ⟨t,r2.mem_iff.1 ht,hh⟩
  ·rintro ⟨t,ht,hh⟩;exact ⟨t,r2.mem_iff.2 ht,hh⟩
 ·have:p ∈ (Ha s y).map mkS:=by
   have e:a=(Ha s y).map mkS:=q2
   rw [← e];exact r2.mem_iff.1 hp
  obtain ⟨z,hz,rfl⟩:=List.mem_map.1 this
  exact EW h y z hz
theorem HX (L:List (Int×Int)) (hL:L.length≤100000) {m x:Int} (hm:m≤x) (hx:∀ z,m≤z→z<x→inS L z) (hB:x≤8388608) (hhi:∀ p ∈ L,p.2≤8388608) (body:(Int×Bool×Int)→Option ((Int×Bool×Int) ⊕ (Int×Bool)))
  (step:∀ (k:Nat) p (x:Int) b,L[k]?=some p→body (x,b,(k:Int))=some (.inl (if p.1<x∧x<p.2 then (p.2,true,((k+1:Nat):Int)) else (x,b,((k+1:Nat):Int))))) (fin:∀ (x:Int) b,body (x,b,(L.length:Int))=some (.inr (x,b))) :
  ∃ x' b',aM body (x,false,0)=some (x',b')∧x≤x'∧x'≤8388608∧(∀ z,m≤z→z<x'→inS L z)∧(b'=false→x'=x∧¬ inS L x)∧(b'=true→x<x'):=by
 obtain ⟨a,q1,q2,q3,q4,q5,q6⟩:=mF L (fun k (t:Int×Bool)=>(t.1,t.2,(k:Int))) body (fun t=>t) (fun k t=>x≤t.1∧t.1≤8388608∧(∀ z,m≤z→z<t.1→inS L z)∧(t.2=false→t.1=x∧∀ p ∈ L.take k,¬ (p.1<x∧x<p.2))∧(t.2=true→x<t.1)) (x,false) ⟨Int.le_refl x,hB,hx,fun _=>⟨rfl,fun p hp=>by simp at hp⟩,fun q=>by cases q⟩
  (fun k p t hp hI=>by
   obtain ⟨i1,i2,i3,i4,i5⟩:=hI
   have hpm:=List.mem_of_getElem? hp
   by_cases hc:p.1<t.1∧t.1<p.2
   ·refine ⟨(p.2,true),by rw [step k p _ _ hp,if_pos hc],by simp only;omega,hhi p hpm,fun z z1 z2=>?_,fun q=>absurd q (by simp),fun _=>by simp only;omega⟩
    rcases Int.lt_or_le z t.1 with w | w
    ·exact i3 z z1 w
    ·exact ⟨p,hpm,by omega,z2⟩
   ·refine ⟨t,by rw [step k p _ _ hp,if_neg hc],i1,i2,i3,fun q=>⟨(i4 q).1,fun p' hp'=>?_⟩,i5⟩
    rw [fI hp] at hp'
    rcases List.mem_append.1 hp' with w | w
    ·exact (i4 q).2 p' w
    ·simp at w;subst w
     rw [(i4 q).1] at hc;exact hc) (fun t _=>by rw [fin])
 rw [List.take_length] at q5
 refine ⟨a.1,a.2,q1,q2,q3,q4,fun q=>⟨(q5 q).1,fun ⟨p,hp,hh⟩=>(q5 q).2 p hp hh⟩,q6⟩
theorem Ut (L:List (Int×Int)) (hL:L.length≤100000) {m:Int} (hm:m≤8388608) (hhi:∀ p ∈ L,p.2≤8388608) (inner:(Int×Bool×Int)→Option ((Int×Bool×Int) ⊕ (Int×Bool))) (body:(Int×Bool)→Option ((Int×Bool) ⊕ Int))
  (step:∀ (k:Nat) p (x:Int) b,L[k]?=some p→inner (x,b,(k:Int))=some (.inl (if p.1<x∧x<p.2 then (p.2,true,((k+1:Nat):Int)) else (x,b,((k+1:Nat):Int))))) (fin:∀ (x:Int) b,inner (x,b,(L.length:Int))=some (.inr (x,b)))
  (ht:∀ x,body (x,true)=(aM inner (x,false,0)).bind fun r=>some (.inl (r.1,r.2))) (hf:∀ x,body (x,false)=some (.inr x)) :
  ∃ x,aM body (m,true)=some x∧m≤x∧¬ inS L x∧∀ z,m≤z→z<x→inS L z:=by
 obtain ⟨r,q1,q2⟩:=nD (fun t:Int×Bool=>(8388608-t.1).toNat*2+(if t.2 then 1 else 0))
  (fun t:Int×Bool=>m≤t.1∧t.1≤8388608∧(∀ z,m≤z→z<t.1→inS L z)∧(t.2=false→¬ inS L t.1))
  (fun x=>m≤x∧¬ inS L x∧∀ z,m≤z→z<x→inS L z) body (by
   rintro ⟨x,b⟩ ⟨i1,i2,i3,i4⟩
   simp only at i1 i2 i3 i4 ⊢
   cases b with
   | true =>
     left
     obtain ⟨x',b',w1,w2,w3,w4,w5,w6⟩:=HX L hL i1 i3 i2 hhi inner step fin
     refine ⟨(x',b'),by rw [ht,w1];rfl,⟨by simp only;omega,w3,w4,fun q=>by obtain ⟨e,hn⟩:=w5 q;simp only;rw [e];exact hn⟩, ?_⟩
     cases b' with
     | true=>have:=w6 rfl;simp only [if_true];omega
     | false=>obtain ⟨e,_⟩:=w5 rfl;subst e;simp
   | false=>right;exact ⟨x,hf x,i1,i4 rfl,i3⟩) (m,true)
  ⟨Int.le_refl m,hm,fun z z1 z2=>by simp only at z2;omega,fun q=>by cases q⟩
 exact ⟨r,q1,q2⟩
theorem NA {L:List aH} {k:Nat} {p:Int×Int} (h:(L.map fun s=>(s.lo,s.hi))[k]?=some p):∃ s,L[k]?=some s∧p=(s.lo,s.hi):=by
 rw [List.getElem?_map] at h
 cases e:L[k]? with
 | none=>rw [e] at h;cases h
 | some s=>rw [e] at h;exact ⟨s,rfl,(Option.some.inj h).symm⟩
theorem NB (L:List aH) (x:Int):inS (L.map fun s=>(s.lo,s.hi)) x↔inN L x:=by
 unfold inN inS
 constructor
 ·rintro ⟨p,hp,h⟩
  obtain ⟨s,hs,rfl⟩:=List.mem_map.1 hp
  exact ⟨s,hs,h⟩
 ·rintro ⟨s,hs,h⟩;exact ⟨(s.lo,s.hi),List.mem_map.2 ⟨s,hs,rfl⟩,h⟩
theorem FU (L:List aH) (hL:L.length≤100000) {m hi:Int} (hm:m≤8388608) (hhi:∀ p ∈ L,p.hi≤8388608):∃ x,En L m hi=some (x,decide (x≤hi))∧La (L.map fun s=>(s.lo,s.hi)) m x:=by
 obtain ⟨x,h1,h2⟩:=Ut (L.map fun s=>(s.lo,s.hi)) (by rw [List.length_map];exact hL) hm (fun p hp=>by obtain ⟨s,hs,rfl⟩:=List.mem_map.1 hp;exact hhi s hs) (Cb L m hi) (Cc L m hi) (fun k p x b hp=>by
  obtain ⟨s,hs,rfl⟩:=NA hp
  have hk:=bY hs
  have hd:decide ((k:Int)<(L.length:Int))=true:=by simp [hk]
  unfold Cb Ca
  simp only [hd,if_true,bE hs,Option.bind_some,bT k (by omega)]
  by_cases c1:s.lo<x
  ·by_cases c2:x<s.hi <;> simp [c1,c2]
  ·simp [c1]) (fun x b=>by simp [Cb]) (fun x=>by simp [Cc]) (fun x=>by simp [Cc])
 exact ⟨x,by unfold En;rw [h1];rfl,h2⟩
def Fu (o:aT) (r:aF):List Int:=[o.aF.Y+o.aF.H+0-r.Y,o.aF.Y-0-r.Y-r.H,o.aF.Y+o.aF.H+o.gap-r.Y,o.aF.Y-o.gap-r.Y-r.H]
theorem PT {o:aT} {r:aF} (ho:BO o) (hr:vR r) (out0:List Int) (h0:out0.length≤100000000):aM (eV o r) (0,out0)=some (out0++Fu o r):=by
 obtain ⟨hov,hg⟩:=ho
 unfold vR at hov hr
 have s0:eV o r (0,out0)=some (.inl (1,out0++[o.aF.Y+o.aF.H+0-r.Y,o.aF.Y-0-r.Y-r.H])):=by
  unfold eV
  have i0:idx [0,o.gap] 0=some 0:=rfl
  have d0:decide ((0:Int)<(([0,o.gap]:List Int).length:Int))=true:=rfl
  simp only [i0,d0,if_true,Option.bind_some]
  rw [jZ (by simp [LIM];omega)]
  simp (disch:=omega) only [aR,bF,Option.bind_some]
  rfl
 have s1:∀ out:List Int,out.length≤100000010→eV o r (1,out)=some (.inl (2,out++[o.aF.Y+o.aF.H+o.gap-r.Y,o.aF.Y-o.gap-r.Y-r.H])):=fun out hout=>by
  unfold eV
  have i0:idx [0,o.gap] 1=some o.gap:=rfl
  have d0:decide ((1:Int)<(([0,o.gap]:List Int).length:Int))=true:=rfl
  simp only [i0,d0,if_true,Option.bind_some]
  rw [jZ (by simp [LIM];omega)]
  simp (disch:=omega) only [aR,bF,Option.bind_some]
  rfl
 have s2:∀ out:List Int,eV o r (2,out)=some (.inr out):=fun out=>by simp [eV]
 rw [eI s0,eI (s1 _ (by simp;omega)),cF (s2 _),List.append_assoc]
 rfl
section
variable {s:eU} (h:BS s)
include h
theorem PU {o:aT} (ho:o ∈ s.bU) (out0:List Int) (h0:out0.length≤10000000):aM (kW s o) (0,out0)=some (out0++s.lS.flatMap (Fu o)):=by
 have hrl:=h.rl
 obtain ⟨a,q1,q2,q3⟩:=mF s.lS (fun k (t:List Int)=>((k:Int),t)) (kW s o) (fun t=>t) (fun k t=>t=out0++(s.lS.take k).flatMap (Fu o)∧t.length≤out0.length+4*k) out0 (by simp)
  (fun k r t hr hI=>by
   have hk:=bY hr
   have hd:decide ((k:Int)<(s.lS.length:Int))=true:=by simp [hk]
   obtain ⟨i1,i2⟩:=hI
   unfold kW
   simp only [hd,if_true,bE hr,Option.bind_some,PT (h.o o ho) (h.r r (List.mem_of_getElem? hr)) t (by omega),bT k (by omega)]
   refine ⟨_,rfl, ?_, ?_⟩
   ·rw [fI hr,List.flatMap_append,i1];simp
   ·simp only [List.length_append,Fu,List.length_cons,List.length_nil];omega) (fun t _=>by simp [kW])
 rw [List.take_length] at q2
 rw [show ((0:Int),out0)=(((0:Nat):Int),out0) from rfl,q1,q2]
def CE (s:eU):List Int:=s.bU.flatMap fun o=>s.lS.flatMap (Fu o)
theorem PW:aM (kX s) (0,[s.lT.Y])=some (s.lT.Y::CE s)∧(CE s).length≤48000:=by
 have hrl:=h.rl
 have hol:=h.ol
 have hin:∀ o:aT,(s.lS.flatMap (Fu o)).length≤48:=fun o=>by
  have:∀ l:List aF,(l.flatMap (Fu o)).length=4*l.length:=fun l=>by
   induction l with
   | nil=>rfl
   | cons r l ih=>rw [List.flatMap_cons,List.length_append,ih];simp [Fu];omega
  rw [this];omega
 obtain ⟨a,q1,q2,q3⟩:=mF s.bU (fun k (t:List Int)=>((k:Int),t)) (kX s) (fun t=>t) (fun k t=>t=s.lT.Y::((s.bU.take k).flatMap fun o=>s.lS.flatMap (Fu o))∧t.length≤1+48*k) [s.lT.Y] (by simp)
  (fun k o t ho hI=>by
   have hk:=bY ho
   have hd:decide ((k:Int)<(s.bU.length:Int))=true:=by simp [hk]
   obtain ⟨i1,i2⟩:=hI
   have:=hin o
   unfold kX
   simp only [hd,if_true,bE ho,Option.bind_some,PU h (List.mem_of_getElem? ho) t (by omega),bT k (by omega)]
   refine ⟨_,rfl, ?_, ?_⟩
   ·rw [fI ho,List.flatMap_append,i1];simp
   ·simp only [List.length_append];omega) (fun t _=>by simp [kX])
 rw [List.take_length] at q2
 refine ⟨by rw [show ((0:Int),[s.lT.Y])=(((0:Nat):Int),[s.lT.Y]) from rfl,q1,q2];rfl, ?_⟩
 have:a=s.lT.Y::CE s:=q2
 rw [this] at q3
 simp only [List.length_cons] at q3
 omega
theorem Yu (hA : -1048576≤s.lT.Y∧s.lT.Y≤1048576) (hH:0≤s.lT.H∧s.lT.H≤1048576) (hh:0≤s.h∧s.h≤4194304):∃ ys:List Int,ys.Pairwise (fun a b=>a<b)∧s.lT.Y ∈ ys∧JH s.lS (Zf s.bU) ys∧ys.length≤100000 ∧
  sX s=some (ys.filter fun y=>decide (s.lT.Y≤y)&&decide (y≤s.lT.Y+s.lT.H-s.h)):=by
 obtain ⟨c1,c2⟩:=PW h
 obtain ⟨r,r1,r2,r3⟩:=IP (l:=s.lT.Y::CE s) (by simp;omega)
 have hr:r.length=(CE s).length+1:=by rw [r2.length_eq];simp
 obtain ⟨q,q1,q2,q3⟩:=Yp MJ (fun x y a b=>by unfold ltI at a b;simp at a b;omega) (eqb:=fun x y=>x==y) (fun x y=>by simp) (0:Int) (l:=r) (by omega) r3
 have asc:q.Pairwise fun a b=>a<b:=q2.imp fun h=>by unfold ltI at h;simpa using h
 have mem:∀ x,x ∈ q↔x ∈ s.lT.Y::CE s:=fun x=>by rw [q3,r2.mem_iff]
 have ql:q.length≤100000:=by
  have:=Qb asc fun x hx=>(mem x).1 hx
  simp only [List.length_cons] at this
  omega
 refine ⟨q,asc,(mem _).2 List.mem_cons_self,fun o' ho' r hr=>?_,ql, ?_⟩
 ·obtain ⟨o,ho,rfl⟩:=List.mem_map.1 ho'
  have m4:∀ z,z ∈ Fu o r→z ∈ q:=fun z hz=>(mem z).2 (List.mem_cons_of_mem _ (List.mem_flatMap.2 ⟨o,ho,List.mem_flatMap.2 ⟨r,hr,hz⟩⟩))
  refine ⟨m4 _ ?_,m4 _ ?_,fun _=>m4 _ ?_⟩
  ·unfold Fu;simp
  ·unfold Fu;simp
  ·have e:o.aF.Y-r.H-r.Y=o.aF.Y-0-r.Y-r.H:=by omega
   show o.aF.Y-r.H-r.Y ∈ Fu o r
   rw [e];unfold Fu;simp
 ·unfold sX
  rw [c1]
  simp only [Option.bind_some,r1,Tf,q1]
  rw [KB _ _ _ _ _ _ _ _ _ (by omega)]
  simp only [Option.bind_some]
  congr 1
  refine List.filter_congr fun y _=>?_
  rw [aR (by omega) (by omega),bF (by omega) (by omega)]
  rw [Bool.eq_iff_iff]
  simp only [Bool.not_eq_true',Bool.or_eq_false_iff,decide_eq_false_iff_not,Bool.and_eq_true,decide_eq_true_eq]
  omega
def fx (S:Int→List (Int×Int)) (m y:Int):Int:=open Classical in if h:∃ x,La (S y) m x then Classical.choose h else 0
omit h in
theorem AY {S:Int→List (Int×Int)} {m y x:Int} (h:La (S y) m x):fx S m y=x:=by
 have hx:∃ x,La (S y) m x:=⟨x,h⟩
 unfold fx
 rw [dif_pos hx]
 exact Vl (fun _=>Iff.rfl) (Classical.choose_spec hx) h
omit h in
theorem DE {R:Type} (f:Int→Int) (hx:Int) (l:List Int) (body:Int→Option (Int ⊕ R)) (yes:Int×Int→R) (no:R)
  (step:∀ (k:Nat) y,l[k]?=some y→body (k:Int)=if f y≤hx then some (.inr (yes (f y,y))) else some (.inl ((k+1:Nat):Int))) (fin:body (l.length:Int)=some (.inr no)) :
  aM body 0=some (match scan f hx l with | some p=>yes p | none=>no):=by
 have key:∀ (n k:Nat),k+n=l.length→aM body (k:Int)=some (match scan f hx (l.drop k) with | some p=>yes p | none=>no):=by
  intro n
  induction n with
  | zero =>
    intro k h;obtain rfl:k=l.length:=by omega
    rw [List.drop_length,cF fin];rfl
  | succ n ih =>
    intro k h
    have hk:k<l.length:=by omega
    have hy:l[k]?=some l[k]:=by simp
    have hs:=step k _ hy
    rw [List.drop_eq_getElem_cons hk]
    unfold scan
    by_cases c:f l[k]≤hx
    ·rw [if_pos c] at hs ⊢;rw [cF hs]
    ·rw [if_neg c] at hs ⊢;rw [eI hs,ih (k+1) (by omega)]
 have:=key l.length 0 (by omega)
 simpa using this
theorem OX:JI (Zf s.bU):=fun o' ho'=>by
 obtain ⟨o,ho,rfl⟩:=List.mem_map.1 ho'
 have:=(h.o o ho).v
 unfold vR at this
 exact ⟨show 0<o.aF.W by omega,show 0<o.aF.H by omega,(h.o o ho).g.1⟩
theorem OY:JJ s.lS:=fun r hr=>by
 have:=h.r r hr
 unfold vR at this
 exact ⟨by omega,by omega⟩
theorem HK {m:Int} (hm:0≤m∧m≤14400) (ax:s.lT.X=m) (ay:s.lT.Y=m) (aw:0≤s.lT.W∧s.lT.W≤1048576) (ah:0≤s.lT.H∧s.lT.H≤1048576) (hw:0≤s.w∧s.w≤4194304) (hh:0≤s.h∧s.h≤4194304) :
  ∃ o:Option (Int×Int),Lst (Fe s.lS (Zf s.bU) m (m+s.lT.W-s.w) (m+s.lT.H-s.h)) o∧uZ s=some (match o with | some p=>(p.1,p.2,true) | none=>(0,0,false)):=by
 unfold uZ
 by_cases c1:s.w>s.lT.W
 ·refine ⟨none,fun x y q=>?_,by simp [c1]⟩
  have:=q.1;have:=q.2.1;omega
 by_cases c2:s.h>s.lT.H
 ·refine ⟨none,fun x y q=>?_,by simp [c1,c2]⟩
  have:=q.2.2.1;have:=q.2.2.2.1;omega
 obtain ⟨ys,y1,y2,y3,y4,y5⟩:=Yu h (by omega) ah hh
 rw [ay] at y2 y5
 have hf:∀ y,m≤y→y≤m+s.lT.H-s.h→∃ L x,pF s y=some L∧En L m (m+s.lT.W-s.w)=some (x,decide (x≤m+s.lT.W-s.w))∧La (Ha s y) m x:=fun y q1 q2=>by
  obtain ⟨L,b1,b2,b3,b4⟩:=Yn h (y:=y) (by omega)
  obtain ⟨x,f1,f2,f3,f4⟩:=FU L b2 (m:=m) (hi:=m+s.lT.W-s.w) (by omega) b4
  have e:∀ z,inS (L.map fun s=>(s.lo,s.hi)) z↔inS (Ha s y) z:=fun z=>(NB L z).trans (b3 z)
  exact ⟨L,x,b1,f1,f2,fun q=>f3 ((e x).2 q),fun z z1 z2=>(e z).1 (f4 z z1 z2)⟩
 refine ⟨_,Xt (OY h) (OX h) y1 y2 y3 (f:=fx (Ha s) m) (sp:=Ha s) (fun y q1 q2=>?_) (fun x y=>CF h x y), ?_⟩
 ·obtain ⟨L,x,_,_,q⟩:=hf y q1 q2
  rw [AY q];exact q
 ·simp only [c1,c2,decide_false,Bool.false_eq_true,if_false,Option.bind_some,y5]
  have lp:=DE (fx (Ha s) m) (m+s.lT.W-s.w) (ys.filter fun y=>decide (m≤y)&&decide (y≤m+s.lT.H-s.h)) (rP s (ys.filter fun y=>decide (m≤y)&&decide (y≤m+s.lT.H-s.h))) (fun p=>.inl p) (.inr ()) (fun k y hy=>by
   have hk:=bY hy
   have hkl:(ys.filter fun y=>decide (m≤y)&&decide (y≤m+s.lT.H-s.h)).length≤ys.length:=List.length_filter_le _ _
   have hym:=(List.mem_filter.1 (List.mem_of_getElem? hy)).2
   simp only [Bool.and_eq_true,decide_eq_true_eq] at hym
   obtain ⟨L,x,b1,b2,b3⟩:=hf y hym.1 hym.2
   have hd:decide ((k:Int)<((ys.filter fun y=>decide (m≤y)&&decide (y≤m+s.lT.H-s.h)).length:Int))=true:=by simp only [decide_eq_true_eq];omega
   have e1:aI (aJ m s.lT.W) s.w=m+s.lT.W-s.w:=by
    rw [aR (by omega) (by omega),bF (by omega) (by omega)]
   unfold rP
   simp only [hd,if_true,bE hy,Option.bind_some,b1,ax,e1,b2,bT k (by omega),AY b3]
   by_cases c:x≤m+s.lT.W-s.w <;> simp [c]) (by simp [rP])
  rw [lp]
  cases scan (fx (Ha s) m) (m+s.lT.W-s.w) (ys.filter fun y=>decide (m≤y)&&decide (y≤m+s.lT.H-s.h)) <;> rfl
end
def mkD (p:Int×Int):aV:=⟨p.1,p.2⟩
theorem KM {L:List aV} {k:Nat} {p:Int×Int} (h:(L.map fun s=>(s.lo,s.hi))[k]?=some p):∃ s,L[k]?=some s∧p=(s.lo,s.hi):=by
 rw [List.getElem?_map] at h
 cases e:L[k]? with
 | none=>rw [e] at h;cases h
 | some s=>rw [e] at h;exact ⟨s,rfl,(Option.some.inj h).symm⟩
theorem Sx (g:Int) (c soft:Bool) (r o:aF) (y:Int):(sO g c soft r o y).length≤3:=by
 unfold sO
 rw [List.length_append]
 have h1:∀ p:Int×Int,(if ovI (y+r.Y) r.H o.Y o.H then [p] else []).length≤1:=fun p=>by split <;> simp
 have h2:∀ (P Q:Prop) [Decidable P] [Decidable Q] (p q s:Int×Int),(if P then ([]:List (Int×Int)) else if Q then [p,q] else [s]).length≤2:=fun P Q _ _ p q s=>by
  split
  ·simp
  ·split <;> simp
 have:=h1 (o.X-r.W-r.X,o.X+o.W-r.X)
 have:=h2 (soft=false∨g≤qY (y+r.Y) r.H o.Y o.H) (c=true∧qY (y+r.Y) r.H o.Y o.H=0) (o.X-r.W-r.X-g,o.X-r.W-r.X) (o.X+o.W-r.X,o.X+o.W-r.X+g) (o.X-r.W-r.X-g,o.X+o.W-r.X+g)
 omega
theorem Uy {g:Int} {c soft:Bool} {r o:aF} {y:Int} (hg:0≤g∧g≤14400) (ho:vR o) (hr:vR r):∀ s ∈ sO g c soft r o y,s.2≤8388608:=by
 unfold vR at ho hr
 unfold sO
 intro s hs
 rcases List.mem_append.1 hs with hs | hs
 ·split at hs
  ·simp at hs;subst hs;simp only;omega
  ·cases hs
 ·split at hs
  ·cases hs
  ·split at hs
   ·simp at hs;rcases hs with rfl | rfl <;> simp only <;> omega
   ·simp at hs;subst hs;simp only;omega
theorem Pc {t:bA} {r o:aF} {y:Int} (soft:Bool) (hg:0≤t.Gap∧t.Gap≤14400) (ho:vR o) (hr:vR r) (hy : -4194304≤y∧y≤4194304):jU r o y t soft=some ((sO t.Gap t.dM soft r o y).map mkD):=by
 unfold vR at ho hr
 unfold jU kK
 simp (disch:=omega) only [aR,bF,Ij]
 have eu:max (max 0 (o.Y-(y+r.Y)-r.H)) (y+r.Y-o.Y-o.H)=qY (y+r.Y) r.H o.Y o.H:=by unfold qY;omega
 have ej:(if decide (y+r.Y<o.Y+o.H)=true then some (decide (o.Y<y+r.Y+r.H)) else some false)=some (decide (ovI (y+r.Y) r.H o.Y o.H)):=by
  unfold ovI
  by_cases h1:y+r.Y<o.Y+o.H <;> simp [h1]
 have eb:∀ a:Int,(a==0)=decide (a=0):=fun a=>by by_cases h:a=0 <;> simp [h]
 rw [ej,eu]
 unfold sO
 generalize qY (y+r.Y) r.H o.Y o.H=u
 generalize hv:decide (ovI (y+r.Y) r.H o.Y o.H)=ov
 have hov':ovI (y+r.Y) r.H o.Y o.H↔ov=true:=by rw [← hv,decide_eq_true_eq]
 simp only [Option.bind_some,eb,hov']
 have ap:∀ a b:List aV,a.length≤100→b.length≤100→app a b=some (a++b):=fun a b h1 h2=>jZ (by unfold LIM;omega)
 rw [ap [] _ (by simp) (by simp)]
 cases soft with
 | false=>cases ov <;> rfl
 | true =>
   by_cases h1:t.Gap≤u
   ·cases ov <;> simp [h1] <;> rfl
   ·have h1':¬ (u ≥ t.Gap):=h1
    by_cases h2:u=0
    ·subst h2
     cases ov <;> cases t.dM <;> simp [h1',ap,h1,mkD]
    ·cases ov <;> cases t.dM <;> simp [h1',h2,ap,h1,mkD]
def Kc (hard soft:List aF) (t:bA):List (aF×Int×Bool):=hard.map (fun o=>(o,0,false))++soft.map fun o=>(o,t.Gap,t.dM)
def Dv (l hard soft:List aF) (t:bA) (y:Int):List (Int×Int):=
 l.flatMap fun r=>hard.flatMap (fun o=>sO t.Gap t.dM false r o y)++soft.flatMap fun o=>sO t.Gap t.dM true r o y
structure DS (l hard soft:List aF) (t:bA):Prop where
 lv:∀ r ∈ l,vR r
 ll:l.length≤12
 hv:∀ r ∈ hard,vR r
 hl:hard.length≤100
 sv:∀ r ∈ soft,vR r
 sl:soft.length≤100
 g:0≤t.Gap∧t.Gap≤14400
section
variable {l hard soft:List aF} {t:bA} (h:DS l hard soft t)
include h
theorem EV (x y:Int):inS (Dv l hard soft t y) x↔∃ o ∈ Kc hard soft t,∃ r ∈ l,Ic o.2.1 o.2.2 r o.1 x y:=by
 have p:∀ {r:aF},vR r→0<r.W∧0<r.H:=fun {r} hv=>by unfold vR at hv;omega
 unfold Dv
 constructor
 ·rintro ⟨q,hq,hx⟩
  obtain ⟨r,hr,hq⟩:=List.mem_flatMap.1 hq
  rcases List.mem_append.1 hq with hq | hq
  ·obtain ⟨o,ho,hq⟩:=List.mem_flatMap.1 hq
   exact ⟨(o,0,false),List.mem_append_left _ (List.mem_map.2 ⟨o,ho,rfl⟩),r,hr,(Pq (p (h.lv r hr)).1 (p (h.hv o ho)).1 x y).1 ⟨q,hq,hx⟩⟩
  ·obtain ⟨o,ho,hq⟩:=List.mem_flatMap.1 hq
   exact ⟨(o,t.Gap,t.dM),List.mem_append_right _ (List.mem_map.2 ⟨o,ho,rfl⟩),r,hr,(Pr h.g.1 (p (h.lv r hr)).1 (p (h.sv o ho)).1 (p (h.lv r hr)).2 (p (h.sv o ho)).2 x y).1 ⟨q,hq,hx⟩⟩
 ·rintro ⟨o',ho',r,hr,hb⟩
  rcases List.mem_append.1 ho' with ho' | ho'
  ·obtain ⟨o,ho,rfl⟩:=List.mem_map.1 ho'
   obtain ⟨q,hq,hx⟩:=(Pq (g:=t.Gap) (c:=t.dM) (p (h.lv r hr)).1 (p (h.hv o ho)).1 x y).2 hb
   exact ⟨q,List.mem_flatMap.2 ⟨r,hr,List.mem_append_left _ (List.mem_flatMap.2 ⟨o,ho,hq⟩)⟩,hx⟩
  ·obtain ⟨o,ho,rfl⟩:=List.mem_map.1 ho'
   obtain ⟨q,hq,hx⟩:=(Pr h.g.1 (p (h.lv r hr)).1 (p (h.sv o ho)).1 (p (h.lv r hr)).2 (p (h.sv o ho)).2 x y).2 hb
   exact ⟨q,List.mem_flatMap.2 ⟨r,hr,List.mem_append_right _ (List.mem_flatMap.2 ⟨o,ho,hq⟩)⟩,hx⟩
theorem ND {y:Int} (hy : -4194304≤y∧y≤4194304) {i:Nat} {r:aF} (hr:l[i]?=some r) (b:List aV) (out0:List aV) (h0:out0.length≤1000000) :
  aM (jA l hard t y ((i:Int),b)) (0,out0)=some (out0++(hard.flatMap fun o=>sO t.Gap t.dM false r o y).map mkD)∧(hard.flatMap fun o=>sO t.Gap t.dM false r o y).length≤300:=by
 have hhl:=h.hl
 obtain ⟨a,q1,q2,q3⟩:=mF hard (fun k (s:List aV)=>((k:Int),s)) (jA l hard t y ((i:Int),b)) (fun s=>s) (fun k s=>s=out0++((hard.take k).flatMap fun o=>sO t.Gap t.dM false r o y).map mkD∧((hard.take k).flatMap fun o=>sO t.Gap t.dM false r o y).length≤3*k) out0 (by simp)
  (fun k o s ho hI=>by
   have hk:=bY ho
   have hd:decide ((k:Int)<(hard.length:Int))=true:=by simp [hk]
   obtain ⟨i1,i2⟩:=hI
   have e:=Pc (t:=t) (y:=y) false h.g (h.hv o (List.mem_of_getElem? ho)) (h.lv r (List.mem_of_getElem? hr)) hy
   have l3:=Sx t.Gap t.dM false r o y
   unfold jA
   simp only [hd,if_true,bE hr,bE ho,Option.bind_some,e,bT k (by omega)]
   rw [jZ (by rw [i1];simp only [List.length_append,List.length_map];unfold LIM;omega)]
   refine ⟨_,rfl, ?_, ?_⟩
   ·rw [fI ho,List.flatMap_append,i1];simp
   ·rw [fI ho,List.flatMap_append];simp only [List.flatMap_cons,List.flatMap_nil,List.append_nil,List.length_append];omega) (fun s _=>by simp [jA])
 rw [List.take_length] at q2 q3
 exact ⟨by rw [show ((0:Int),out0)=(((0:Nat):Int),out0) from rfl,q1,q2],by omega⟩
theorem NF {y:Int} (hy : -4194304≤y∧y≤4194304) {i:Nat} {r:aF} (hr:l[i]?=some r) (b:List aV) (out0:List aV) (h0:out0.length≤1000000) :
  aM (jB l soft t y ((i:Int),b)) (0,out0)=some (out0++(soft.flatMap fun o=>sO t.Gap t.dM true r o y).map mkD)∧(soft.flatMap fun o=>sO t.Gap t.dM true r o y).length≤300:=by
 have hhl:=h.sl
 obtain ⟨a,q1,q2,q3⟩:=mF soft (fun k (s:List aV)=>((k:Int),s)) (jB l soft t y ((i:Int),b)) (fun s=>s) (fun k s=>s=out0++((soft.take k).flatMap fun o=>sO t.Gap t.dM true r o y).map mkD∧((soft.take k).flatMap fun o=>sO t.Gap t.dM true r o y).length≤3*k) out0 (by simp)
  (fun k o s ho hI=>by
   have hk:=bY ho
   have hd:decide ((k:Int)<(soft.length:Int))=true:=by simp [hk]
   obtain ⟨i1,i2⟩:=hI
   have e:=Pc (t:=t) (y:=y) true h.g (h.sv o (List.mem_of_getElem? ho)) (h.lv r (List.mem_of_getElem? hr)) hy
   have l3:=Sx t.Gap t.dM true r o y
   unfold jB
   simp only [hd,if_true,bE hr,bE ho,Option.bind_some,e,bT k (by omega)]
   rw [jZ (by rw [i1];simp only [List.length_append,List.length_map];unfold LIM;omega)]
   refine ⟨_,rfl, ?_, ?_⟩
   ·rw [fI ho,List.flatMap_append,i1];simp
   ·rw [fI ho,List.flatMap_append];simp only [List.flatMap_cons,List.flatMap_nil,List.append_nil,List.length_append];omega) (fun s _=>by simp [jB])
 rw [List.take_length] at q2 q3
 exact ⟨by rw [show ((0:Int),out0)=(((0:Nat):Int),out0) from rfl,q1,q2],by omega⟩
theorem NG {y:Int} (hy : -4194304≤y∧y≤4194304):aM (jC l hard soft t y) (0,[])=some ((Dv l hard soft t y).map mkD)∧(Dv l hard soft t y).length≤100000:=by
 have hll:=h.ll
 obtain ⟨a,q1,q2,q3⟩:=mF l (fun k (s:List aV)=>((k:Int),s)) (jC l hard soft t y) (fun s=>s) (fun k s=>s=(Dv (l.take k) hard soft t y).map mkD∧(Dv (l.take k) hard soft t y).length≤600*k) [] (by simp [Dv])
  (fun k r s hr hI=>by
   have hk:=bY hr
   have hd:decide ((k:Int)<(l.length:Int))=true:=by simp [hk]
   obtain ⟨i1,i2⟩:=hI
   have sl:s.length≤600*k:=by rw [i1,List.length_map];exact i2
   obtain ⟨a1,a2⟩:=ND h hy hr s s (by omega)
   obtain ⟨b1,b2⟩:=NF h hy hr s (s++(hard.flatMap fun o=>sO t.Gap t.dM false r o y).map mkD) (by simp only [List.length_append,List.length_map];omega)
   unfold jC
   simp only [hd,if_true,a1,b1,Option.bind_some,bT k (by omega)]
   refine ⟨_,rfl, ?_, ?_⟩
   ·rw [fI hr];unfold Dv at i1 ⊢;rw [List.flatMap_append,i1];simp
   ·rw [fI hr];unfold Dv at i2 ⊢;rw [List.flatMap_append];simp only [List.flatMap_cons,List.flatMap_nil,List.append_nil,List.length_append];omega) (fun s _=>by simp [jC])
 rw [List.take_length] at q2 q3
 exact ⟨by rw [show ((0:Int),([]:List aV))=(((0:Nat):Int),[]) from rfl,q1,q2],by omega⟩
theorem JN (y:Int):∀ p ∈ Dv l hard soft t y,p.2≤8388608:=fun p hp=>by
 obtain ⟨r,hr,hp⟩:=List.mem_flatMap.1 hp
 rcases List.mem_append.1 hp with hp | hp
 ·obtain ⟨o,ho,hp⟩:=List.mem_flatMap.1 hp
  exact Uy h.g (h.hv o ho) (h.lv r hr) p hp
 ·obtain ⟨o,ho,hp⟩:=List.mem_flatMap.1 hp
  exact Uy h.g (h.sv o ho) (h.lv r hr) p hp
theorem DF {y last:Int} (hy : -4194304≤y∧y≤4194304) (hm:t.aS≤14400):∃ x,lA l hard soft t y last=some (x,decide (x≤last))∧La (Dv l hard soft t y) t.aS x:=by
 obtain ⟨c1,c2⟩:=NG h hy
 have pr:((Dv l hard soft t y).map mkD).map (fun s=>(s.lo,s.hi))=Dv l hard soft t y:=by
  rw [List.map_map];exact List.map_id _
 obtain ⟨x,h1,h2⟩:=Ut (Dv l hard soft t y) c2 (m:=t.aS) (by omega) (JN h y) (mD ((Dv l hard soft t y).map mkD)) (mE ((Dv l hard soft t y).map mkD)) (fun k p x b hp=>by
  rw [← pr] at hp
  obtain ⟨s,hs,rfl⟩:=KM hp
  have hk:=bY hs
  have hkl:((Dv l hard soft t y).map mkD).length≤100000:=by rw [List.length_map];exact c2
  have hd:decide ((k:Int)<(((Dv l hard soft t y).map mkD).length:Int))=true:=by simp only [decide_eq_true_eq];omega
  unfold mD mB
  simp only [hd,if_true,bE hs,Option.bind_some,bT k (by omega)]
  by_cases c1:s.lo<x
  ·by_cases c2:x<s.hi <;> simp [c1,c2]
  ·simp [c1]) (fun x b=>by simp [mD]) (fun x=>by simp [mE]) (fun x=>by simp [mE])
 exact ⟨x,by unfold lA;rw [c1];simp only [Option.bind_some,h1],h2⟩
end
structure Gr (t0 t:List Int) (n:Nat):Prop where
 asc:t.Pairwise fun a b=>a<b
 sub:∀ x ∈ t0,x ∈ t
 len:t.length≤t0.length+n
theorem Gr.ins {t0 t r:List Int} {n:Nat} {z:Int} (g:Gr t0 t n) (h1:r.Pairwise fun a b=>a<b) (h2:∀ x,x ∈ r↔x ∈ t∨x=z) (h3:r.length≤t.length+1):Gr t0 r (n+1):=
 ⟨h1,fun x hx=>(h2 x).2 (.inl (g.sub x hx)),by have:=g.len;omega⟩
section
variable {l hard soft:List aF} {t:bA} (h:DS l hard soft t)
include h
theorem OK {i:Nat} {r:aF} (hr:l[i]?=some r) (b:List Int) {t0:List Int} (a0:t0.Pairwise fun a b=>a<b) (l0:t0.length≤8000) :
  ∃ t',aM (iM l hard ((i:Int),b)) (0,t0)=some t'∧Gr t0 t' hard.length∧∀ o ∈ hard,o.Y+o.H-r.Y ∈ t':=by
 have hhl:=h.hl
 have vr:=h.lv r (List.mem_of_getElem? hr)
 unfold vR at vr
 obtain ⟨a,q1,q2,q3⟩:=mF hard (fun k (s:List Int)=>((k:Int),s)) (iM l hard ((i:Int),b)) (fun s=>s) (fun k s=>Gr t0 s k∧∀ o ∈ hard.take k,o.Y+o.H-r.Y ∈ s) t0 ⟨⟨a0,fun _ q=>q,by omega⟩,by simp⟩
  (fun k o s ho hI=>by
   have hk:=bY ho
   have hd:decide ((k:Int)<(hard.length:Int))=true:=by simp [hk]
   obtain ⟨i1,i2⟩:=hI
   have vo:=h.hv o (List.mem_of_getElem? ho)
   unfold vR at vo
   have:=i1.len
   obtain ⟨r1,e1,e2,e3,e4⟩:=Kp i1.asc (by omega) (o.Y+o.H-r.Y)
   have ee:aI (aJ o.Y o.H) r.Y=o.Y+o.H-r.Y:=by rw [aR (by omega) (by omega),bF (by omega) (by omega)]
   unfold iM
   simp only [hd,if_true,bE hr,bE ho,Option.bind_some,ee,e1,bT k (by omega)]
   refine ⟨_,rfl,i1.ins e2 e3 e4,fun o' ho'=>?_⟩
   rw [fI ho] at ho'
   rcases List.mem_append.1 ho' with q | q
   ·exact (e3 _).2 (.inl (i2 o' q))
   ·simp at q;subst q;exact (e3 _).2 (.inr rfl)) (fun s _=>by simp [iM])
 rw [List.take_length] at q3
 exact ⟨a,q1,q2,q3⟩
theorem OL {i:Nat} {r:aF} (hr:l[i]?=some r) (b:List Int) {t0:List Int} (a0:t0.Pairwise fun a b=>a<b) (l0:t0.length≤8000) :
  ∃ t',aM (iN l soft t ((i:Int),b)) (0,t0)=some t'∧Gr t0 t' (3*soft.length)∧∀ o ∈ soft,o.Y+o.H-r.Y ∈ t'∧o.Y+o.H+t.Gap-r.Y ∈ t'∧o.Y-r.H-r.Y ∈ t':=by
 have hhl:=h.sl
 have hg:=h.g
 have vr:=h.lv r (List.mem_of_getElem? hr)
 unfold vR at vr
 obtain ⟨a,q1,q2,q3⟩:=mF soft (fun k (s:List Int)=>((k:Int),s)) (iN l soft t ((i:Int),b)) (fun s=>s) (fun k s=>Gr t0 s (3*k)∧∀ o ∈ soft.take k,o.Y+o.H-r.Y ∈ s∧o.Y+o.H+t.Gap-r.Y ∈ s∧o.Y-r.H-r.Y ∈ s) t0 ⟨⟨a0,fun _ q=>q,by omega⟩,by simp⟩
  (fun k o s ho hI=>by
   have hk:=bY ho
   have hd:decide ((k:Int)<(soft.length:Int))=true:=by simp [hk]
   obtain ⟨i1,i2⟩:=hI
   have vo:=h.sv o (List.mem_of_getElem? ho)
   unfold vR at vo
   have:=i1.len
   obtain ⟨r1,e1,e2,e3,e4⟩:=Kp i1.asc (by omega) (o.Y+o.H-r.Y)
   obtain ⟨r2,f1,f2,f3,f4⟩:=Kp e2 (by omega) (o.Y+o.H+t.Gap-r.Y)
   obtain ⟨r3,g1,g2,g3,g4⟩:=Kp f2 (by omega) (o.Y-r.H-r.Y)
   have ee:aI (aJ o.Y o.H) r.Y=o.Y+o.H-r.Y:=by rw [aR (by omega) (by omega),bF (by omega) (by omega)]
   have ef:aI (aJ (aJ o.Y o.H) t.Gap) r.Y=o.Y+o.H+t.Gap-r.Y:=by
    have e0:aJ o.Y o.H=o.Y+o.H:=aR (by omega) (by omega)
    rw [e0,aR (by omega) (by omega),bF (by omega) (by omega)]
   have eg:aI (aI o.Y r.H) r.Y=o.Y-r.H-r.Y:=by
    have e0:aI o.Y r.H=o.Y-r.H:=bF (by omega) (by omega)
    rw [e0,bF (by omega) (by omega)]
   unfold iN
   simp only [hd,if_true,bE hr,bE ho,Option.bind_some,ee,ef,eg,e1,f1,g1,bT k (by omega)]
   refine ⟨_,rfl,((i1.ins e2 e3 e4).ins f2 f3 f4).ins g2 g3 g4,fun o' ho'=>?_⟩
   have up:∀ x ∈ s,x ∈ r3:=fun x hx=>(g3 x).2 (.inl ((f3 x).2 (.inl ((e3 x).2 (.inl hx)))))
   rw [fI ho] at ho'
   rcases List.mem_append.1 ho' with q | q
   ·obtain ⟨b1,b2,b3⟩:=i2 o' q
    exact ⟨up _ b1,up _ b2,up _ b3⟩
   ·simp at q;subst q
    exact ⟨(g3 _).2 (.inl ((f3 _).2 (.inl ((e3 _).2 (.inr rfl))))),(g3 _).2 (.inl ((f3 _).2 (.inr rfl))),(g3 _).2 (.inr rfl)⟩) (fun s _=>by simp [iN])
 rw [List.take_length] at q3
 exact ⟨a,q1,q2,q3⟩
theorem Wz:∃ ys:List Int,oJ l hard soft t=some ys∧ys.Pairwise (fun a b=>a<b)∧t.aS ∈ ys∧JH l (Kc hard soft t) ys∧ys.length≤8000:=by
 have hhl:=h.hl
 have hsl:=h.sl
 have hll:=h.ll
 obtain ⟨a,q1,q2,q3,q4⟩:=mF l (fun k (s:List Int)=>((k:Int),s)) (kY l hard soft t) (fun s=>s) (fun k s=>Gr [t.aS] s (400*k)∧(∀ r ∈ l.take k,∀ o ∈ hard,o.Y+o.H-r.Y ∈ s)∧∀ r ∈ l.take k,∀ o ∈ soft,o.Y+o.H-r.Y ∈ s∧o.Y+o.H+t.Gap-r.Y ∈ s∧o.Y-r.H-r.Y ∈ s) [t.aS] ⟨⟨by simp,fun _ q=>q,by omega⟩,by simp,by simp⟩
  (fun k r s hr hI=>by
   have hk:=bY hr
   have hd:decide ((k:Int)<(l.length:Int))=true:=by simp [hk]
   obtain ⟨i1,i2,i3⟩:=hI
   have l1:=i1.len
   simp only [List.length_cons,List.length_nil] at l1
   obtain ⟨t1,e1,e2,e3⟩:=OK h hr s i1.asc (by omega)
   have l2:=e2.len
   obtain ⟨t2,f1,f2,f3⟩:=OL h hr s e2.asc (by omega)
   have l3:=f2.len
   unfold kY
   simp only [hd,if_true,e1,f1,Option.bind_some,bT k (by omega)]
   refine ⟨_,rfl,⟨f2.asc,fun x hx=>f2.sub x (e2.sub x (i1.sub x hx)),by simp only [List.length_cons,List.length_nil];omega⟩,fun r' hr' o ho=>?_,fun r' hr' o ho=>?_⟩
   ·rw [fI hr] at hr'
    rcases List.mem_append.1 hr' with q | q
    ·exact f2.sub _ (e2.sub _ (i2 r' q o ho))
    ·simp at q;subst q;exact f2.sub _ (e3 o ho)
   ·rw [fI hr] at hr'
    rcases List.mem_append.1 hr' with q | q
    ·obtain ⟨b1,b2,b3⟩:=i3 r' q o ho
     exact ⟨f2.sub _ (e2.sub _ b1),f2.sub _ (e2.sub _ b2),f2.sub _ (e2.sub _ b3)⟩
    ·simp at q;subst q;exact f3 o ho) (fun s _=>by simp [kY])
 rw [List.take_length] at q3 q4
 have lq:=q2.len
 simp only [List.length_cons,List.length_nil] at lq
 refine ⟨a, ?_,q2.asc,q2.sub _ (by simp),fun o' ho' r hr=>?_,by omega⟩
 ·unfold oJ
  rw [show ((0:Int),[t.aS])=(((0:Nat):Int),[t.aS]) from rfl,q1];rfl
 ·rcases List.mem_append.1 ho' with q | q
  ·obtain ⟨o,ho,rfl⟩:=List.mem_map.1 q
   have:=q3 r hr o ho
   refine ⟨this, ?_,fun e=>by cases e⟩
   show o.Y+o.H+0-r.Y ∈ a
   rw [Int.add_zero];exact this
  ·obtain ⟨o,ho,rfl⟩:=List.mem_map.1 q
   obtain ⟨b1,b2,b3⟩:=q4 r hr o ho
   exact ⟨b1,b2,fun _=>b3⟩
theorem NK:JI (Kc hard soft t):=fun o' ho'=>by
 rcases List.mem_append.1 ho' with q | q
 ·obtain ⟨o,ho,rfl⟩:=List.mem_map.1 q
  have:=h.hv o ho
  unfold vR at this
  exact ⟨show 0<o.W by omega,show 0<o.H by omega,Int.le_refl 0⟩
 ·obtain ⟨o,ho,rfl⟩:=List.mem_map.1 q
  have:=h.sv o ho
  unfold vR at this
  exact ⟨show 0<o.W by omega,show 0<o.H by omega,h.g.1⟩
theorem NL:JJ l:=fun r hr=>by
 have:=h.lv r hr
 unfold vR at this
 exact ⟨by omega,by omega⟩
end
def xJ (l:List aF):Int:=l.foldl (fun a r=>max a (r.X+r.W)) 0
def wX (l:List aF):Int:=l.foldl (fun a r=>max a (r.Y+r.H)) 0
theorem foldl_max {l:List aF} {g:aF→Int}:∀ {a:Int},a≤l.foldl (fun s r=>max s (g r)) a∧∀ r ∈ l,g r≤l.foldl (fun s r=>max s (g r)) a:=by
 induction l with
 | nil=>intro a;exact ⟨Int.le_refl a,fun r hr=>by cases hr⟩
 | cons x l ih =>
   intro a
   rw [List.foldl_cons]
   obtain ⟨h1,h2⟩:=@ih (max a (g x))
   refine ⟨by omega,fun r hr=>?_⟩
   rcases List.mem_cons.1 hr with e | e
   ·subst e;omega
   ·exact h2 r e
theorem Fx {l:List aF} {g:aF→Int} {M:Int} (h:∀ r ∈ l,g r≤M):∀ {a:Int},a≤M→l.foldl (fun s r=>max s (g r)) a≤M:=by
 induction l with
 | nil=>intro a h;exact h
 | cons x l ih =>
   intro a ha
   rw [List.foldl_cons]
   exact ih (fun r hr=>h r (List.mem_cons_of_mem _ hr)) (by have:=h x List.mem_cons_self;omega)
theorem BH {l:List aF} (h:∀ r ∈ l,vR r):0≤xJ l∧xJ l≤1048576:=⟨(foldl_max (g:=fun r=>r.X+r.W)).1,Fx (g:=fun r=>r.X+r.W) (fun r hr=>by have:=h r hr;unfold vR at this;omega) (by omega)⟩
theorem BG {l:List aF} (h:∀ r ∈ l,vR r):0≤wX l∧wX l≤1048576:=⟨(foldl_max (g:=fun r=>r.Y+r.H)).1,Fx (g:=fun r=>r.Y+r.H) (fun r hr=>by have:=h r hr;unfold vR at this;omega) (by omega)⟩
theorem CQ (r2:aU×ByteArray×ByteArray×Int×Int) (hl:r2.1.aD.length≤1000) (hv:∀ r ∈ r2.1.aD,vR r):aM (jV r2) (0,0,0)=some (xJ r2.1.aD,wX r2.1.aD):=by
 obtain ⟨a,q1,q2⟩:=mF r2.1.aD (fun k (s:Int×Int)=>(s.1,s.2,(k:Int))) (jV r2) (fun s=>s) (fun k s=>s=(xJ (r2.1.aD.take k),wX (r2.1.aD.take k))) (0,0) rfl
  (fun k r s hr hI=>by
   have hk:=bY hr
   have hd:decide ((k:Int)<(r2.1.aD.length:Int))=true:=by simp [hk]
   obtain ⟨e1,e2⟩:=JF (hv r (List.mem_of_getElem? hr))
   unfold jV
   simp only [hd,if_true,bE hr,Option.bind_some,e1,e2,Ij,bT k (by omega)]
   refine ⟨(max s.1 (r.X+r.W),max s.2 (r.Y+r.H)),rfl, ?_⟩
   subst hI
   rw [fI hr]
   unfold xJ wX
   rw [List.foldl_append,List.foldl_append];rfl) (fun s _=>by simp [jV])
 rw [List.take_length] at q2
 rw [show ((0:Int),(0:Int),(0:Int))=((0:Int),(0:Int),((0:Nat):Int)) from rfl,q1,q2]
theorem DK (r:aU×Int×ByteArray×ByteArray×Int×Int) (hl:r.1.aD.length≤1000) (hv:∀ x ∈ r.1.aD,vR x):aM (Cj r) (0,0,0)=some (xJ r.1.aD,wX r.1.aD):=by
 obtain ⟨a,q1,q2⟩:=mF r.1.aD (fun k (s:Int×Int)=>((k:Int),s.1,s.2)) (Cj r) (fun s=>s) (fun k s=>s=(xJ (r.1.aD.take k),wX (r.1.aD.take k))) (0,0) rfl
  (fun k x s hr hI=>by
   have hk:=bY hr
   have hd:decide ((k:Int)<(r.1.aD.length:Int))=true:=by simp [hk]
   obtain ⟨e1,e2⟩:=JF (hv x (List.mem_of_getElem? hr))
   unfold Cj
   simp only [hd,if_true,bE hr,Option.bind_some,e1,e2,Ij,bT k (by omega)]
   refine ⟨(max s.1 (x.X+x.W),max s.2 (x.Y+x.H)),rfl, ?_⟩
   subst hI
   rw [fI hr]
   unfold xJ wX
   rw [List.foldl_append,List.foldl_append];rfl) (fun s _=>by simp [Cj])
 rw [List.take_length] at q2
 rw [show ((0:Int),(0:Int),(0:Int))=(((0:Nat):Int),(0:Int),(0:Int)) from rfl,q1,q2]
theorem Zb {R:Type} (f:Int→Int) (hx:Int) (ok:Int→Bool) (l:List Int) (body:Int→Option (Int ⊕ R)) (yes:Int×Int→R) (no:R)
  (step:∀ (k:Nat) y,l[k]?=some y→body (k:Int)=if ok y=true∧f y≤hx then some (.inr (yes (f y,y))) else some (.inl ((k+1:Nat):Int))) (fin:body (l.length:Int)=some (.inr no)) :
  aM body 0=some (match scan f hx (l.filter ok) with | some p=>yes p | none=>no):=by
 have key:∀ (n k:Nat),k+n=l.length→aM body (k:Int)=some (match scan f hx ((l.drop k).filter ok) with | some p=>yes p | none=>no):=by
  intro n
  induction n with
  | zero =>
    intro k h;obtain rfl:k=l.length:=by omega
    rw [List.drop_length,cF fin];rfl
  | succ n ih =>
    intro k h
    have hk:k<l.length:=by omega
    have hy:l[k]?=some l[k]:=by simp
    have hs:=step k _ hy
    rw [List.drop_eq_getElem_cons hk,List.filter_cons]
    by_cases o:ok l[k]=true
    ·rw [if_pos o]
     unfold scan
     by_cases c:f l[k]≤hx
     ·rw [if_pos ⟨o,c⟩] at hs;rw [if_pos c,cF hs]
     ·rw [if_neg fun q=>c q.2] at hs;rw [if_neg c,eI hs,ih (k+1) (by omega)]
    ·rw [if_neg fun q=>o q.1] at hs;rw [if_neg o,eI hs,ih (k+1) (by omega)]
 have:=key l.length 0 (by omega)
 simpa using this
theorem DJ {x:aU} {turn:Int} {s:bI} {soft:List aF} {t:bA} {q:aU} {n m:ByteArray} {g k:Int} (hT:gG x turn=some (q,n,m,g,k)) (h:DS q.aD (s.bG++s.Used) soft t) (hm:0≤t.aS∧t.aS≤14400) (hw:1≤s.cM∧s.cM≤1048576) (hh:1≤s.bP∧s.bP≤1048576) :
  ∃ o:Option (Int×Int),Lst (Fe q.aD (Kc (s.bG++s.Used) soft t) t.aS (s.cM-t.aS-xJ q.aD) (s.bP-t.aS-wX q.aD)) o ∧
    qT x turn s soft t=some (match o with | some p=>(aN.mk 0 0 p.1 p.2 turn,true,p.1,p.2,turn) | none=>(aN.mk 0 0 0 0 0,false,0,0,0)):=by
 obtain ⟨ys,y1,y2,y3,y4,y5⟩:=Wz h
 have hl:=h.hl
 rw [List.length_append] at hl
 have bw:=BH h.lv
 have bh:=BG h.lv
 have hf:∀ y,t.aS≤y→y≤s.bP-t.aS-wX q.aD→∃ x,lA q.aD (s.bG++s.Used) soft t y (s.cM-t.aS-xJ q.aD)=some (x,decide (x≤s.cM-t.aS-xJ q.aD))∧La (Dv q.aD (s.bG++s.Used) soft t y) t.aS x:=fun y q1 q2=>DF h (by omega) hm.2
 refine ⟨_,Xt (NL h) (NK h) y2 y3 y4 (f:=fx (Dv q.aD (s.bG++s.Used) soft t) t.aS) (sp:=Dv q.aD (s.bG++s.Used) soft t) (fun y q1 q2=>?_) (fun x y=>EV h x y), ?_⟩
 ·obtain ⟨x,_,e⟩:=hf y q1 q2
  rw [AY e];exact e
 ·unfold qT
  rw [hT]
  simp only [Option.bind_some,CQ (q,n,m,g,k) (show q.aD.length≤1000 by have:=h.ll;omega) h.lv]
  rw [jZ (by simp [LIM];omega)]
  simp only [List.nil_append,Option.bind_some]
  rw [jZ (by unfold LIM;omega)]
  simp only [Option.bind_some,y1]
  have lp:=Zb (fx (Dv q.aD (s.bG++s.Used) soft t) t.aS) (s.cM-t.aS-xJ q.aD) (fun y=>decide (t.aS≤y)&&decide (y≤s.bP-t.aS-wX q.aD)) ys (nM s soft t (q,n,m,g,k) (xJ q.aD,wX q.aD) (s.bG++s.Used) ys) (fun p=>.inl p) (.inr ()) (fun k y hy=>by
   have hk:=bY hy
   have hd:decide ((k:Int)<(ys.length:Int))=true:=by simp [hk]
   have e1:aI (aI s.bP t.aS) (wX q.aD)=s.bP-t.aS-wX q.aD:=by
    have e0:aI s.bP t.aS=s.bP-t.aS:=bF (by omega) (by omega)
    rw [e0,bF (by omega) (by omega)]
   have e2:aI (aI s.cM t.aS) (xJ q.aD)=s.cM-t.aS-xJ q.aD:=by
    have e0:aI s.cM t.aS=s.cM-t.aS:=bF (by omega) (by omega)
    rw [e0,bF (by omega) (by omega)]
   unfold nM nL
   simp only [hd,if_true,bE hy,Option.bind_some,e1,e2,bT k (by omega)]
   by_cases c1:y<t.aS
   ·have:¬ t.aS≤y:=by omega
    simp [c1,this]
   ·have c1':t.aS≤y:=by omega
    by_cases c2:y>s.bP-t.aS-wX q.aD
    ·have:¬ y≤s.bP-t.aS-wX q.aD:=by omega
     simp [c1,c2,this]
    ·have c2':y≤s.bP-t.aS-wX q.aD:=by omega
     obtain ⟨x,b1,b2⟩:=hf y c1' c2'
     rw [AY b2]
     simp only [c1,c2,c1',c2',decide_false,decide_true,Bool.false_eq_true,if_false,Option.bind_some,b1,Bool.and_self,true_and]
     by_cases c:x≤s.cM-t.aS-xJ q.aD <;> simp [c]) (by simp [nM])
  rw [lp]
  cases scan (fx (Dv q.aD (s.bG++s.Used) soft t) t.aS) (s.cM-t.aS-xJ q.aD) (ys.filter fun y=>decide (t.aS≤y)&&decide (y≤s.bP-t.aS-wX q.aD)) <;> rfl
theorem Ov (t:bA):∃ b,cX t=some b∧dD t=some b∧(b=true→(0≤t.Gap∧t.Gap≤14400)∧(0≤t.aS∧t.aS≤14400)):=by
 obtain ⟨b,h1,h2⟩:=Gh t
 refine ⟨b,h1,h2,fun hb=>?_⟩
 subst hb
 unfold cX at h1
 simp only [yG,Option.bind_some] at h1
 by_cases h:0≤t.Gap∧t.Gap≤14400
 ·refine ⟨h, ?_⟩
  simpa [h] using h1
 ·simp [h] at h1
theorem GV (x:List aF) (hx:x.length≤1000) (out0:List aT) (h0:out0.length≤100000):aM (oZ x) (0,out0)=some (out0++x.map fun r=>⟨r,0,false⟩):=by
 obtain ⟨a,q1,q2⟩:=mF x (fun k (s:List aT)=>((k:Int),s)) (oZ x) (fun s=>s) (fun k s=>s=out0++(x.take k).map fun r=>⟨r,0,false⟩) out0 (by simp)
  (fun k r s hr hI=>by
   have hk:=bY hr
   have hd:decide ((k:Int)<(x.length:Int))=true:=by simp [hk]
   unfold oZ
   simp only [hd,if_true,bE hr,Option.bind_some,bT k (by omega)]
   rw [jZ (by rw [hI];simp [LIM];omega)]
   refine ⟨_,rfl, ?_⟩
   rw [fI hr,hI];simp) (fun s _=>by simp [oZ])
 rw [List.take_length] at q2
 rw [show ((0:Int),out0)=(((0:Nat):Int),out0) from rfl,q1,q2]
theorem NI (s:bI) (h1:s.bG.length≤1000) (h2:s.Used.length≤1000):aM (gT s) (0,[])=some ((s.bG++s.Used).map fun r=>⟨r,0,false⟩):=by
 have i0:idx [s.bG,s.Used] 0=some s.bG:=rfl
 have i1:idx [s.bG,s.Used] 1=some s.Used:=rfl
 have d0:decide ((0:Int)<(([s.bG,s.Used]:List (List aF)).length:Int))=true:=rfl
 have d1:decide ((1:Int)<(([s.bG,s.Used]:List (List aF)).length:Int))=true:=rfl
 have d2:decide ((2:Int)<(([s.bG,s.Used]:List (List aF)).length:Int))=false:=rfl
 have s0:gT s (0,[])=some (.inl (1,s.bG.map fun r=>⟨r,0,false⟩)):=by
  unfold gT
  simp only [i0,d0,if_true,Option.bind_some,GV s.bG h1 [] (by simp),List.nil_append]
  rfl
 have s1:gT s (1,s.bG.map fun r=>⟨r,0,false⟩)=some (.inl (2,(s.bG.map fun r=>(⟨r,0,false⟩:aT))++s.Used.map fun r=>⟨r,0,false⟩)):=by
  unfold gT
  simp only [i1,d1,if_true,Option.bind_some,GV s.Used h2 _ (show (s.bG.map fun r=>(⟨r,0,false⟩:aT)).length≤100000 by rw [List.length_map];omega)]
  rfl
 have s2:∀ o,gT s (2,o)=some (.inr o):=fun o=>by
  unfold gT
  simp only [d2,Bool.false_eq_true,if_false]
 rw [eI s0,eI s1,cF (s2 _),List.map_append]
theorem NJ (t:bA) (x:List aF) (hx:x.length≤1000) (hv:∀ r ∈ x,vR r) (out0:List aT) (h0:out0.length≤100000):aM (pE t x) (0,out0)=some (out0++x.map fun r=>⟨r,t.Gap,t.dM⟩):=by
 obtain ⟨a,q1,q2⟩:=mF x (fun k (s:List aT)=>((k:Int),s)) (pE t x) (fun s=>s) (fun k s=>s=out0++(x.take k).map fun r=>⟨r,t.Gap,t.dM⟩) out0 (by simp)
  (fun k r s hr hI=>by
   have hk:=bY hr
   have hd:decide ((k:Int)<(x.length:Int))=true:=by simp [hk]
   have vr:=hv r (List.mem_of_getElem? hr)
   unfold pE sV
   simp only [hd,if_true,bE hr,Option.bind_some,nB,vr,decide_true,bT k (by omega)]
   rw [jZ (by rw [hI];simp [LIM];omega)]
   refine ⟨_,rfl, ?_⟩
   rw [fI hr,hI];simp) (fun s _=>by simp [pE])
 rw [List.take_length] at q2
 rw [show ((0:Int),out0)=(((0:Nat):Int),out0) from rfl,q1,q2]
theorem Vm {taken:List (List aF)} (h12:∀ x ∈ taken,x.length≤12):taken.flatten.length≤12*taken.length:=by
 induction taken with
 | nil=>simp
 | cons x t ih =>
   have h1:=ih fun y hy=>h12 y (List.mem_cons_of_mem _ hy)
   have h2:=h12 x List.mem_cons_self
   rw [List.flatten_cons,List.length_append,List.length_cons];omega
theorem Vq {s:bI} {taken:List (List aF)} {t:bA} (h1:s.bG.length≤4) (h2:s.Used.length≤48) (hl:taken.length≤8) (h12:∀ x ∈ taken,x.length≤12) (hv:∀ x ∈ taken,∀ r ∈ x,vR r) :
  wQ s taken t=some ((s.bG++s.Used).map (fun r=>⟨r,0,false⟩)++taken.flatten.map fun r=>⟨r,t.Gap,t.dM⟩):=by
 unfold wQ
 rw [NI s (by omega) (by omega)]
 simp only [Option.bind_some]
 obtain ⟨a,q1,q2,q3⟩:=mF taken (fun k (o:List aT)=>((k:Int),o)) (sW taken t) (fun o=>o) (fun k o=>o=((s.bG++s.Used).map fun r=>(⟨r,0,false⟩:aT))++(taken.take k).flatten.map (fun r=>⟨r,t.Gap,t.dM⟩)∧o.length≤52+12*k) ((s.bG++s.Used).map fun r=>⟨r,0,false⟩) ⟨by simp,by rw [List.length_map,List.length_append];omega⟩
  (fun k x o hx hI=>by
   have hk:=bY hx
   have hd:decide ((k:Int)<(taken.length:Int))=true:=by simp [hk]
   obtain ⟨i1,i2⟩:=hI
   have hxm:=List.mem_of_getElem? hx
   have hx12:=h12 x hxm
   unfold sW
   simp only [hd,if_true,bE hx,Option.bind_some,NJ t x (by omega) (hv x hxm) o (by omega),bT k (by omega)]
   refine ⟨_,rfl, ?_,by simp only [List.length_append,List.length_map];omega⟩
   rw [fI hx,List.flatten_append,i1];simp) (fun o _=>by simp [sW])
 rw [List.take_length] at q2
 rw [show ((0:Int),(s.bG++s.Used).map fun r=>(⟨r,0,false⟩:aT))=(((0:Nat):Int),(s.bG++s.Used).map fun r=>(⟨r,0,false⟩:aT)) from rfl,q1,q2]
 rfl
def Sd (taken:List (List aF)):Bool:=taken.any fun x=>decide (x.length>12)
def CJ (taken:List (List aF)):Bool:=taken.any fun x=>x.any fun r=>!decide (vR r)
theorem JC (taken:List (List aF)):yN taken=some (if taken.length>8 then 4 else if Sd taken then 4 else if CJ taken then 1 else 0):=by
 unfold yN
 by_cases h8:taken.length>8
 ·have:(taken.length:Int)>8:=by omega
  simp [h8,this]
 have h8':¬ (taken.length:Int)>8:=by omega
 simp only [h8,h8',decide_false,Bool.false_eq_true,if_false]
 have e1:aM (qD taken) 0=some (if Sd taken then .inl () else .inr ()):=by
  refine dB taken (qD taken) (fun k=>(k:Int)) (fun x=>decide (x.length>12)) _ _ rfl (fun k x hx=>?_) ?_
  ·have hk:=bY hx
   have hd:decide ((k:Int)<(taken.length:Int))=true:=by simp [hk]
   unfold qD
   simp only [hd,if_true,bE hx,Option.bind_some,bT k (by omega)]
   by_cases c:x.length>12
   ·have:(x.length:Int)>12:=by omega
    simp [c,this]
   ·have:¬ (x.length:Int)>12:=by omega
    simp [c,this]
  ·simp [qD]
 rw [e1,Option.bind_some]
 cases hL:Sd taken with
 | true=>rfl
 | false =>
   have h12:∀ x ∈ taken,x.length≤12:=fun x hx=>by
    have:=List.any_eq_false.1 hL x hx
    simpa using this
   have e2:aM (qE taken) 0=some (if CJ taken then .inl () else .inr ()):=by
    refine dB taken (qE taken) (fun k=>(k:Int)) (fun x=>x.any fun r=>!decide (vR r)) _ _ rfl (fun k x hx=>?_) ?_
    ·have hk:=bY hx
     have hd:decide ((k:Int)<(taken.length:Int))=true:=by simp [hk]
     have:=h12 x (List.mem_of_getElem? hx)
     unfold qE
     simp only [hd,if_true,bE hx,Option.bind_some,gE x (by omega),bT k (by omega),Bool.not_not]
    ·simp [qE]
   simp only [Bool.false_eq_true,if_false,e2,Option.bind_some]
   cases CJ taken <;> rfl
theorem Pb {taken:List (List aF)} (h8:taken.length≤8):aM (gF taken) (0,[])=some (if Sd taken then .inl () else .inr taken.flatten):=by
 have key:∀ (n k:Nat),k+n=taken.length→(∀ x ∈ taken.take k,x.length≤12)→aM (gF taken) ((k:Int),(taken.take k).flatten)=some (if (taken.drop k).any (fun x=>decide (x.length>12)) then .inl () else .inr taken.flatten):=by
  intro n
  induction n with
  | zero =>
    intro k h _;obtain rfl:k=taken.length:=by omega
    rw [List.drop_length,List.take_length]
    rw [cF (r:=.inr taken.flatten) (by simp [gF])];rfl
  | succ n ih =>
    intro k h h12
    have hk:k<taken.length:=by omega
    have hx:taken[k]?=some taken[k]:=by simp
    have hd:decide ((k:Int)<(taken.length:Int))=true:=by simp [hk]
    rw [List.drop_eq_getElem_cons hk,List.any_cons]
    by_cases c:taken[k].length>12
    ·have c':(taken[k].length:Int)>12:=by omega
     rw [cF (r:=.inl ()) (by unfold gF;simp [hk,bE hx,c'])]
     simp [c]
    ·have c':¬ (taken[k].length:Int)>12:=by omega
     have lf:=Vm h12
     rw [List.length_take] at lf
     have step:gF taken ((k:Int),(taken.take k).flatten)=some (.inl (((k+1:Nat):Int),(taken.take (k+1)).flatten)):=by
      unfold gF
      simp only [hd,if_true,bE hx,Option.bind_some,c',decide_false,Bool.false_eq_true,if_false,bT k (by omega)]
      rw [jZ (by unfold LIM;omega),fI hx,List.flatten_append];simp
     rw [eI step,ih (k+1) (by omega) (fun x hx'=>by
      rw [fI hx] at hx'
      rcases List.mem_append.1 hx' with q | q
      ·exact h12 x q
      ·simp at q;subst q;omega)]
     simp [c]
 exact key taken.length 0 (by omega) (by simp)
def upd (st:Bool×Int×Int×Int) (n:Int) (o:Option (Int×Int)):Bool×Int×Int×Int:=match o with
 | none=>st
 | some p=>if st.1=false∨p.2<st.2.2.1∨(p.2=st.2.2.1∧p.1<st.2.1) then (true,p.1,p.2,n) else st
def iJ (P:Nat→Option (Int×Int)) (k:Nat):Bool×Int×Int×Int:=(List.range k).foldl (fun st (n:Nat)=>upd st (n:Int) (P n)) (false,0,0,0)
theorem Dq (P:Nat→Option (Int×Int)) (k:Nat):iJ P (k+1)=upd (iJ P k) (k:Int) (P k):=by
 unfold iJ;rw [List.range_succ,List.foldl_append];rfl
structure Lc (x:aU) (s:bI) (obs:List (aF×Int×Bool)) (m:Int) (P:Nat→Option (Int×Int)):Prop where
 al:∀ n:Nat,n<4→eJ x s (n:Int)=some true→Lst (Fe (trn n x.aD x.aD) obs m (s.cM-m-xJ (trn n x.aD x.aD)) (s.bP-m-wX (trn n x.aD x.aD))) (P n)
 no:∀ n:Nat,n<4→eJ x s (n:Int)=some false→P n=none
theorem Lc.same {x:aU} {s:bI} {obs:List (aF×Int×Bool)} {m:Int} {P P':Nat→Option (Int×Int)} (h:Lc x s obs m P) (h':Lc x s obs m P'):∀ n,n<4→P n=P' n:=fun n hn=>by
 obtain ⟨b,h1,_⟩:=wJ x s (n:Int)
 cases b with
 | true=>exact Sf (h.al n hn h1) (h'.al n hn h1)
 | false=>rw [h.no n hn h1,h'.no n hn h1]
theorem Ie {P P':Nat→Option (Int×Int)} (h:∀ n,n<4→P n=P' n):∀ k,k≤4→iJ P k=iJ P' k
 | 0,_=>rfl
 | k+1,hk=>by rw [Dq,Dq,Ie h k (by omega),h k (by omega)]
theorem Qs {x:aU} (hx:bB x=some 0) (n:Nat) (hn:n≤3) :
  (∃ a b c d e f g h i j,tH x ⟨0,0,0,0,(n:Int)⟩=some (⟨a,b,c,d,trn n x.aD x.aD,e,f⟩,0,g,h,i,j))∧(∃ q m k g h,gG x (n:Int)=some (q,m,k,g,h)∧q.aD=trn n x.aD x.aD) ∧
   (∀ r ∈ trn n x.aD x.aD,vR r∧0≤r.X∧0≤r.Y)∧(trn n x.aD x.aD).length≤12∧0<(trn n x.aD x.aD).length:=by
 obtain ⟨z,hz,_,hv⟩:=vH x
 have h:=hv (Option.some.inj (hz.symm.trans hx))
 have g1:Good 0 0 x.aD:=⟨h.n1,h.v1⟩
 obtain ⟨p1,_⟩:=AJ hx n hn
 obtain ⟨r,t,hc⟩:∃ r t,tq n x.aD=r::t:=by
  cases e:tq n x.aD with
  | nil=>exact absurd e (BZ n h.n0)
  | cons r t=>exact ⟨r,t,rfl⟩
 obtain ⟨⟨lx1,lx2,lx3,lx4⟩,ly1,ly2,ly3,ly4⟩:=Se (g1.tq n) hc
 have k1:=uL (g1.tq n) ⟨lx1,lx2⟩ ⟨ly1,ly2⟩ ⟨lx3,lx4⟩ ⟨ly3,ly4⟩
 have hlo:lo (tq n x.aD)=(nE (tq n x.aD) r.X,nF (tq n x.aD) r.Y):=by
  rw [show lo (tq n x.aD)=lo (r::t) by rw [hc],lo,hc]
 have e0:=Lp (g1.tq n) ⟨lx3,lx4⟩ ⟨ly3,ly4⟩
 have e1:trn n x.aD x.aD=(tq n x.aD).map (trR (-(nE (tq n x.aD) r.X)) (-(nF (tq n x.aD) r.Y))):=by unfold trn nrm;rw [hlo]
 have hlen:(trn n x.aD x.aD).length=x.aD.length:=by rw [e1,List.length_map,Du]
 have hT:=Tu h n hn hc
 refine ⟨?_,⟨_,_,_,_,_,hT,by rw [e1,← e0]⟩,fun q hq=>?_,by rw [hlen];exact h.n1,by rw [hlen];exact h.n0⟩
 ·unfold tD at p1
  simp only [hx,Option.bind_some,bne_self_eq_false,Bool.false_eq_true,if_false,yG,show (0≤(n:Int)∧(n:Int)≤3) by omega,show ((-1048576:Int)≤0∧(0:Int)≤1048576) by omega,and_self,decide_true,Bool.not_true,if_true] at p1
  cases e:tH x ⟨0,0,0,0,(n:Int)⟩ with
  | none=>rw [e] at p1;cases p1
  | some v =>
    rw [e] at p1
    obtain ⟨v1,v2,v3,v4,v5,v6⟩:=v
    simp only [Option.bind_some,Option.some.injEq,Prod.mk.injEq] at p1
    obtain ⟨w1,w2,w3,w4,w5,w6⟩:=p1
    have w1':v1=(⟨x.Name,x.bD,x.cE,x.bQ,trn n x.aD x.aD,trn n x.aD x.bN,trn n x.aD x.Forms⟩:aU):=w1
    subst w1' w2
    exact ⟨_,_,_,_,_,_,_,_,_,_,rfl⟩
 ·have v:=(k1.2 q (by rw [e0,← e1];exact hq)).1
  refine ⟨v, ?_, ?_⟩
  ·rw [e1] at hq
   obtain ⟨a,ha,rfl⟩:=List.mem_map.1 hq
   have:=(Ng (l:=tq n x.aD) (g:=fun r=>r.X) (a:=r.X)).2 a ha
   show 0≤a.X+-(nE (tq n x.aD) r.X)
   unfold nE
   omega
  ·rw [e1] at hq
   obtain ⟨a,ha,rfl⟩:=List.mem_map.1 hq
   have:=(Ng (l:=tq n x.aD) (g:=fun r=>r.Y) (a:=r.Y)).2 a ha
   show 0≤a.Y+-(nF (tq n x.aD) r.Y)
   unfold nF
   omega
theorem FW {x:aU} {s:bI} {t:bA} {obs:List aT} (hx:bB x=some 0) (hw:1≤s.cM∧s.cM≤1048576) (hh:1≤s.bP∧s.bP≤1048576) (hm:0≤t.aS∧t.aS≤14400) (h1:0≤s.cM-2*t.aS) (h2:0≤s.bP-2*t.aS) (ob:∀ o ∈ obs,BO o) (ol:obs.length≤1000) (n:Nat) (hn:n<4) :
  ∃ o:Option (Int×Int),(eJ x s (n:Int)=some true→Lst (Fe (trn n x.aD x.aD) (Zf obs) t.aS (s.cM-t.aS-xJ (trn n x.aD x.aD)) (s.bP-t.aS-wX (trn n x.aD x.aD))) o)∧(eJ x s (n:Int)=some false→o=none) ∧
    ∀ st:Bool×Int×Int×Int,tS s x (⟨t.aS,t.aS,s.cM-2*t.aS,s.bP-2*t.aS⟩,true) obs (st.1,(n:Int),st.2.1,st.2.2.1,st.2.2.2)=some (.inl ((upd st (n:Int) o).1,((n+1:Nat):Int),(upd st (n:Int) o).2.1,(upd st (n:Int) o).2.2.1,(upd st (n:Int) o).2.2.2)):=by
 obtain ⟨b,hb,_⟩:=wJ x s (n:Int)
 have hd:decide ((n:Int)<4)=true:=by simp;omega
 cases b with
 | false =>
   refine ⟨none,fun q=>(by rw [hb] at q;cases q),fun _=>rfl,fun st=>?_⟩
   unfold tS vQ
   simp only [hd,if_true,hb,Option.bind_some,Bool.not_false,bT n (by omega),upd]
 | true =>
   obtain ⟨⟨a,b,c,d,e,f,g,h,i,j,p1⟩,_,p3,p4,p5⟩:=Qs hx n (by omega)
   have hv:∀ r ∈ trn n x.aD x.aD,vR r:=fun r hr=>(p3 r hr).1
   have bw:=BH hv
   have bh:=BG hv
   have bs:BS (eU.mk (trn n x.aD x.aD) obs ⟨t.aS,t.aS,s.cM-2*t.aS,s.bP-2*t.aS⟩ (xJ (trn n x.aD x.aD)) (wX (trn n x.aD x.aD))):=⟨hv,p4,ob,ol⟩
   obtain ⟨o,o1,o2⟩:=HK bs hm rfl rfl (show 0≤s.cM-2*t.aS∧s.cM-2*t.aS≤1048576 by omega) (show 0≤s.bP-2*t.aS∧s.bP-2*t.aS≤1048576 by omega) (show 0≤xJ (trn n x.aD x.aD)∧xJ (trn n x.aD x.aD)≤4194304 by omega) (show 0≤wX (trn n x.aD x.aD)∧wX (trn n x.aD x.aD)≤4194304 by omega)
   simp only at o1
   rw [show t.aS+(s.cM-2*t.aS)-xJ (trn n x.aD x.aD)=s.cM-t.aS-xJ (trn n x.aD x.aD) by omega,show t.aS+(s.bP-2*t.aS)-wX (trn n x.aD x.aD)=s.bP-t.aS-wX (trn n x.aD x.aD) by omega] at o1
   refine ⟨o,fun _=>o1,fun q=>(by rw [hb] at q;cases q),fun st=>?_⟩
   have pm:=DK (⟨a,b,c,d,trn n x.aD x.aD,e,f⟩,0,g,h,i,j) (show (trn n x.aD x.aD).length≤1000 by omega) hv
   unfold tS vQ
   simp only [hd,if_true,hb,Option.bind_some,Bool.not_true,Bool.false_eq_true,if_false,p1,bne_self_eq_false,pm,o2,bT n (by omega)]
   cases o with
   | none=>simp [upd]
   | some p =>
     obtain ⟨f0,x0,y0,t0⟩:=st
     simp only [upd,if_true]
     cases f0 with
     | false=>simp
     | true =>
       by_cases c1:p.2<y0
       ·simp [c1]
       ·by_cases c2:p.2=y0
        ·by_cases c3:p.1<x0 <;> simp [c2,c3]
        ·simp [c1,c2]
theorem FV {x:aU} {s:bI} {r:aF×Bool} {obs:List aT} {P:Nat→Option (Int×Int)}
  (h:∀ n:Nat,n<4→∀ st:Bool×Int×Int×Int,tS s x r obs (st.1,(n:Int),st.2.1,st.2.2.1,st.2.2.2)=some (.inl ((upd st (n:Int) (P n)).1,((n+1:Nat):Int),(upd st (n:Int) (P n)).2.1,(upd st (n:Int) (P n)).2.2.1,(upd st (n:Int) (P n)).2.2.2))) :
  aM (tS s x r obs) (false,0,0,0,0)=some ((iJ P 4).1,(iJ P 4).2.1,(iJ P 4).2.2.1,(iJ P 4).2.2.2):=by
 obtain ⟨a,q1,q2⟩:=mF (List.range 4) (fun k (st:Bool×Int×Int×Int)=>(st.1,(k:Int),st.2.1,st.2.2.1,st.2.2.2)) (tS s x r obs) (fun st=>(st.1,st.2.1,st.2.2.1,st.2.2.2)) (fun k st=>st=iJ P k) (false,0,0,0) rfl
  (fun k n st hk hI=>by
   have hk4:=bY hk
   rw [List.length_range] at hk4
   exact ⟨_,h k hk4 st,by rw [Dq,hI]⟩) (fun st _=>by simp [tS])
 rw [show ((false,(0:Int),(0:Int),(0:Int),(0:Int)):Bool×Int×Int×Int×Int)=(false,((0:Nat):Int),0,0,0) from rfl]
 exact q1.trans (by rw [q2];rfl)
theorem Uk {x:aU} {s:bI} {soft:List aF} {t:bA} (hx:bB x=some 0) (hs:VS s) (hm:0≤t.aS∧t.aS≤14400) (hg:0≤t.Gap∧t.Gap≤14400) (sv:∀ r ∈ soft,vR r) (sl:soft.length≤100) (n:Nat) (hn:n<4) :
  ∃ o:Option (Int×Int),(eJ x s (n:Int)=some true→Lst (Fe (trn n x.aD x.aD) (Kc (s.bG++s.Used) soft t) t.aS (s.cM-t.aS-xJ (trn n x.aD x.aD)) (s.bP-t.aS-wX (trn n x.aD x.aD))) o)∧(eJ x s (n:Int)=some false→o=none) ∧
    ∀ st:Bool×Int×Int×Int,fA s soft x t (st.1,(n:Int),0,0,st.2.1,st.2.2.1,st.2.2.2)=some (.inl ((upd st (n:Int) o).1,((n+1:Nat):Int),0,0,(upd st (n:Int) o).2.1,(upd st (n:Int) o).2.2.1,(upd st (n:Int) o).2.2.2)):=by
 obtain ⟨b,hb',hb⟩:=wJ x s (n:Int)
 have hd:decide ((n:Int)<4)=true:=by simp;omega
 cases b with
 | false =>
   refine ⟨none,fun q=>(by rw [hb'] at q;cases q),fun _=>rfl,fun st=>?_⟩
   unfold fA iU
   simp only [hd,if_true,hb,Option.bind_some,Bool.not_false,bT n (by omega),upd]
 | true =>
   obtain ⟨_,⟨q,m,k,g,h,p1,p2⟩,p3,p4,p5⟩:=Qs hx n (by omega)
   rw [← p2] at p3 p4 p5 ⊢
   have ds:DS q.aD (s.bG++s.Used) soft t:=⟨fun r hr=>(p3 r hr).1,p4,hs.v,by have:=hs.n1;have:=hs.n2;rw [List.length_append];omega,sv,sl,hg⟩
   obtain ⟨o,o1,o2⟩:=DJ p1 ds hm hs.w hs.h
   refine ⟨o,fun _=>o1,fun z=>(by rw [hb'] at z;cases z),fun st=>?_⟩
   unfold fA iU
   simp only [hd,if_true,hb,Option.bind_some,Bool.not_true,Bool.false_eq_true,if_false,o2,bT n (by omega)]
   cases o with
   | none=>simp [upd]
   | some p =>
     obtain ⟨f0,x0,y0,t0⟩:=st
     simp only [upd,if_true]
     cases f0 with
     | false=>simp
     | true =>
       by_cases c1:p.2<y0
       ·simp [c1]
       ·by_cases c2:p.2=y0
        ·by_cases c3:p.1<x0 <;> simp [c2,c3]
        ·simp [c1,c2]
theorem Uj {x:aU} {s:bI} {soft:List aF} {t:bA} {P:Nat→Option (Int×Int)}
  (h:∀ n:Nat,n<4→∀ st:Bool×Int×Int×Int,fA s soft x t (st.1,(n:Int),0,0,st.2.1,st.2.2.1,st.2.2.2)=some (.inl ((upd st (n:Int) (P n)).1,((n+1:Nat):Int),0,0,(upd st (n:Int) (P n)).2.1,(upd st (n:Int) (P n)).2.2.1,(upd st (n:Int) (P n)).2.2.2))) :
  lN s soft x t=some (aN.mk 0 0 (iJ P 4).2.1 (iJ P 4).2.2.1 (iJ P 4).2.2.2,(iJ P 4).1,0,0,(iJ P 4).2.1,(iJ P 4).2.2.1,(iJ P 4).2.2.2):=by
 obtain ⟨a,q1,q2⟩:=mF (List.range 4) (fun k (st:Bool×Int×Int×Int)=>(st.1,(k:Int),(0:Int),(0:Int),st.2.1,st.2.2.1,st.2.2.2)) (fA s soft x t) (fun st=>(st.1,0,0,st.2.1,st.2.2.1,st.2.2.2)) (fun k st=>st=iJ P k) (false,0,0,0) rfl
  (fun k n st hk hI=>by
   have hk4:=bY hk
   rw [List.length_range] at hk4
   exact ⟨_,h k hk4 st,by rw [Dq,hI]⟩) (fun st _=>by simp [fA])
 unfold lN
 have q1':aM (fA s soft x t) (false,0,0,0,0,0,0)=some ((iJ P 4).1,0,0,(iJ P 4).2.1,(iJ P 4).2.2.1,(iJ P 4).2.2.2):=q1.trans (by rw [q2];rfl)
 rw [q1'];rfl
theorem Vk {Q:Nat→Option (Int×Int)→Prop} (H:∀ n:Nat,n<4→∃ o,Q n o):∃ P:Nat→Option (Int×Int),∀ n:Nat,n<4→Q n (P n):=by
 refine ⟨fun n=>if hn:n<4 then Classical.choose (H n hn) else none,fun n hn=>?_⟩
 simp only [hn,dite_true]
 exact Classical.choose_spec (H n hn)
theorem NH (s:bI) (taken:List (List aF)) (t:bA):Zf ((s.bG++s.Used).map (fun r=>(⟨r,0,false⟩:aT))++taken.flatten.map fun r=>⟨r,t.Gap,t.dM⟩)=Kc (s.bG++s.Used) taken.flatten t:=by
 unfold Zf Kc
 rw [List.map_append,List.map_map,List.map_map];rfl
theorem GH {s:bI} {m:Int} (hs:VS s) (hm:0≤m∧m≤14400):oL s m=some (⟨m,m,s.cM-2*m,s.bP-2*m⟩,decide (0<s.cM-2*m∧0<s.bP-2*m)):=by
 have hw:=hs.w;have hh:=hs.h
 unfold oL
 have e0:eS 2 m=2*m:=De (by omega) (by omega)
 rw [e0,bF (by omega) (by omega),bF (by omega) (by omega),nB]
 simp only [Option.bind_some]
 congr 2
 exact decide_eq_decide.2 (by unfold vR;simp only;omega)
structure PO (s:bI) (taken:List (List aF)) (x:aU) (t:bA) (pl:aN) (ok:Bool):Prop where
 vs:VS s
 vx:bB x=some 0
 tl:taken.length≤8
 t12:∀ l ∈ taken,l.length≤12
 tv:∀ l ∈ taken,∀ r ∈ l,vR r
 g:0≤t.Gap∧t.Gap≤14400
 m:0≤t.aS∧t.aS≤14400
 ex:∃ P,Lc x s (Kc (s.bG++s.Used) taken.flatten t) t.aS P∧pl=⟨0,0,(iJ P 4).2.1,(iJ P 4).2.2.1,(iJ P 4).2.2.2⟩∧ok=(iJ P 4).1
theorem Yd {x:aU} (hx:bB x=some 0) {n:Nat} (hn:n<4):1≤xJ (trn n x.aD x.aD)∧1≤wX (trn n x.aD x.aD):=by
 obtain ⟨_,_,p3,p4,p5⟩:=Qs hx n (by omega)
 obtain ⟨r,hr⟩:=List.exists_mem_of_ne_nil _ (List.length_pos_iff.1 p5)
 obtain ⟨v,x0,y0⟩:=p3 r hr
 unfold vR at v
 have h1:=(foldl_max (l:=trn n x.aD x.aD) (g:=fun r=>r.X+r.W) (a:=0)).2 r hr
 have h2:=(foldl_max (l:=trn n x.aD x.aD) (g:=fun r=>r.Y+r.H) (a:=0)).2 r hr
 unfold xJ wX
 omega
theorem CK:iJ (fun _=>none) 4=(false,0,0,0):=rfl
theorem ET (s:bI) (taken:List (List aF)) (x:aU) (t:bA):∃ pl ok e u1 u2 u3 w1 w2 w3 w4 w5,Hq s taken x t=some (pl,ok,e,u1,u2,u3)∧wY s taken x t=some (pl,ok,e,w1,w2,w3,w4,w5) ∧
  (e≠0→pl=⟨0,0,0,0,0⟩∧ok=false)∧(e=0→PO s taken x t pl ok):=by
 obtain ⟨a,a1,a2,a3⟩:=Jk s
 obtain ⟨b,b1,b2,b3⟩:=vH x
 obtain ⟨c,c1,c2,c3⟩:=Ov t
 unfold Hq wY
 simp only [a1,a2,Option.bind_some,JC]
 by_cases ha:a=0
 case neg =>
  have ha':(a != 0)=true:=by rw [bne_iff_ne];exact ha
  simp only [ha',if_true]
  exact ⟨_,_,_,_,_,_,_,_,_,_,_,rfl,rfl,fun _=>⟨rfl,rfl⟩,fun q=>absurd q ha⟩
 subst ha
 have vs:=a3 rfl
 simp only [bne_self_eq_false,Bool.false_eq_true,if_false]
 by_cases h8:taken.length>8
 ·have h8':(taken.length:Int)>8:=by omega
  simp only [h8,h8',if_true,decide_true,show ((4:Int) != 0)=true from rfl]
  exact ⟨_,_,_,_,_,_,_,_,_,_,_,rfl,rfl,fun _=>⟨rfl,rfl⟩,fun q=>absurd q (by decide)⟩
 have h8':¬ (taken.length:Int)>8:=by omega
 have tl:taken.length≤8:=by omega
 simp only [h8,h8',if_false,decide_false,Bool.false_eq_true,Pb tl,Option.bind_some]
 cases hL:Sd taken with
 | true =>
   simp only [if_true,show ((4:Int) != 0)=true from rfl]
   exact ⟨_,_,_,_,_,_,_,_,_,_,_,rfl,rfl,fun _=>⟨rfl,rfl⟩,fun q=>absurd q (by decide)⟩
 | false =>
 have t12:∀ l ∈ taken,l.length≤12:=fun l hl=>by
  have:=List.any_eq_false.1 hL l hl
  simpa using this
 have lf:=Vm t12
 have hbad:(taken.flatten.any fun r=>!decide (vR r))=CJ taken:=by
  unfold CJ
  rw [Bool.eq_iff_iff,List.any_eq_true,List.any_eq_true]
  constructor
  ·rintro ⟨r,hr,h⟩
   obtain ⟨l,hl,hr⟩:=List.mem_flatten.1 hr
   exact ⟨l,hl,List.any_eq_true.2 ⟨r,hr,h⟩⟩
  ·rintro ⟨l,hl,h⟩
   obtain ⟨r,hr,h⟩:=List.any_eq_true.1 h
   exact ⟨r,List.mem_flatten.2 ⟨l,hl,hr⟩,h⟩
 simp only [Bool.false_eq_true,if_false,mQ taken.flatten (by omega),hbad,Option.bind_some]
 cases hB:CJ taken with
 | true =>
   simp only [if_true,show ((1:Int) != 0)=true from rfl,Bool.not_true,Bool.not_false]
   exact ⟨_,_,_,_,_,_,_,_,_,_,_,rfl,rfl,fun _=>⟨rfl,rfl⟩,fun q=>absurd q (by decide)⟩
 | false =>
 have tv:∀ l ∈ taken,∀ r ∈ l,vR r:=fun l hl r hr=>by
  have:=List.any_eq_false.1 (show (taken.flatten.any fun r=>!decide (vR r))=false by rw [hbad,hB]) r (List.mem_flatten.2 ⟨l,hl,hr⟩)
  simpa using this
 simp only [Bool.false_eq_true,if_false,bne_self_eq_false,Bool.not_false,Bool.not_true,b1,b2,Option.bind_some]
 by_cases hb:b=0
 case neg =>
  have hb':(b != 0)=true:=by rw [bne_iff_ne];exact hb
  simp only [hb',if_true]
  exact ⟨_,_,_,_,_,_,_,_,_,_,_,rfl,rfl,fun _=>⟨rfl,rfl⟩,fun q=>absurd q hb⟩
 subst hb
 simp only [bne_self_eq_false,Bool.false_eq_true,if_false,c1,c2,Option.bind_some]
 cases c with
 | false =>
   simp only [Bool.not_false,if_true]
   exact ⟨_,_,_,_,_,_,_,_,_,_,_,rfl,rfl,fun _=>⟨rfl,rfl⟩,fun q=>absurd q (by decide)⟩
 | true =>
 obtain ⟨cg,cm⟩:=c3 rfl
 simp only [Bool.not_true,Bool.false_eq_true,if_false,GH vs cm,Option.bind_some]
 have n1:=vs.n1;have n2:=vs.n2
 have sv:∀ r ∈ taken.flatten,vR r:=fun r hr=>by
  obtain ⟨l,hl,hr⟩:=List.mem_flatten.1 hr
  exact tv l hl r hr
 obtain ⟨P',hP'⟩:=Vk (fun n hn=>Uk b1 vs cm cg sv (by omega) n hn)
 have T':Lc x s (Kc (s.bG++s.Used) taken.flatten t) t.aS P':=⟨fun n hn=>(hP' n hn).1,fun n hn=>(hP' n hn).2.1⟩
 have fD:=Uj (fun n hn=>(hP' n hn).2.2)
 by_cases hi:0<s.cM-2*t.aS∧0<s.bP-2*t.aS
 ·have ol:(((s.bG++s.Used).map (fun r=>(⟨r,0,false⟩:aT))++taken.flatten.map fun r=>(⟨r,t.Gap,t.dM⟩:aT))).length≤1000:=by
   simp only [List.length_append,List.length_map];omega
  have ob:∀ o ∈ ((s.bG++s.Used).map (fun r=>(⟨r,0,false⟩:aT))++taken.flatten.map fun r=>(⟨r,t.Gap,t.dM⟩:aT)),BO o:=fun o ho=>by
   rcases List.mem_append.1 ho with q | q
   ·obtain ⟨r,hr,rfl⟩:=List.mem_map.1 q
    exact ⟨vs.v r hr,show (0:Int)≤0∧(0:Int)≤14400 by omega⟩
   ·obtain ⟨r,hr,rfl⟩:=List.mem_map.1 q
    exact ⟨sv r hr,cg⟩
  obtain ⟨P,hP⟩:=Vk (fun n hn=>FW b1 vs.w vs.h cm (by omega) (by omega) ob ol n hn)
  have T:Lc x s (Kc (s.bG++s.Used) taken.flatten t) t.aS P:=⟨fun n hn=>by rw [← NH];exact (hP n hn).1,fun n hn=>(hP n hn).2.1⟩
  have fP:=FV (fun n hn=>(hP n hn).2.2)
  have eb:iJ P 4=iJ P' 4:=Ie (T.same T') 4 (Nat.le_refl 4)
  simp only [hi,and_self,decide_true,Bool.not_true,Bool.false_eq_true,if_false,Vq n1 n2 tl t12 tv,Option.bind_some,fP,fD,eb]
  exact ⟨_,_,_,_,_,_,_,_,_,_,_,rfl,rfl,fun q=>absurd rfl q,fun _=>⟨vs,b1,tl,t12,tv,cg,cm,P',T',rfl,rfl⟩⟩
 ·have eb:iJ P' 4=(false,0,0,0):=by
   rw [← CK]
   refine Ie (fun n hn=>?_) 4 (Nat.le_refl 4)
   obtain ⟨al,h1,_⟩:=wJ x s (n:Int)
   cases al with
   | false=>exact T'.no n hn h1
   | true =>
     refine Sf (T'.al n hn h1) fun u v q=>hi ?_
     obtain ⟨w1,w2⟩:=Yd b1 hn
     have:=q.1;have:=q.2.1;have:=q.2.2.1;have:=q.2.2.2.1
     omega
  simp only [hi,decide_false,Bool.not_false,if_true,fD,Option.bind_some,eb]
  refine ⟨_,_,_,_,_,_,_,_,_,_,_,rfl,rfl,fun q=>absurd rfl q,fun _=>⟨vs,b1,tl,t12,tv,cg,cm,P',T', ?_, ?_⟩⟩
  ·rw [eb]
  ·rw [eb]
structure TP (x:aU) (n:Nat):Prop where
 q:zY ⟨x.aD,x.bN,x.Forms,[]⟩ (n:Int)=some (⟨trn n x.aD x.aD,trn n x.aD x.bN,trn n x.aD x.Forms,[]⟩,0)
 n1:(trn n x.aD x.aD).length≤12
 n0:0<(trn n x.aD x.aD).length
 n2:(trn n x.aD x.bN).length≤12
 n3:(trn n x.aD x.Forms).length≤12
 v1:∀ r ∈ trn n x.aD x.aD,vR r∧0≤r.X∧0≤r.Y
 v2:∀ c ∈ trn n x.aD x.bN++trn n x.aD x.Forms,vR c∧∃ r ∈ trn n x.aD x.aD,r.X≤c.X∧r.Y≤c.Y∧c.X+c.W≤r.X+r.W∧c.Y+c.H≤r.Y+r.H
 c0:(∃ r ∈ trn n x.aD x.aD,r.X=0)∧∃ r ∈ trn n x.aD x.aD,r.Y=0
theorem JE {x:aU} (hx:bB x=some 0) {n:Nat} (hn:n≤3):TP x n:=by
 obtain ⟨z,hz,_,hv⟩:=vH x
 have h:=hv (Option.some.inj (hz.symm.trans hx))
 obtain ⟨_,p2⟩:=AJ hx n hn
 obtain ⟨_,_,p3,p4,p5⟩:=Qs hx n hn
 obtain ⟨_,_,_,vg⟩:=Xi p2
 simp only at vg
 have g1:Good 0 0 x.aD:=⟨h.n1,h.v1⟩
 have g2:Good 0 0 x.bN:=⟨h.n2,h.v2⟩
 have g3:Good 0 0 x.Forms:=⟨h.n3,h.v3⟩
 obtain ⟨r,t,hc⟩:∃ r t,tq n x.aD=r::t:=by
  cases e:tq n x.aD with
  | nil=>exact absurd e (BZ n h.n0)
  | cons r t=>exact ⟨r,t,rfl⟩
 obtain ⟨⟨lx1,lx2,lx3,lx4⟩,ly1,ly2,ly3,ly4⟩:=Se (g1.tq n) hc
 have hlo:lo (tq n x.aD)=(nE (tq n x.aD) r.X,nF (tq n x.aD) r.Y):=by
  rw [show lo (tq n x.aD)=lo (r::t) by rw [hc],lo,hc]
 have hQ:=Lu h n hn hc
 rw [Lp (g1.tq n) ⟨lx3,lx4⟩ ⟨ly3,ly4⟩,Lp (g2.tq n) ⟨lx3,lx4⟩ ⟨ly3,ly4⟩,Lp (g3.tq n) ⟨lx3,lx4⟩ ⟨ly3,ly4⟩] at hQ
 have e1:trn n x.aD x.aD=(tq n x.aD).map (trR (-(nE (tq n x.aD) r.X)) (-(nF (tq n x.aD) r.Y))):=by unfold trn nrm;rw [hlo]
 have e2:trn n x.aD x.bN=(tq n x.bN).map (trR (-(nE (tq n x.aD) r.X)) (-(nF (tq n x.aD) r.Y))):=by unfold trn nrm;rw [hlo]
 have e3:trn n x.aD x.Forms=(tq n x.Forms).map (trR (-(nE (tq n x.aD) r.X)) (-(nF (tq n x.aD) r.Y))):=by unfold trn nrm;rw [hlo]
 rw [← e1,← e2,← e3] at hQ
 refine ⟨hQ,p4,p5,vg.n2,vg.n3,p3,fun c hc'=>?_, ?_, ?_⟩
 ·have vc:=vg.v c (List.mem_append_right _ hc')
  obtain ⟨k,hk⟩:=List.mem_iff_getElem?.1 hc'
  obtain ⟨y,h1,h2,_⟩:=vg.ho k (bY hk)
  rw [hk] at h1;injection h1 with h1;subst h1
  obtain ⟨r',hr',hd⟩:=List.any_eq_true.1 h2
  have vr:=(p3 r' hr').1
  rw [Jn vc vr,decide_eq_true_eq] at hd
  exact ⟨vc,r',hr',by omega,by omega,by omega,by omega⟩
 ·rcases Kk (l:=tq n x.aD) (g:=fun r=>r.X) (a:=r.X) with q | ⟨b,hb,q⟩
  ·exact ⟨trR (-(nE (tq n x.aD) r.X)) (-(nF (tq n x.aD) r.Y)) r,by rw [e1];exact List.mem_map_of_mem (by rw [hc];exact List.mem_cons_self),by show r.X+-(nE (tq n x.aD) r.X)=0;unfold nE;rw [q];omega⟩
  ·exact ⟨trR (-(nE (tq n x.aD) r.X)) (-(nF (tq n x.aD) r.Y)) b,by rw [e1];exact List.mem_map_of_mem hb,by show b.X+-(nE (tq n x.aD) r.X)=0;unfold nE;rw [q];omega⟩
 ·rcases Kk (l:=tq n x.aD) (g:=fun r=>r.Y) (a:=r.Y) with q | ⟨b,hb,q⟩
  ·exact ⟨trR (-(nE (tq n x.aD) r.X)) (-(nF (tq n x.aD) r.Y)) r,by rw [e1];exact List.mem_map_of_mem (by rw [hc];exact List.mem_cons_self),by show r.Y+-(nF (tq n x.aD) r.Y)=0;unfold nF;rw [q];omega⟩
  ·exact ⟨trR (-(nE (tq n x.aD) r.X)) (-(nF (tq n x.aD) r.Y)) b,by rw [e1];exact List.mem_map_of_mem hb,by show b.Y+-(nF (tq n x.aD) r.Y)=0;unfold nF;rw [q];omega⟩
theorem GS {l:List aF} (h:∀ r ∈ l,vR r) {x y:Int} (hx : -1048576≤x∧x≤1048576) (hy : -1048576≤y∧y≤1048576):l.map (mvR x y)=l.map (trR x y):=by
 refine List.map_congr_left fun r hr=>?_
 have hv:=h r hr
 unfold vR at hv
 unfold mvR trR
 rw [aR (by omega) (by omega),aR (by omega) (by omega)]
theorem KT {x:aU} (hx:bB x=some 0) {n:Nat} (hn:n≤3) (p:aN) (ht:p.tZ=n) (px : -1048576≤p.X∧p.X≤1048576) (py : -1048576≤p.Y∧p.Y≤1048576) :
  ∃ q c u1 u2 u3 u4,tH x p=some (q,c,u1,u2,u3,u4)∧tD x p=some (q,c,q.Name,q.bD,q.cE,q.bQ)∧((∀ r ∈ trn n x.aD x.aD,vR (trR p.X p.Y r))→c=0)∧(c=0→q.aD=(trn n x.aD x.aD).map (trR p.X p.Y)∧(∀ r ∈ trn n x.aD x.aD,vR (trR p.X p.Y r))∧q.bD=x.bD∧q.cE=x.cE∧q.bQ=x.bQ)∧q.aD.length≤12:=by
 have tp:=JE hx hn
 have a1:=tp.n1;have a2:=tp.n2;have a3:=tp.n3
 have v2:∀ c ∈ trn n x.aD x.bN,vR c:=fun c hc=>(tp.v2 c (List.mem_append_left _ hc)).1
 have v3:∀ c ∈ trn n x.aD x.Forms,vR c:=fun c hc=>(tp.v2 c (List.mem_append_right _ hc)).1
 have m1:(trn n x.aD x.aD).map (mvR p.X p.Y)=(trn n x.aD x.aD).map (trR p.X p.Y):=GS (fun r hr=>(tp.v1 r hr).1) px py
 have m2:(trn n x.aD x.bN).map (mvR p.X p.Y)=(trn n x.aD x.bN).map (trR p.X p.Y):=GS v2 px py
 have m3:(trn n x.aD x.Forms).map (mvR p.X p.Y)=(trn n x.aD x.Forms).map (trR p.X p.Y):=GS v3 px py
 have hP:tD x p=(tH x p).bind fun r=>some (r.1,r.2.1,r.1.Name,r.1.bD,r.1.cE,r.1.bQ):=by
  unfold tD
  simp only [hx,Option.bind_some,bne_self_eq_false,Bool.false_eq_true,if_false,yG,ht,show (0≤(n:Int)∧(n:Int)≤3) by omega,px,py,and_self,decide_true,Bool.not_true,if_true]
 have inside:∀ c ∈ trn n x.aD x.bN++trn n x.aD x.Forms,(∀ r ∈ trn n x.aD x.aD,vR (trR p.X p.Y r))→vR (trR p.X p.Y c):=fun c hc hr=>by
  obtain ⟨w1,r,hr',w2,w3,w4,w5⟩:=tp.v2 c hc
  have:=hr r hr'
  unfold vR trR at this
  unfold vR at w1
  unfold vR trR
  simp only at this ⊢
  omega
 have key:tH x p=some (if (∀ r ∈ trn n x.aD x.aD,vR (trR p.X p.Y r)) then (⟨x.Name,x.bD,x.cE,x.bQ,(trn n x.aD x.aD).map (trR p.X p.Y),(trn n x.aD x.bN).map (trR p.X p.Y),(trn n x.aD x.Forms).map (trR p.X p.Y)⟩,0,x.Name,x.bD,x.cE,x.bQ) else (⟨ByteArray.empty,ByteArray.empty,0,0,[],[],[]⟩,4,ByteArray.empty,ByteArray.empty,0,0)):=by
  have any_:∀ l:List aF,(l.map (trR p.X p.Y)).any (fun x=>!decide (vR x))=!decide (∀ r ∈ l,vR (trR p.X p.Y r)):=fun l=>by
   rw [Bool.eq_iff_iff,List.any_eq_true]
   simp only [Bool.not_eq_true',decide_eq_false_iff_not]
   constructor
   ·rintro ⟨y,hy,hv⟩ h
    obtain ⟨r,hr,rfl⟩:=List.mem_map.1 hy
    exact hv (h r hr)
   ·intro h
    refine Classical.byContradiction fun q=>h fun r hr=>Classical.byContradiction fun w=>q ⟨_,List.mem_map_of_mem hr,w⟩
  unfold tH
  rw [ht,tp.q]
  simp only [Option.bind_some,bne_self_eq_false,Bool.false_eq_true,if_false,Ah a1,Ah a2,Ah a3,m1,m2,m3]
  rw [gE _ (by rw [List.length_map];omega),gE _ (by rw [List.length_map];omega),gE _ (by rw [List.length_map];omega)]
  simp only [Option.bind_some,any_,Bool.not_not]
  by_cases hc:∀ r ∈ trn n x.aD x.aD,vR (trR p.X p.Y r)
  ·have hc2:∀ r ∈ trn n x.aD x.bN,vR (trR p.X p.Y r):=fun c h=>inside c (List.mem_append_left _ h) hc
   have hc3:∀ r ∈ trn n x.aD x.Forms,vR (trR p.X p.Y r):=fun c h=>inside c (List.mem_append_right _ h) hc
   simp only [decide_eq_true hc,decide_eq_true hc2,decide_eq_true hc3,if_true,if_pos hc,Option.bind_some,Bool.not_true,Bool.false_eq_true,if_false]
  ·simp only [decide_eq_false hc,if_neg hc,Bool.false_eq_true,if_false,Bool.not_false,if_true,Option.bind_some]
 by_cases hc:∀ r ∈ trn n x.aD x.aD,vR (trR p.X p.Y r)
 ·rw [if_pos hc] at key
  exact ⟨_,_,_,_,_,_,key,by rw [hP,key];rfl,fun _=>rfl,fun _=>⟨rfl,hc,rfl,rfl,rfl⟩,by simp only [List.length_map];exact a1⟩
 ·rw [if_neg hc] at key
  exact ⟨_,_,_,_,_,_,key,by rw [hP,key];rfl,fun q=>absurd q hc,fun q=>absurd q (by decide),by simp⟩
theorem FT {x:aU} (hx:bB x=some 0) {n:Nat} (hn:n≤3) {s:bI} (vs:VS s) {taken:List (List aF)} (tv:∀ l ∈ taken,∀ r ∈ l,vR r) {t:bA} (hg:0≤t.Gap∧t.Gap≤14400) (hm:0≤t.aS∧t.aS≤14400) {X Y:Int} (hX : -1048576≤X∧X≤1048576) (hY : -1048576≤Y∧Y≤1048576) :
  Fe (trn n x.aD x.aD) (Kc (s.bG++s.Used) taken.flatten t) t.aS (s.cM-t.aS-xJ (trn n x.aD x.aD)) (s.bP-t.aS-wX (trn n x.aD x.aD)) X Y ↔
   (∀ r ∈ trn n x.aD x.aD,vR (trR X Y r)∧tW (trR X Y r) ⟨t.aS,t.aS,s.cM-2*t.aS,s.bP-2*t.aS⟩∧(∀ o ∈ s.bG++s.Used,¬ ovR (trR X Y r) o)∧∀ l ∈ taken,∀ o ∈ l,blk t (trR X Y r) o=false):=by
 have tp:=JE hx hn
 have hw:=vs.w;have hh:=vs.h
 have wW:∀ r ∈ trn n x.aD x.aD,r.X+r.W≤xJ (trn n x.aD x.aD):=fun r hr=>(foldl_max (g:=fun r=>r.X+r.W)).2 r hr
 have wH:∀ r ∈ trn n x.aD x.aD,r.Y+r.H≤wX (trn n x.aD x.aD):=fun r hr=>(foldl_max (g:=fun r=>r.Y+r.H)).2 r hr
 -- hard bU
 have bh:∀ r ∈ trn n x.aD x.aD,∀ o,vR o→vR (trR X Y r)→(Ic 0 false r o X Y↔ovR (trR X Y r) o):=fun r hr o vo vr=>by
  unfold Ic ovI qY ovR
  unfold vR trR at vr
  have vo':=vo
  unfold vR at vo'
  simp only [Bool.false_eq_true,false_and,not_false_eq_true,and_true]
  constructor
  ·intro h
   refine ⟨by unfold vR trR;simp only at vr ⊢;omega,vo, ?_⟩
   simp only [trR] at vr ⊢
   omega
  ·rintro ⟨_,_,h1,h2,h3,h4⟩
   simp only [trR] at h1 h2 h3 h4
   omega
 have bs:∀ r ∈ trn n x.aD x.aD,∀ o,vR o→vR (trR X Y r)→(Ic t.Gap t.dM r o X Y↔blk t (trR X Y r) o=true):=fun r hr o vo vr=>by
  have eo:ovR (trR X Y r) o↔(ovI (X+r.X) r.W o.X o.W∧ovI (Y+r.Y) r.H o.Y o.H):=by
   unfold ovR ovI
   constructor
   ·rintro ⟨_,_,h1,h2,h3,h4⟩
    simp only [trR] at h1 h2 h3 h4
    omega
   ·intro h
    refine ⟨vr,vo, ?_⟩
    simp only [trR]
    omega
  have ed:zX (trR X Y r) o=max (qY (X+r.X) r.W o.X o.W) (qY (Y+r.Y) r.H o.Y o.H):=by
   unfold zX qY
   rw [if_pos ⟨vr,vo⟩]
   simp only [trR]
   omega
  unfold Ic blk
  rw [ed,← eo]
  rw [Bool.or_eq_true,Bool.and_eq_true,decide_eq_true_eq,decide_eq_true_eq,Bool.not_eq_true',Bool.and_eq_false_iff]
  have eb:∀ a:Int,((a==0)=false)↔a≠0:=fun a=>beq_eq_false_iff_ne
  rw [eb]
  constructor
  ·rintro (h | ⟨h1,h2⟩)
   ·exact .inl h
   ·refine .inr ⟨h1, ?_⟩
    cases hc:t.dM with
    | false=>exact .inl rfl
    | true=>exact .inr fun q=>h2 ⟨hc,q⟩
  ·rintro (h | ⟨h1,h2⟩)
   ·exact .inl h
   ·refine .inr ⟨h1,fun q=>?_⟩
    rcases h2 with h2 | h2
    ·rw [q.1] at h2;cases h2
    ·exact h2 q.2
 constructor
 ·rintro ⟨f1,f2,f3,f4,f5⟩ r hr
  obtain ⟨vr,x0,y0⟩:=tp.v1 r hr
  have:=wW r hr;have:=wH r hr
  have vt:vR (trR X Y r):=by
   unfold vR at vr
   unfold vR trR
   simp only
   omega
  refine ⟨vt,⟨vt, ?_, ?_⟩,fun o ho hov=>?_,fun l hl o ho=>?_⟩
  ·unfold vR at vr ⊢
   simp only
   omega
  ·simp only [trR]
   unfold vR at vr
   omega
  ·exact f5 (o,0,false) (List.mem_append_left _ (List.mem_map.2 ⟨o,ho,rfl⟩)) r hr ((bh r hr o (vs.v o ho) vt).2 hov)
  ·cases hb:blk t (trR X Y r) o with
   | false=>rfl
   | true=>exact absurd ((bs r hr o (tv l hl o ho) vt).2 hb) (f5 (o,t.Gap,t.dM) (List.mem_append_right _ (List.mem_map.2 ⟨o,List.mem_flatten.2 ⟨l,hl,ho⟩,rfl⟩)) r hr)
 ·intro h
  obtain ⟨⟨r0,hr0,x0⟩,r1,hr1,y0⟩:=tp.c0
  have q0:=(h r0 hr0).2.1
  have q1:=(h r1 hr1).2.1
  obtain ⟨_,_,i1,i2,i3,i4⟩:=q0
  obtain ⟨_,_,j1,j2,j3,j4⟩:=q1
  simp only [trR] at i1 i2 i3 i4 j1 j2 j3 j4
  have v0:=(tp.v1 r0 hr0).1
  have v1:=(tp.v1 r1 hr1).1
  unfold vR at v0 v1
  have mW:xJ (trn n x.aD x.aD)≤s.cM-t.aS-X:=Fx (g:=fun r=>r.X+r.W) (fun r hr=>by
   obtain ⟨_,_,k1,k2,k3,k4⟩:=(h r hr).2.1
   simp only [trR] at k1 k2 k3 k4
   omega) (by omega)
  have mH:wX (trn n x.aD x.aD)≤s.bP-t.aS-Y:=Fx (g:=fun r=>r.Y+r.H) (fun r hr=>by
   obtain ⟨_,_,k1,k2,k3,k4⟩:=(h r hr).2.1
   simp only [trR] at k1 k2 k3 k4
   omega) (by omega)
  refine ⟨by omega,by omega,by omega,by omega,fun o' ho' r hr hb=>?_⟩
  obtain ⟨vt,_,h3,h4⟩:=h r hr
  rcases List.mem_append.1 ho' with w | w
  ·obtain ⟨o,ho,rfl⟩:=List.mem_map.1 w
   exact h3 o ho ((bh r hr o (vs.v o ho) vt).1 hb)
  ·obtain ⟨o,ho,rfl⟩:=List.mem_map.1 w
   obtain ⟨l,hl,ho⟩:=List.mem_flatten.1 ho
   have:=(bs r hr o (tv l hl o ho) vt).1 hb
   rw [h4 l hl o ho] at this;cases this
end Go.SM
namespace Go.SM
open Go Go.VI
def Ak (a1:Int×(List (List (List aF)))×(List aN)×(List Int)):((List (List (List aF)))×(List aN)×(List Int))→Option ((Int×(List (List (List aF)))×(List aN)×(List Int)) ⊕ ((List aN)×(List Int))):=fun a0 =>
 some (.inl ((aJ a1.1 1),a0.1,a0.2.1,a0.2.2))
def pI (sheets:(List bI)) (set2:bA) (a2:Int×(List (List (List aF)))×(List aN)×(List Int)) (a3:aU):Int→Option (Int ⊕ (((List (List (List aF)))×(List aN)) ⊕ Unit)):=fun a0 =>
 if (decide (a0<(sheets.length:Int))) then ((idx sheets a0).bind fun a8=>(idx a2.2.1 a0).bind fun a9=>(Hq a8 a9 a3 set2).bind fun a1=>(if (a1.2.2.1 != 0) then (some true) else (some (!a1.2.1))).bind fun a4=>if a4 then (some (.inl (aJ a0 1))) else ((tH a3 (aN.mk a2.1 a0 a1.1.X a1.1.Y a1.1.tZ)).bind fun a7=>(idx a2.2.1 a0).bind fun b0=>(app b0 [a7.1.aD]).bind fun a5=>(idx a2.2.1 a0).bind fun b1=>(app a2.2.2.1 [(aN.mk a2.1 a0 a1.1.X a1.1.Y a1.1.tZ)]).bind fun a6=>some (.inr (.inl ((List.set a2.2.1 (Int.toNat a0) a5),a6))))) else (some (.inr (.inr (()))))
def wP (sheets:(List bI)) (pieces:(List aU)) (set2:bA):(Int×(List (List (List aF)))×(List aN)×(List Int))→Option ((Int×(List (List (List aF)))×(List aN)×(List Int)) ⊕ ((List aN)×(List Int))):=fun a0 =>
 if (decide (a0.1<(pieces.length:Int))) then ((idx pieces a0.1).bind fun a3=>(aM (pI sheets set2 a0 a3) 0).bind fun a4=>match a4 with | .inl a1=>Ak a0 (a1.1,a1.2,a0.2.2.2) | .inr a5=>(app a0.2.2.2 [a0.1]).bind fun a2=>Ak a0 (a0.2.1,a0.2.2.1,a2)) else (some (.inr (a0.2.2.1,a0.2.2.2)))
def Hr (sheets:(List bI)) (pieces:(List aU)) (set2:bA):Option ((List aN)×(List Int)×Int):=
 (vX sheets pieces).bind fun r4=>if (r4 != 0) then (some ([],[],r4)) else ((cX set2).bind fun r8=>if (!r8) then (some ([],[],1)) else ((mk (sheets.length:Int) []).bind fun a1=>(aM (wP sheets pieces set2) (0,a1,[],[])).bind fun a0=>some (a0.1,a0.2,0)))
def kF (a1:Int×(List (List aF))×(List aN)×(List Int)):((List (List aF))×(List aN)×(List Int))→Option ((Int×(List (List aF))×(List aN)×(List Int)) ⊕ ((List aN)×(List Int))):=fun a0 =>
 some (.inl ((aJ a1.1 1),a0.1,a0.2.1,a0.2.2))
def kG (a1:Bool×Int×(List (List aF))×(List aN)):(Bool×(List (List aF))×(List aN))→Option ((Bool×Int×(List (List aF))×(List aN)) ⊕ (Bool×(List (List aF))×(List aN))):=fun a0 =>
 some (.inl (a0.1,(aJ a1.2.1 1),a0.2.1,a0.2.2))
def cH (sheets:(List bI)) (pieces:(List aU)) (set2:bA) (a2:Int×(List (List aF))×(List aN)×(List Int)):(Bool×Int×(List (List aF))×(List aN))→Option ((Bool×Int×(List (List aF))×(List aN)) ⊕ (Bool×(List (List aF))×(List aN))):=fun a0 =>
 (if (decide (a0.2.1<(sheets.length:Int))) then (some (!a0.1)) else (some false)).bind fun a3=>if a3 then ((idx sheets a0.2.1).bind fun a7=>(idx a0.2.2.1 a0.2.1).bind fun a8=>(idx pieces a2.1).bind fun a9=>(lN a7 a8 a9 set2).bind fun a1=>if a1.2.1 then ((idx pieces a2.1).bind fun b0=>(gU b0 (aN.mk a2.1 a0.2.1 a1.1.X a1.1.Y a1.1.tZ)).bind fun a6=>(idx a0.2.2.1 a0.2.1).bind fun b1=>(app b1 a6.1.aD).bind fun a4=>(idx a0.2.2.1 a0.2.1).bind fun b2=>(app a0.2.2.2 [(aN.mk a2.1 a0.2.1 a1.1.X a1.1.Y a1.1.tZ)]).bind fun a5=>kG a0 (a1.2.1,(List.set a0.2.2.1 (Int.toNat a0.2.1) a4),a5)) else (kG a0 (a1.2.1,a0.2.2.1,a0.2.2.2))) else (some (.inr (a0.1,a0.2.2.1,a0.2.2.2)))
def iF (sheets:(List bI)) (pieces:(List aU)) (set2:bA):(Int×(List (List aF))×(List aN)×(List Int))→Option ((Int×(List (List aF))×(List aN)×(List Int)) ⊕ ((List aN)×(List Int))):=fun a0 =>
 if (decide (a0.1<(pieces.length:Int))) then ((aM (cH sheets pieces set2 a0) (false,0,a0.2.1,a0.2.2.1)).bind fun a1=>if (!a1.1) then ((app a0.2.2.2 [a0.1]).bind fun a2=>kF a0 (a1.2.1,a1.2.2,a2)) else (kF a0 (a1.2.1,a1.2.2,a0.2.2.2))) else (some (.inr (a0.2.2.1,a0.2.2.2)))
def rS (sheets:(List bI)) (pieces:(List aU)) (set2:bA):Option ((List aN)×(List Int)×Int):=
 (mO sheets pieces).bind fun r2=>if (r2 != 0) then (some ([],[],r2)) else ((dD set2).bind fun r6=>if (!r6) then (some ([],[],1)) else ((mk (sheets.length:Int) []).bind fun l8=>(aM (iF sheets pieces set2) (0,l8,[],[])).bind fun a0=>some (a0.1,a0.2,0)))
def eM (a:(List aN)) (b:(List aN)):Int→Option (Int ⊕ (Unit ⊕ Unit)):=fun a2 =>
 if (decide (a2<(a.length:Int))) then ((idx a a2).bind fun a0=>(idx b a2).bind fun a1=>if (!((a0.aU==a1.aU)&&((a0.bI==a1.bI)&&((a0.X==a1.X)&&((a0.Y==a1.Y)&&((a0.tZ==a1.tZ)&&true)))))) then (some (.inr (.inl ()))) else (some (.inl (aJ a2 1)))) else (some (.inr (.inr (()))))
def fQ (a:(List aN)) (b:(List aN)):Option (Bool):=
 if ((a.length:Int) != (b.length:Int)) then (some false) else ((aM (eM a b) 0).bind fun a0=>match a0 with | .inl a1=>some false | .inr a2=>some true)
def gY (a:(List Int)) (b:(List Int)):Int→Option (Int ⊕ (Unit ⊕ Unit)):=fun a0 =>
 if (decide (a0<(a.length:Int))) then ((idx a a0).bind fun a1=>(idx b a0).bind fun a2=>if (a1 != a2) then (some (.inr (.inl ()))) else (some (.inl (aJ a0 1)))) else (some (.inr (.inr (()))))
def nI (a:(List Int)) (b:(List Int)):Option (Bool):=
 if ((a.length:Int) != (b.length:Int)) then (some false) else ((aM (gY a b) 0).bind fun a0=>match a0 with | .inl a1=>some false | .inr a2=>some true)
def nH:Option (Bool):=
 (Hq (bI.mk (ByteArray.mk #[115]) (ByteArray.mk #[115,116,101,101,108]) 10 0 1000 1000 [] []) [] (aU.mk (ByteArray.mk #[112]) (ByteArray.mk #[115,116,101,101,108]) 10 0 [(aF.mk 0 0 100 50)] [] []) (bA.mk 0 10 false)).bind fun r2=>(Hr [(bI.mk (ByteArray.mk #[115]) (ByteArray.mk #[115,116,101,101,108]) 10 0 1000 1000 [] [])] [(aU.mk (ByteArray.mk #[112]) (ByteArray.mk #[115,116,101,101,108]) 10 0 [(aF.mk 0 0 100 50)] [] []),(aU.mk (ByteArray.mk #[112]) (ByteArray.mk #[115,116,101,101,108]) 10 0 [(aF.mk 0 0 100 50)] [] [])] (bA.mk 5 10 false)).bind fun r4=>if (r2.2.2.1==0) then (if r2.2.1 then (if ((r2.1.aU==0)&&((r2.1.bI==0)&&((r2.1.X==10)&&((r2.1.Y==10)&&((r2.1.tZ==0)&&true))))) then (if (r4.2.2==0) then (if ((r4.2.1.length:Int)==0) then ((fQ r4.1 [(aN.mk 0 0 10 10 0),(aN.mk 1 0 115 10 0)]).bind fun r6=>some r6) else (none)) else (none)) else (none)) else (none)) else (none)
def rB (j0:sY):Option (Bool):=
 (Hr j0.Lw j0.Lt j0.Set).bind fun r2=>(rS j0.Lw j0.Lt j0.Set).bind fun r4=>(if (r2.2.2 != r4.2.2) then (some true) else ((fQ r2.1 r4.1).bind fun a2=>if a2 then ((nI r2.2.1 r4.2.1).bind fun a3=>some (!a3)) else (some true))).bind fun a0=>if a0 then (some false) else ((Bf j0.Lw j0.Lt j0.Set r2.1).bind fun a4=>(if (r2.2.2 != 0) then ((nH).bind fun a5=>some a5) else (if (a4.2==0) then ((nH).bind fun a6=>some a6) else (some false))).bind fun a1=>some a1)
theorem Um:nH=some true:=by kernel_rfl
end Go.SM
end
