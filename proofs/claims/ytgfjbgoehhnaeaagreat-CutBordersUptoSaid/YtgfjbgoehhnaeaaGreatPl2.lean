/- What the functions compute, part 2. -/
import Derived.Test.YtgfjbgoehhnaeaaGreatPl1
import Derived.Lib.IndexMore
set_option linter.unusedVariables false
set_option linter.unusedSimpArgs false
set_option linter.unusedSectionVars false
noncomputable section
namespace Go.SM
open Go Go.VI
def pN (b:(List aM)) (a2:aM):Int→Option (Int ⊕ (Unit ⊕ Unit)):=fun a0 =>
 if (decide (a0<(b.length:Int))) then ((idx b a0).bind fun a3=>(tG a2 a3).bind fun a1=>if a1 then (some (.inr (.inl ()))) else (some (.inl (aJ a0 1)))) else (some (.inr (.inr (()))))
def pO (a:(List aM)) (b:(List aM)):Int→Option (Int ⊕ (Unit ⊕ Unit)):=fun a0 =>
 if (decide (a0<(a.length:Int))) then ((idx a a0).bind fun a1=>(aH (pN b a1) 0).bind fun a2=>match a2 with | .inl a3=>some (.inr (.inl ())) | .inr a4=>some (.inl (aJ a0 1))) else (some (.inr (.inr (()))))
def xI (a:(List aM)) (b:(List aM)):Option (Bool):=
 (aH (pO a b) 0).bind fun a0=>match a0 with | .inl a1=>some true | .inr a2=>some false
def Ck:(Int×Int)→Option (Int):=fun j3 =>
 (Hj (ByteArray.mk #[0,1,2,2,3,3,3,3,4,4,4,4,4,4,4,4,5,5,5,5,5,5,5,5,5,5,5,5,5,5,5,5,6,6,6,6,6,6,6,6,6,6,6,6,6,6,6,6,6,6,6,6,6,6,6,6,6,6,6,6,6,6,6,6,7,7,7,7,7,7,7,7,7,7,7,7,7,7,7,7,7,7,7,7,7,7,7,7,7,7,7,7,7,7,7,7,7,7,7,7,7,7,7,7,7,7,7,7,7,7,7,7,7,7,7,7,7,7,7,7,7,7,7,7,7,7,7,7,8,8,8,8,8,8,8,8,8,8,8,8,8,8,8,8,8,8,8,8,8,8,8,8,8,8,8,8,8,8,8,8,8,8,8,8,8,8,8,8,8,8,8,8,8,8,8,8,8,8,8,8,8,8,8,8,8,8,8,8,8,8,8,8,8,8,8,8,8,8,8,8,8,8,8,8,8,8,8,8,8,8,8,8,8,8,8,8,8,8,8,8,8,8,8,8,8,8,8,8,8,8,8,8,8,8,8,8,8,8,8,8,8,8,8,8,8,8,8,8,8,8,8,8,8,8,8,8]) (IntKind.wrap .u8 j3.1)).bind fun x5=>some (aJ j3.2 (IntKind.wrap .i64 x5))
def Cl:(Int×Int)→Option (Int):=fun j2 =>
 if (decide (j2.1 ≥ 256)) then (Ck ((Int.fdiv j2.1 (2^(min (Int.toNat 8) 64))),(aJ j2.2 8))) else (Ck (j2.1,j2.2))
def Cm:(Int×Int)→Option (Int):=fun j1 =>
 if (decide (j1.1 ≥ 65536)) then (Cl ((Int.fdiv j1.1 (2^(min (Int.toNat 16) 64))),(aJ j1.2 16))) else (Cl (j1.1,j1.2))
def Qe (x0:Int):Option (Int):=
 if (decide (x0 ≥ 4294967296)) then (Cm ((Int.fdiv x0 (2^(min (Int.toNat 32) 64))),32)) else (Cm (x0,0))
def Qd (x0:Int):Option (Int):=
 (Qe x0).bind fun r2=>some r2
def wX (x0:Int):Option (Bool):=
 some (x0 != x0)
def bM (x0:Int) (y:Int):Option (Int):=
 (wX x0).bind fun r2=>(wX y).bind fun r4=>if r2 then (if r4 then (some 0) else (some (-1))) else (if r4 then (some 1) else (if (decide (x0<y)) then (some (-1)) else (if (decide (x0>y)) then (some 1) else (some 0))))
def mE (a:Int):Int×(List Int)→Option (Int×(List Int) ⊕ (List Int)):=fun a0 =>
 (if (decide (a0.1>a)) then ((idx a0.2 a0.1).bind fun a4=>(idx a0.2 (aK a0.1 1)).bind fun a5=>(bM a4 a5).bind fun a3=>some (decide (a3<0))) else (some false)).bind fun a2=>if a2 then ((idx a0.2 (aK a0.1 1)).bind fun a1=>(idx a0.2 a0.1).bind fun a6=>(idx a0.2 a0.1).bind fun a7=>(idx (List.set a0.2 (Int.toNat a0.1) a1) (aK a0.1 1)).bind fun a8=>some (.inl ((aK a0.1 1),(List.set (List.set a0.2 (Int.toNat a0.1) a1) (Int.toNat (aK a0.1 1)) a6)))) else (some (.inr a0.2))
def mF (a:Int) (b:Int):Int×(List Int)→Option (Int×(List Int) ⊕ (List Int)):=fun a0 =>
 if (decide (a0.1<b)) then ((aH (mE a) (a0.1,a0.2)).bind fun a1=>some (.inl ((aJ a0.1 1),a1))) else (some (.inr a0.2))
def gV (a:Int) (b:Int) (h0:(List Int)):Option ((List Int)):=
 (aH (mF a b) ((aJ a 1),h0)).bind fun a0=>some a0
def eA (first:Int) (a0:Int×(List Int)):Int→Option (Int×(List Int) ⊕ ((List Int) ⊕ (List Int))):=fun a1 =>
 (idx a0.2 (aJ first a0.1)).bind fun a4=>(idx a0.2 (aJ first a1)).bind fun a5=>(bM a4 a5).bind fun a3=>if (!(decide (a3<0))) then (some (.inr (.inr a0.2))) else ((idx a0.2 (aJ first a1)).bind fun a2=>(idx a0.2 (aJ first a0.1)).bind fun a6=>(idx a0.2 (aJ first a0.1)).bind fun a7=>(idx (List.set a0.2 (Int.toNat (aJ first a0.1)) a2) (aJ first a1)).bind fun a8=>some (.inl (a1,(List.set (List.set a0.2 (Int.toNat (aJ first a0.1)) a2) (Int.toNat (aJ first a1)) a6))))
def oR (hi:Int) (first:Int):Int×(List Int)→Option (Int×(List Int) ⊕ ((List Int) ⊕ (List Int))):=fun a0 =>
 if (decide ((aJ (kM 2 a0.1) 1) ≥ hi)) then (some (.inr (.inl a0.2))) else ((if (decide ((aJ (aJ (kM 2 a0.1) 1) 1)<hi)) then ((idx a0.2 (aJ first (aJ (kM 2 a0.1) 1))).bind fun a3=>(idx a0.2 (aJ (aJ first (aJ (kM 2 a0.1) 1)) 1)).bind fun a4=>(bM a3 a4).bind fun a2=>some (decide (a2<0))) else (some false)).bind fun a1=>if a1 then (eA first a0 (aJ (aJ (kM 2 a0.1) 1) 1)) else (eA first a0 (aJ (kM 2 a0.1) 1)))
def eY (lo:Int) (hi:Int) (first:Int) (h0:(List Int)):Option ((List Int)):=
 (aH (oR hi first) (lo,h0)).bind fun a2=>match a2 with | .inl a0=>some a0 | .inr a1=>some a1
def oM (a:Int) (b:Int):Int×(List Int)→Option (Int×(List Int) ⊕ (List Int)):=fun a0 =>
 if (decide (a0.1 ≥ 0)) then ((eY a0.1 (aK b a) a a0.2).bind fun a1=>some (.inl ((aK a0.1 1),a1))) else (some (.inr a0.2))
def oO (a:Int):Int×(List Int)→Option (Int×(List Int) ⊕ (List Int)):=fun a0 =>
 if (decide (a0.1 ≥ 0)) then ((idx a0.2 (aJ a a0.1)).bind fun a1=>(idx a0.2 a).bind fun a3=>(idx a0.2 a).bind fun a4=>(idx (List.set a0.2 (Int.toNat a) a1) (aJ a a0.1)).bind fun a5=>(eY 0 a0.1 a (List.set (List.set a0.2 (Int.toNat a) a1) (Int.toNat (aJ a a0.1)) a3)).bind fun a2=>some (.inl ((aK a0.1 1),a2))) else (some (.inr a0.2))
def jD (a:Int) (b:Int) (h0:(List Int)):Option ((List Int)):=
 (aH (oM a b) ((tO (aK (aK b a) 1) 2),h0)).bind fun a1=>(aH (oO a) ((aK (aK b a) 1),a1)).bind fun a0=>some a0
def wD (length:Int):Option (Int):=
 (Qd (IntKind.wrap .u64 length)).bind fun r2=>if (decide (0≤r2)) then (some (IntKind.wrap .u64 (1*2^(min (Int.toNat r2) 64)))) else none
def xW (h0_0:Int):Option (Int):=
 some (iM .u64 (iM .u64 (iM .u64 h0_0 (IntKind.wrap .u64 (h0_0*2^(min (Int.toNat 13) 64)))) (Int.fdiv (iM .u64 h0_0 (IntKind.wrap .u64 (h0_0*2^(min (Int.toNat 13) 64)))) (2^(min (Int.toNat 7) 64)))) (IntKind.wrap .u64 ((iM .u64 (iM .u64 h0_0 (IntKind.wrap .u64 (h0_0*2^(min (Int.toNat 13) 64)))) (Int.fdiv (iM .u64 h0_0 (IntKind.wrap .u64 (h0_0*2^(min (Int.toNat 13) 64)))) (2^(min (Int.toNat 7) 64))))*2^(min (Int.toNat 17) 64))))
def cW (a:Int) (a0:Int×Int×(List Int)):Int→Option (Int×Int×(List Int) ⊕ (List Int)):=fun a1 =>
 (idx a0.2.2 (aJ a a1)).bind fun a2=>(idx a0.2.2 a0.1).bind fun a3=>(idx a0.2.2 a0.1).bind fun a4=>(idx (List.set a0.2.2 (Int.toNat a0.1) a2) (aJ a a1)).bind fun a5=>some (.inl ((aJ a0.1 1),(iM .u64 (iM .u64 (iM .u64 a0.2.1 (IntKind.wrap .u64 (a0.2.1*2^(min (Int.toNat 13) 64)))) (Int.fdiv (iM .u64 a0.2.1 (IntKind.wrap .u64 (a0.2.1*2^(min (Int.toNat 13) 64)))) (2^(min (Int.toNat 7) 64)))) (IntKind.wrap .u64 ((iM .u64 (iM .u64 a0.2.1 (IntKind.wrap .u64 (a0.2.1*2^(min (Int.toNat 13) 64)))) (Int.fdiv (iM .u64 a0.2.1 (IntKind.wrap .u64 (a0.2.1*2^(min (Int.toNat 13) 64)))) (2^(min (Int.toNat 7) 64))))*2^(min (Int.toNat 17) 64)))),(List.set (List.set a0.2.2 (Int.toNat a0.1) a2) (Int.toNat (aJ a a1)) a3)))
def mC (a:Int) (b:Int) (r2:Int):Int×Int×(List Int)→Option (Int×Int×(List Int) ⊕ (List Int)):=fun a0 =>
 if (decide (a0.1≤(aJ (aJ a (kM (tO (aK b a) 4) 2)) 1))) then ((xW a0.2.1).bind fun a1=>if (decide ((IntKind.wrap .i64 (Lj .u64 a1 (IntKind.wrap .u64 (r2-1)))) ≥ (aK b a))) then (cW a a0 (aK (IntKind.wrap .i64 (Lj .u64 a1 (IntKind.wrap .u64 (r2-1)))) (aK b a))) else (cW a a0 (IntKind.wrap .i64 (Lj .u64 a1 (IntKind.wrap .u64 (r2-1)))))) else (some (.inr a0.2.2))
def gU (a:Int) (b:Int) (h0:(List Int)):Option ((List Int)):=
 if (decide ((aK b a) ≥ 8)) then ((wD (aK b a)).bind fun r2=>(aH (mC a b r2) ((aK (aJ a (kM (tO (aK b a) 4) 2)) 1),(IntKind.wrap .u64 (aK b a)),h0)).bind fun a0=>some a0) else (some h0)
def cZ (data:(List Int)) (a:Int) (b:Int) (h0_0:Int):Option (Int×Int×Int):=
 (idx data b).bind fun a1=>(idx data a).bind fun a2=>(bM a1 a2).bind fun a0=>if (decide (a0<0)) then (some (b,a,(aJ h0_0 1))) else (some (a,b,h0_0))
def fL (data:(List Int)) (a:Int) (b:Int) (c:Int) (h0_0:Int):Option (Int×Int):=
 (cZ data a b h0_0).bind fun r2=>(cZ data r2.2.1 c r2.2.2).bind fun r4=>(cZ data r2.1 r4.1 r4.2.2).bind fun r6=>some (r6.2.1,r6.2.2)
def bT (data:(List Int)) (a:Int) (h0_0:Int):Option (Int×Int):=
 (fL data (aK a 1) a (aJ a 1) h0_0).bind fun r2=>some (r2.1,r2.2)
def dD:(Int×Int)→Option (Int×Int):=fun a0 =>
 if (a0.2==0) then (some (a0.1,1)) else (if (a0.2==12) then (some (a0.1,2)) else (some (a0.1,0)))
def dF (data:(List Int)):(Int×Int×Int×Int)→Option (Int×Int):=fun a0 =>
 (fL data a0.1 a0.2.1 a0.2.2.1 a0.2.2.2).bind fun a1=>dD (a1.1,a1.2)
def iJ (data:(List Int)) (a:Int) (b:Int):Option (Int×Int):=
 if (decide ((aK b a) ≥ 8)) then (if (decide ((aK b a) ≥ 50)) then ((bT data (aJ a (kM (tO (aK b a) 4) 1)) 0).bind fun a0=>(bT data (aJ a (kM (tO (aK b a) 4) 2)) a0.2).bind fun a1=>(bT data (aJ a (kM (tO (aK b a) 4) 3)) a1.2).bind fun a2=>dF data (a0.1,a1.1,a2.1,a2.2)) else (dF data ((aJ a (kM (tO (aK b a) 4) 1)),(aJ a (kM (tO (aK b a) 4) 2)),(aJ a (kM (tO (aK b a) 4) 3)),0))) else (dD ((aJ a (kM (tO (aK b a) 4) 2)),0))
def mT:Int×Int×(List Int)→Option (Int×Int×(List Int) ⊕ (List Int)):=fun a0 =>
 if (decide (a0.1<a0.2.1)) then ((idx a0.2.2 a0.2.1).bind fun a1=>(idx a0.2.2 a0.1).bind fun a2=>(idx a0.2.2 a0.1).bind fun a3=>(idx (List.set a0.2.2 (Int.toNat a0.1) a1) a0.2.1).bind fun a4=>some (.inl ((aJ a0.1 1),(aK a0.2.1 1),(List.set (List.set a0.2.2 (Int.toNat a0.1) a1) (Int.toNat a0.2.1) a2)))) else (some (.inr a0.2.2))
def iD (a:Int) (b:Int) (h0:(List Int)):Option ((List Int)):=
 (aH (mT) (a,(aK b 1),h0)).bind fun a0=>some a0
def bX (a1:Int×Int×(List Int)):Int×(List Int)→Option (Int×Int×(List Int) ⊕ (Bool×(List Int) ⊕ (List Int))):=fun a0 =>
 some (.inl (a0.1,(aJ a1.2.1 1),a0.2))
def kH (b:Int) (a1:Int×Int×(List Int)):Int→Option (Int ⊕ Int):=fun a0 =>
 (if (decide (a0<b)) then ((idx a1.2.2 a0).bind fun a4=>(idx a1.2.2 (aK a0 1)).bind fun a5=>(bM a4 a5).bind fun a3=>some (!(decide (a3<0)))) else (some false)).bind fun a2=>if a2 then (some (.inl (aJ a0 1))) else (some (.inr a0))
def kI (b:Int):Int×(List Int)→Option (Int×(List Int) ⊕ (List Int)):=fun a0 =>
 if (decide (a0.1<b)) then ((idx a0.2 a0.1).bind fun a3=>(idx a0.2 (aK a0.1 1)).bind fun a4=>(bM a3 a4).bind fun a2=>if (!(decide (a2<0))) then (some (.inr a0.2)) else ((idx a0.2 (aK a0.1 1)).bind fun a1=>(idx a0.2 a0.1).bind fun a5=>(idx a0.2 a0.1).bind fun a6=>(idx (List.set a0.2 (Int.toNat a0.1) a1) (aK a0.1 1)).bind fun a7=>some (.inl ((aJ a0.1 1),(List.set (List.set a0.2 (Int.toNat a0.1) a1) (Int.toNat (aK a0.1 1)) a5))))) else (some (.inr a0.2))
def bY (b:Int) (a2:Int×Int×(List Int)) (a0:Int):(List Int)→Option (Int×Int×(List Int) ⊕ (Bool×(List Int) ⊕ (List Int))):=fun a1 =>
 if (decide ((aK b a0) ≥ 2)) then ((aH (kI b) ((aJ a0 1),a1)).bind fun a3=>bX a2 (a0,a3)) else (bX a2 (a0,a1))
def kJ:Int×(List Int)→Option (Int×(List Int) ⊕ (List Int)):=fun a0 =>
 if (decide (a0.1 ≥ 1)) then ((idx a0.2 a0.1).bind fun a3=>(idx a0.2 (aK a0.1 1)).bind fun a4=>(bM a3 a4).bind fun a2=>if (!(decide (a2<0))) then (some (.inr a0.2)) else ((idx a0.2 (aK a0.1 1)).bind fun a1=>(idx a0.2 a0.1).bind fun a5=>(idx a0.2 a0.1).bind fun a6=>(idx (List.set a0.2 (Int.toNat a0.1) a1) (aK a0.1 1)).bind fun a7=>some (.inl ((aK a0.1 1),(List.set (List.set a0.2 (Int.toNat a0.1) a1) (Int.toNat (aK a0.1 1)) a5))))) else (some (.inr a0.2))
def kK (a:Int) (b:Int):Int×Int×(List Int)→Option (Int×Int×(List Int) ⊕ (Bool×(List Int) ⊕ (List Int))):=fun a0 =>
 if (decide (a0.2.1<5)) then ((aH (kH b a0) a0.1).bind fun a1=>if (a1==b) then (some (.inr (.inl (true,a0.2.2)))) else (if (decide ((aK b a)<50)) then (some (.inr (.inl (false,a0.2.2)))) else ((idx a0.2.2 (aK a1 1)).bind fun a2=>(idx a0.2.2 a1).bind fun a3=>(idx a0.2.2 a1).bind fun a5=>(idx (List.set a0.2.2 (Int.toNat a1) a2) (aK a1 1)).bind fun a6=>if (decide ((aK a1 a) ≥ 2)) then ((aH (kJ) ((aK a1 1),(List.set (List.set a0.2.2 (Int.toNat a1) a2) (Int.toNat (aK a1 1)) a3))).bind fun a4=>bY b a0 a1 a4) else (bY b a0 a1 (List.set (List.set a0.2.2 (Int.toNat a1) a2) (Int.toNat (aK a1 1)) a3))))) else (some (.inr (.inr a0.2.2)))
def fC (a:Int) (b:Int) (h0:(List Int)):Option (Bool×(List Int)):=
 (aH (kK a b) ((aJ a 1),0,h0)).bind fun a2=>match a2 with | .inl a0=>some (a0.1,a0.2) | .inr a1=>some (false,a1)
def lT (a:Int) (a1:Int×Int×(List Int)):Int→Option (Int ⊕ Int):=fun a0 =>
 (if (decide (a0≤a1.2.1)) then ((idx a1.2.2 a).bind fun a4=>(idx a1.2.2 a0).bind fun a5=>(bM a4 a5).bind fun a3=>some (!(decide (a3<0)))) else (some false)).bind fun a2=>if a2 then (some (.inl (aJ a0 1))) else (some (.inr a0))
def lU (a:Int) (a1:Int×Int×(List Int)) (a4:Int):Int→Option (Int ⊕ Int):=fun a0 =>
 (if (decide (a4≤a0)) then ((idx a1.2.2 a).bind fun a5=>(idx a1.2.2 a0).bind fun a6=>(bM a5 a6).bind fun a3=>some (decide (a3<0))) else (some false)).bind fun a2=>if a2 then (some (.inl (aK a0 1))) else (some (.inr a0))
def lV (a:Int):Int×Int×(List Int)→Option (Int×Int×(List Int) ⊕ Int×(List Int)):=fun a0 =>
 (aH (lT a a0) a0.1).bind fun a1=>(aH (lU a a0 a1) a0.2.1).bind fun a2=>if (decide (a1>a2)) then (some (.inr (a1,a0.2.2))) else ((idx a0.2.2 a2).bind fun a3=>(idx a0.2.2 a1).bind fun a4=>(idx a0.2.2 a1).bind fun a5=>(idx (List.set a0.2.2 (Int.toNat a1) a3) a2).bind fun a6=>some (.inl ((aJ a1 1),(aK a2 1),(List.set (List.set a0.2.2 (Int.toNat a1) a3) (Int.toNat a2) a4))))
def gM (a:Int) (b:Int) (pivot:Int) (h0:(List Int)):Option (Int×(List Int)):=
 (idx h0 pivot).bind fun x9=>(idx h0 a).bind fun a1=>(idx h0 a).bind fun a2=>(idx (List.set h0 (Int.toNat a) x9) pivot).bind fun a3=>(aH (lV a) ((aJ a 1),(aK b 1),(List.set (List.set h0 (Int.toNat a) x9) (Int.toNat pivot) a1))).bind fun a0=>some (a0.1,a0.2)
def nT (a:Int) (b:Int) (pivot:Int) (h0:(List Int)) (x9:Int) (a5:Int):Int→Option (Int ⊕ Int):=fun a0 =>
 (if (decide (a0≤(aK b 1))) then ((idx (List.set (List.set h0 (Int.toNat a) x9) (Int.toNat pivot) a5) a0).bind fun a3=>(idx (List.set (List.set h0 (Int.toNat a) x9) (Int.toNat pivot) a5) a).bind fun a4=>(bM a3 a4).bind fun a2=>some (decide (a2<0))) else (some false)).bind fun a1=>if a1 then (some (.inl (aJ a0 1))) else (some (.inr a0))
def nU (a:Int) (pivot:Int) (h0:(List Int)) (x9:Int) (a6:Int) (a3:Int):Int→Option (Int ⊕ Int):=fun a0 =>
 (if (decide (a3≤a0)) then ((idx (List.set (List.set h0 (Int.toNat a) x9) (Int.toNat pivot) a6) a0).bind fun a4=>(idx (List.set (List.set h0 (Int.toNat a) x9) (Int.toNat pivot) a6) a).bind fun a5=>(bM a4 a5).bind fun a2=>some (!(decide (a2<0)))) else (some false)).bind fun a1=>if a1 then (some (.inl (aK a0 1))) else (some (.inr a0))
def nV (a:Int) (a1:Int×Int×(List Int)):Int→Option (Int ⊕ Int):=fun a0 =>
 (if (decide (a0≤a1.2.1)) then ((idx a1.2.2 a0).bind fun a4=>(idx a1.2.2 a).bind fun a5=>(bM a4 a5).bind fun a3=>some (decide (a3<0))) else (some false)).bind fun a2=>if a2 then (some (.inl (aJ a0 1))) else (some (.inr a0))
def nW (a:Int) (a1:Int×Int×(List Int)) (a4:Int):Int→Option (Int ⊕ Int):=fun a0 =>
 (if (decide (a4≤a0)) then ((idx a1.2.2 a0).bind fun a5=>(idx a1.2.2 a).bind fun a6=>(bM a5 a6).bind fun a3=>some (!(decide (a3<0)))) else (some false)).bind fun a2=>if a2 then (some (.inl (aK a0 1))) else (some (.inr a0))
def nX (a:Int):Int×Int×(List Int)→Option (Int×Int×(List Int) ⊕ Int×(List Int)):=fun a0 =>
 (aH (nV a a0) a0.1).bind fun a1=>(aH (nW a a0 a1) a0.2.1).bind fun a2=>if (decide (a1>a2)) then (some (.inr (a2,a0.2.2))) else ((idx a0.2.2 a2).bind fun a3=>(idx a0.2.2 a1).bind fun a4=>(idx a0.2.2 a1).bind fun a5=>(idx (List.set a0.2.2 (Int.toNat a1) a3) a2).bind fun a6=>some (.inl ((aJ a1 1),(aK a2 1),(List.set (List.set a0.2.2 (Int.toNat a1) a3) (Int.toNat a2) a4))))
def jA (a:Int) (b:Int) (pivot:Int) (h0:(List Int)):Option (Int×Bool×(List Int)):=
 (idx h0 pivot).bind fun x9=>(idx h0 a).bind fun a3=>(idx h0 a).bind fun b6=>(idx (List.set h0 (Int.toNat a) x9) pivot).bind fun b7=>(aH (nT a b pivot h0 x9 a3) (aJ a 1)).bind fun a2=>(aH (nU a pivot h0 x9 a3 a2) (aK b 1)).bind fun a1=>if (decide (a2>a1)) then ((idx (List.set (List.set h0 (Int.toNat a) x9) (Int.toNat pivot) a3) a).bind fun a6=>(idx (List.set (List.set h0 (Int.toNat a) x9) (Int.toNat pivot) a3) a1).bind fun a8=>(idx (List.set (List.set h0 (Int.toNat a) x9) (Int.toNat pivot) a3) a1).bind fun b2=>(idx (List.set (List.set (List.set h0 (Int.toNat a) x9) (Int.toNat pivot) a3) (Int.toNat a1) a6) a).bind fun b3=>some (a1,true,(List.set (List.set (List.set (List.set h0 (Int.toNat a) x9) (Int.toNat pivot) a3) (Int.toNat a1) a6) (Int.toNat a) a8))) else ((idx (List.set (List.set h0 (Int.toNat a) x9) (Int.toNat pivot) a3) a1).bind fun a7=>(idx (List.set (List.set h0 (Int.toNat a) x9) (Int.toNat pivot) a3) a2).bind fun a9=>(idx (List.set (List.set h0 (Int.toNat a) x9) (Int.toNat pivot) a3) a2).bind fun b4=>(idx (List.set (List.set (List.set h0 (Int.toNat a) x9) (Int.toNat pivot) a3) (Int.toNat a2) a7) a1).bind fun b5=>(aH (nX a) ((aJ a2 1),(aK a1 1),(List.set (List.set (List.set (List.set h0 (Int.toNat a) x9) (Int.toNat pivot) a3) (Int.toNat a2) a7) (Int.toNat a1) a9))).bind fun a0=>(idx a0.2 a).bind fun a4=>(idx a0.2 a0.1).bind fun a5=>(idx a0.2 a0.1).bind fun b0=>(idx (List.set a0.2 (Int.toNat a0.1) a4) a).bind fun b1=>some (a0.1,false,(List.set (List.set a0.2 (Int.toNat a0.1) a4) (Int.toNat a) a5)))
def eG (self:Int→Int→Int→(List Int)→Option ((List Int))) (a1:Int×Int×Int×Bool×Bool×(List Int)) (a3:Int×(List Int)) (a4:Int×Int×(List Int)):Bool×Bool×(List Int)→Option (Int×Int×Int×Bool×Bool×(List Int) ⊕ (List Int)):=fun a2 =>
 (if (decide (a1.1>0)) then ((idx a2.2.2 (aK a1.1 1)).bind fun b0=>(idx a2.2.2 a4.1).bind fun b1=>(bM b0 b1).bind fun a7=>some (!(decide (a7<0)))) else (some false)).bind fun a6=>if a6 then ((gM a1.1 a1.2.1 a4.1 a2.2.2).bind fun a5=>some (.inl (a5.1,a1.2.1,a3.1,a2.1,a2.2.1,a5.2))) else ((jA a1.1 a1.2.1 a4.1 a2.2.2).bind fun a0=>if (decide ((aK a0.1 a1.1)<(aK a1.2.1 a0.1))) then ((self a1.1 a0.1 a3.1 a0.2.2).bind fun a8=>some (.inl ((aJ a0.1 1),a1.2.1,a3.1,(decide ((aK a0.1 a1.1) ≥ (tO (aK a1.2.1 a1.1) 8))),a0.2.1,a8))) else ((self (aJ a0.1 1) a1.2.1 a3.1 a0.2.2).bind fun a9=>some (.inl (a1.1,a0.1,a3.1,(decide ((aK a1.2.1 a0.1) ≥ (tO (aK a1.2.1 a1.1) 8))),a0.2.1,a9))))
def eI (self:Int→Int→Int→(List Int)→Option ((List Int))) (a3:Int×Int×Int×Bool×Bool×(List Int)) (a4:Int×(List Int)):Int×Int×(List Int)→Option (Int×Int×Int×Bool×Bool×(List Int) ⊕ (List Int)):=fun a0 =>
 (if a3.2.2.2.1 then (if a3.2.2.2.2.1 then (some (true,true,(a0.2.1==1))) else (some (true,false,false))) else (some (false,a3.2.2.2.2.1,false))).bind fun a1=>if a1.2.2 then ((fC a3.1 a3.2.1 a0.2.2).bind fun a2=>if a2.1 then (some (.inr a2.2)) else (eG self a3 a4 a0 (a1.1,a1.2.1,a2.2))) else (eG self a3 a4 a0 (a1.1,a1.2.1,a0.2.2))
def eJ (self:Int→Int→Int→(List Int)→Option ((List Int))) (a2:Int×Int×Int×Bool×Bool×(List Int)):Int×(List Int)→Option (Int×Int×Int×Bool×Bool×(List Int) ⊕ (List Int)):=fun a0 =>
 (iJ a0.2 a2.1 a2.2.1).bind fun a1=>if (a1.2==2) then ((iD a2.1 a2.2.1 a0.2).bind fun a3=>eI self a2 a0 ((aK (aK a2.2.1 1) (aK a1.1 a2.1)),1,a3)) else (eI self a2 a0 (a1.1,a1.2,a0.2))
def oT (self:Int→Int→Int→(List Int)→Option ((List Int))):Int×Int×Int×Bool×Bool×(List Int)→Option (Int×Int×Int×Bool×Bool×(List Int) ⊕ (List Int)):=fun a0 =>
 if (decide ((aK a0.2.1 a0.1)≤12)) then ((gV a0.1 a0.2.1 a0.2.2.2.2.2).bind fun a1=>some (.inr a1)) else (if (a0.2.2.1==0) then ((jD a0.1 a0.2.1 a0.2.2.2.2.2).bind fun a2=>some (.inr a2)) else (if (!a0.2.2.2.1) then ((gU a0.1 a0.2.1 a0.2.2.2.2.2).bind fun a3=>eJ self a0 ((aK a0.2.2.1 1),a3)) else (eJ self a0 (a0.2.2.1,a0.2.2.2.2.2))))
def iA (self:Int→Int→Int→(List Int)→Option ((List Int))) (a:Int) (b:Int) (limit:Int) (h0:(List Int)):Option ((List Int)):=
 (aH (oT self) (a,b,limit,true,true,h0)).bind fun a0=>some a0
def bO:Nat→Int→Int→Int→(List Int)→Option ((List Int))
 | 0=>fun _ _ _ _=>none
 | n+1=>iA (bO n)
def jN (a:Int) (b:Int) (limit:Int) (h0:(List Int)):Option ((List Int)):=bO 1000 a b limit h0
def bU (h0:(List Int)):Option ((List Int)):=
 (Qd (IntKind.wrap .u64 (h0.length:Int))).bind fun r3=>(jN 0 (h0.length:Int) r3 h0).bind fun r4=>some r4
def mR (a1:Int×Int×(List Int)):Int×(List Int)→Option (Int×Int×(List Int) ⊕ Int×(List Int)):=fun a0 =>
 some (.inl (a0.1,(aJ a1.2.1 1),a0.2))
def Au (h380:(List Int)) (a1:Int):Int×Int×(List Int)→Option (Int×Int×(List Int) ⊕ Int×(List Int)):=fun a0 =>
 if (decide (a0.2.1<((Int.toNat (h380.length:Int)-Int.toNat a1:Nat):Int))) then ((idx (List.take (Int.toNat (h380.length:Int)-Int.toNat a1) (List.drop (Int.toNat a1) a0.2.2)) a0.2.1).bind fun a2=>(idx (List.take (Int.toNat (h380.length:Int)-Int.toNat a1) (List.drop (Int.toNat a1) a0.2.2)) (aK a0.2.1 1)).bind fun a3=>if (a2 != a3) then ((idx (List.take (Int.toNat (h380.length:Int)-Int.toNat a1) (List.drop (Int.toNat a1) a0.2.2)) a0.2.1).bind fun a4=>(idx a0.2.2 a0.1).bind fun a5=>mR a0 ((aJ a0.1 1),(List.set a0.2.2 (Int.toNat a0.1) a4))) else (mR a0 (a0.1,a0.2.2))) else (some (.inr (a0.1,a0.2.2)))
def Av (h380:(List Int)):Int→Option (Int ⊕ ((List Int) ⊕ Unit)):=fun a1 =>
 if (decide (a1<(h380.length:Int))) then ((idx h380 a1).bind fun a3=>(idx h380 (aK a1 1)).bind fun a4=>if (a3==a4) then (if (decide ((0:Int)≤a1)&&(decide (a1≤(h380.length:Int))&&decide ((h380.length:Int)≤(h380.length:Int)))) then ((aH (Au h380 a1) (a1,1,h380)).bind fun a0=>if (decide ((0:Int)≤a0.1)&&(decide (a0.1≤(a0.2.length:Int))&&decide ((a0.2.length:Int)≤(a0.2.length:Int)))) then ((slc (cpy a0.2 (Int.toNat a0.1) (List.replicate (Int.toNat (a0.2.length:Int)-Int.toNat a0.1) 0)) 0 a0.1).bind fun a2=>some (.inr (.inl a2))) else none) else none) else (some (.inl (aJ a1 1)))) else (some (.inr (.inr (()))))
def lJ (h380:(List Int)):Option ((List Int)):=
 if (decide ((h380.length:Int)<2)) then (some h380) else ((aH (Av h380) 1).bind fun a1=>match a1 with | .inl a0=>some a0 | .inr a2=>some h380)
def Kw (h380:(List Int)):Option ((List Int)):=
 (bU h380).bind fun r2=>(lJ r2).bind fun r4=>some r4
def De (x1:Int) (y:Int) (a2:aW):Int→Option (Int ⊕ (Unit ⊕ Unit)):=fun a1 =>
 if (decide (a1<(a2.aD.length:Int))) then ((idx a2.aD a1).bind fun a0=>(if (decide (a0.X≤x1)) then (if (decide (x1<(aJ a0.X a0.W))) then (if (decide (a0.Y≤y)) then (some (decide (y<(aJ a0.Y a0.H)))) else (some false)) else (some false)) else (some false)).bind fun a3=>if a3 then (some (.inr (.inl ()))) else (some (.inl (aJ a1 1)))) else (some (.inr (.inr (()))))
def Hq (l:bB) (x1:Int) (y:Int):Int→Option (Int ⊕ ((Option Int) ⊕ Unit)):=fun a0 =>
 if (decide (a0<(l.aB.length:Int))) then ((idx l.aB a0).bind fun a1=>(aH (De x1 y a1) 0).bind fun a2=>match a2 with | .inl a3=>some (.inr (.inl (some a0))) | .inr a4=>some (.inl (aJ a0 1))) else (some (.inr (.inr (()))))
def Aa (l:bB) (x1:Int) (y:Int):Option ((Option Int)):=
 (aH (Hq l x1 y) 0).bind fun a1=>match a1 with | .inl a0=>some a0 | .inr a2=>some none
def Bm (x0:Int) (a_0:ByteArray) (a_1:ByteArray) (a_2:Int) (a_3:Int) (a_4:Int) (a_5:Int) (a_6:(List aM)) (a_7:(List aM)) (a_8:(List aW)) (a2_0:Int):Option ((Option Int)×(Option Int)):=
 (Aa (bB.mk (bA.mk a_0 a_1 a_2 a_3 a_4 a_5 a_6 a_7) a_8) x0 a2_0).bind fun r5=>(Aa (bB.mk (bA.mk a_0 a_1 a_2 a_3 a_4 a_5 a_6 a_7) a_8) x0 (aK a2_0 1)).bind fun r6=>some (r5,r6)
def eX (a:Int):Option (Bool):=
 some true
def eU (a:lX):Option (Bool):=
 some false
def Bn (from0:Int) (to1:Int) (a_0:Int):Option (aF):=
 some (aF.mk from0 a_0 to1 a_0)
def sJ (t:(Option Int)):Option (Int):=
 if (Option.isSome t) then (some (Option.getD t 0)) else (some (-1))
def Bl (s0:aF):(Int×Int)→Option (aZ×Int×Int):=fun j2 =>
 some ((aZ.mk s0 j2.1 j2.2),j2.1,j2.2)
def Dg (s0:aF) (a:Int) (b:Int):Option (aZ×Int×Int):=
 (if (decide (a<0)) then (some true) else (if (decide (b ≥ 0)) then (some (decide (b<a))) else (some false))).bind fun j3=>if j3 then (Bl s0 (b,a)) else (Bl s0 (a,b))
def gA (a1:Int×(Option Int)×(Option Int)×Int×(List aZ)):(Int×(Option Int)×(Option Int)×(List aZ))→Option ((Int×(Option Int)×(Option Int)×Int×(List aZ)) ⊕ (List aZ)):=fun a0 =>
 some (.inl (a0.1,a0.2.1,a0.2.2.1,(aJ a1.2.2.2.1 1),a0.2.2.2))
def gB (a2:Int×(Option Int)×(Option Int)×Int×(List aZ)) (a3:Int) (a0:(Option Int)×(Option Int)):(List aZ)→Option ((Int×(Option Int)×(Option Int)×Int×(List aZ)) ⊕ (List aZ)):=fun a1 =>
 gA a2 (a3,a0.1,a0.2,a1)
def gC (line_0_0:Int) (a0:Int×(Option Int)×(Option Int)×Int×(List aZ)) (a3:Int):((Option Int)×(Option Int))→Option ((Int×(Option Int)×(Option Int)×Int×(List aZ)) ⊕ (List aZ)):=fun a2 =>
 (if (a2.1==a0.2.1) then (some (a2.2==a0.2.2.1)) else (some false)).bind fun a6=>if a6 then (gA a0 (a0.1,a0.2.1,a0.2.2.1,a0.2.2.2.2)) else ((if (a0.2.1==a0.2.2.1) then (some false) else ((match a0.2.1 with | some n=>eX n | none=>eU (lX.mk )).bind fun a4=>if a4 then (some true) else ((match a0.2.2.1 with | some n=>eX n | none=>eU (lX.mk )).bind fun a5=>some a5))).bind fun a7=>if a7 then ((Bn a0.1 a3 line_0_0).bind fun a9=>(sJ a0.2.1).bind fun b0=>(sJ a0.2.2.1).bind fun b1=>(Dg a9 b0 b1).bind fun a1=>(app a0.2.2.2.2 [(aZ.mk (aF.mk a1.1.Line.X1 a1.1.Line.Y1 a1.1.Line.X2 a1.1.Line.Y2) a1.1.A a1.1.B)]).bind fun a8=>gB a0 a3 a2 a8) else (gB a0 a3 a2 a0.2.2.2.2))
def sE (ends:(List Int)) (sides_0_0:ByteArray) (sides_0_1:ByteArray) (sides_0_2:Int) (sides_0_3:Int) (sides_0_4:Int) (sides_0_5:Int) (sides_0_6:(List aM)) (sides_0_7:(List aM)) (sides_0_8:(List aW)) (sides_1_0:Int) (line_0_0:Int):(Int×(Option Int)×(Option Int)×Int×(List aZ))→Option ((Int×(Option Int)×(Option Int)×Int×(List aZ)) ⊕ (List aZ)):=fun a0 =>
 if (decide (a0.2.2.2.1<(ends.length:Int))) then ((idx ends a0.2.2.2.1).bind fun a1=>if (decide ((aJ a0.2.2.2.1 1)<(ends.length:Int))) then ((Bm a1 sides_0_0 sides_0_1 sides_0_2 sides_0_3 sides_0_4 sides_0_5 sides_0_6 sides_0_7 sides_0_8 sides_1_0).bind fun a2=>gC line_0_0 a0 a1 (a2.1,a2.2)) else (gC line_0_0 a0 a1 (none,none))) else (some (.inr a0.2.2.2.2))
def eS (ends:(List Int)) (sides_0_0:ByteArray) (sides_0_1:ByteArray) (sides_0_2:Int) (sides_0_3:Int) (sides_0_4:Int) (sides_0_5:Int) (sides_0_6:(List aM)) (sides_0_7:(List aM)) (sides_0_8:(List aW)) (sides_1_0:Int) (line_0_0:Int):Option ((List aZ)):=
 (aH (sE ends sides_0_0 sides_0_1 sides_0_2 sides_0_3 sides_0_4 sides_0_5 sides_0_6 sides_0_7 sides_0_8 sides_1_0 line_0_0) (0,none,none,0,[])).bind fun a0=>some a0
def Bo (y:Int) (a_0:ByteArray) (a_1:ByteArray) (a_2:Int) (a_3:Int) (a_4:Int) (a_5:Int) (a_6:(List aM)) (a_7:(List aM)) (a_8:(List aW)) (a2_0:Int):Option ((Option Int)×(Option Int)):=
 (Aa (bB.mk (bA.mk a_0 a_1 a_2 a_3 a_4 a_5 a_6 a_7) a_8) a2_0 y).bind fun r5=>(Aa (bB.mk (bA.mk a_0 a_1 a_2 a_3 a_4 a_5 a_6 a_7) a_8) (aK a2_0 1) y).bind fun r6=>some (r5,r6)
def Bp (from0:Int) (to1:Int) (a_0:Int):Option (aF):=
 some (aF.mk a_0 from0 a_0 to1)
def gD (a1:Int×(Option Int)×(Option Int)×Int×(List aZ)):(Int×(Option Int)×(Option Int)×(List aZ))→Option ((Int×(Option Int)×(Option Int)×Int×(List aZ)) ⊕ (List aZ)):=fun a0 =>
 some (.inl (a0.1,a0.2.1,a0.2.2.1,(aJ a1.2.2.2.1 1),a0.2.2.2))
def gE (a2:Int×(Option Int)×(Option Int)×Int×(List aZ)) (a3:Int) (a0:(Option Int)×(Option Int)):(List aZ)→Option ((Int×(Option Int)×(Option Int)×Int×(List aZ)) ⊕ (List aZ)):=fun a1 =>
 gD a2 (a3,a0.1,a0.2,a1)
def gF (line_0_0:Int) (a0:Int×(Option Int)×(Option Int)×Int×(List aZ)) (a3:Int):((Option Int)×(Option Int))→Option ((Int×(Option Int)×(Option Int)×Int×(List aZ)) ⊕ (List aZ)):=fun a2 =>
 (if (a2.1==a0.2.1) then (some (a2.2==a0.2.2.1)) else (some false)).bind fun a6=>if a6 then (gD a0 (a0.1,a0.2.1,a0.2.2.1,a0.2.2.2.2)) else ((if (a0.2.1==a0.2.2.1) then (some false) else ((match a0.2.1 with | some n=>eX n | none=>eU (lX.mk )).bind fun a4=>if a4 then (some true) else ((match a0.2.2.1 with | some n=>eX n | none=>eU (lX.mk )).bind fun a5=>some a5))).bind fun a7=>if a7 then ((Bp a0.1 a3 line_0_0).bind fun a9=>(sJ a0.2.1).bind fun b0=>(sJ a0.2.2.1).bind fun b1=>(Dg a9 b0 b1).bind fun a1=>(app a0.2.2.2.2 [(aZ.mk (aF.mk a1.1.Line.X1 a1.1.Line.Y1 a1.1.Line.X2 a1.1.Line.Y2) a1.1.A a1.1.B)]).bind fun a8=>gE a0 a3 a2 a8) else (gE a0 a3 a2 a0.2.2.2.2))
def sG (ends:(List Int)) (sides_0_0:ByteArray) (sides_0_1:ByteArray) (sides_0_2:Int) (sides_0_3:Int) (sides_0_4:Int) (sides_0_5:Int) (sides_0_6:(List aM)) (sides_0_7:(List aM)) (sides_0_8:(List aW)) (sides_1_0:Int) (line_0_0:Int):(Int×(Option Int)×(Option Int)×Int×(List aZ))→Option ((Int×(Option Int)×(Option Int)×Int×(List aZ)) ⊕ (List aZ)):=fun a0 =>
 if (decide (a0.2.2.2.1<(ends.length:Int))) then ((idx ends a0.2.2.2.1).bind fun a1=>if (decide ((aJ a0.2.2.2.1 1)<(ends.length:Int))) then ((Bo a1 sides_0_0 sides_0_1 sides_0_2 sides_0_3 sides_0_4 sides_0_5 sides_0_6 sides_0_7 sides_0_8 sides_1_0).bind fun a2=>gF line_0_0 a0 a1 (a2.1,a2.2)) else (gF line_0_0 a0 a1 (none,none))) else (some (.inr a0.2.2.2.2))
def eT (ends:(List Int)) (sides_0_0:ByteArray) (sides_0_1:ByteArray) (sides_0_2:Int) (sides_0_3:Int) (sides_0_4:Int) (sides_0_5:Int) (sides_0_6:(List aM)) (sides_0_7:(List aM)) (sides_0_8:(List aW)) (sides_1_0:Int) (line_0_0:Int):Option ((List aZ)):=
 (aH (sG ends sides_0_0 sides_0_1 sides_0_2 sides_0_3 sides_0_4 sides_0_5 sides_0_6 sides_0_7 sides_0_8 sides_1_0 line_0_0) (0,none,none,0,[])).bind fun a0=>some a0
def yI (a2:aW):(Int×(List Int)×(List Int))→Option ((Int×(List Int)×(List Int)) ⊕ ((List Int)×(List Int))):=fun a0 =>
 if (decide (a0.1<(a2.aD.length:Int))) then ((idx a2.aD a0.1).bind fun a1=>(app a0.2.1 [a1.X,(aJ a1.X a1.W)]).bind fun a3=>(app a0.2.2 [a1.Y,(aJ a1.Y a1.H)]).bind fun a4=>some (.inl ((aJ a0.1 1),a3,a4))) else (some (.inr (a0.2.1,a0.2.2)))
def vC (l:bB):(Int×(List Int)×(List Int))→Option ((Int×(List Int)×(List Int)) ⊕ ((List Int)×(List Int))):=fun a0 =>
 if (decide (a0.1<(l.aB.length:Int))) then ((idx l.aB a0.1).bind fun a2=>(aH (yI a2) (0,a0.2.1,a0.2.2)).bind fun a1=>some (.inl ((aJ a0.1 1),a1.1,a1.2))) else (some (.inr (a0.2.1,a0.2.2)))
def yJ (l:bB) (a4:(List Int)) (a1:(List Int)):Int×(List aZ)→Option (Int×(List aZ) ⊕ (List aZ)):=fun a0 =>
 if (decide (a0.1<(a1.length:Int))) then ((idx a1 a0.1).bind fun a2=>(eS a4 l.bA.Name l.bA.cA l.bA.iS l.bA.iT l.bA.gY l.bA.dK l.bA.cG l.bA.Used l.aB a2 a2).bind fun a5=>(app a0.2 a5).bind fun a3=>some (.inl ((aJ a0.1 1),a3))) else (some (.inr a0.2))
def yL (l:bB) (a1:(List Int)) (a4:(List Int)):Int×(List aZ)→Option (Int×(List aZ) ⊕ (List aZ)):=fun a0 =>
 if (decide (a0.1<(a1.length:Int))) then ((idx a1 a0.1).bind fun a2=>(eT a4 l.bA.Name l.bA.cA l.bA.iS l.bA.iT l.bA.gY l.bA.dK l.bA.cG l.bA.Used l.aB a2 a2).bind fun a5=>(app a0.2 a5).bind fun a3=>some (.inl ((aJ a0.1 1),a3))) else (some (.inr a0.2))
def Dh (l:bB):Option ((List aZ)):=
 (aH (vC l) (0,[],[])).bind fun a2=>(Kw a2.1).bind fun a0=>(Kw a2.2).bind fun a1=>(aH (yJ l a0 a1) (0,[])).bind fun a3=>(aH (yL l a0 a1) (0,a3)).bind fun a4=>some a4
def zI (l:bB):Option ((List aZ)×Int):=
 (pU l).bind fun r4=>if (r4 != 0) then (some ([],r4)) else ((Dh l).bind fun r6=>some (r6,0))
def nB (n:Int) (h380:(List Int)):Int→Option (Int ⊕ Int):=fun a0 =>
 (if (decide (a0>0)) then ((idx h380 (aK a0 1)).bind fun a2=>some (decide (a2>n))) else (some false)).bind fun a1=>if a1 then (some (.inl (aK a0 1))) else (some (.inr a0))
def nC (a3:Int):Int×(List Int)→Option (Int×(List Int) ⊕ (List Int)):=fun a0 =>
 if (decide (a0.1>a3)) then ((idx a0.2 (aK a0.1 1)).bind fun a1=>(idx a0.2 a0.1).bind fun a2=>some (.inl ((aK a0.1 1),(List.set a0.2 (Int.toNat a0.1) a1)))) else (some (.inr a0.2))
def gP (n:Int) (h380:(List Int)):Option ((List Int)):=
 (aH (nB n h380) (h380.length:Int)).bind fun a1=>(if (decide (a1>0)) then ((idx h380 (aK a1 1)).bind fun a5=>some (a5==n)) else (some false)).bind fun a3=>if a3 then (some h380) else ((app h380 [0]).bind fun a2=>(aH (nC a1) ((aK (a2.length:Int) 1),a2)).bind fun a0=>(idx a0 a1).bind fun a4=>some (List.set a0 (Int.toNat a1) n))
def lH (l:(List aM)):(Int×(List Int)×(List Int))→Option ((Int×(List Int)×(List Int)) ⊕ ((List Int)×(List Int))):=fun a0 =>
 if (decide (a0.1<(l.length:Int))) then ((idx l a0.1).bind fun a5=>(gP a5.X a0.2.1).bind fun a1=>(idx l a0.1).bind fun a6=>(idx l a0.1).bind fun a7=>(gP (aJ a6.X a7.W) a1).bind fun a2=>(idx l a0.1).bind fun a8=>(gP a8.Y a0.2.2).bind fun a3=>(idx l a0.1).bind fun a9=>(idx l a0.1).bind fun b0=>(gP (aJ a9.Y b0.H) a3).bind fun a4=>some (.inl ((aJ a0.1 1),a2,a4))) else (some (.inr (a0.2.1,a0.2.2)))
def tA (l:(List aM)):Option ((List Int)×(List Int)):=
 (aH (lH l) (0,[],[])).bind fun a0=>some (a0.1,a0.2)
def jV (l:(List aM)) (x1:Int) (y:Int):Int→Option (Int ⊕ (Unit ⊕ Unit)):=fun a1 =>
 if (decide (a1<(l.length:Int))) then ((idx l a1).bind fun a0=>(if (decide (a0.X≤x1)) then (if (decide (x1<(aJ a0.X a0.W))) then (if (decide (a0.Y≤y)) then (some (decide (y<(aJ a0.Y a0.H)))) else (some false)) else (some false)) else (some false)).bind fun a2=>if a2 then (some (.inr (.inl ()))) else (some (.inl (aJ a1 1)))) else (some (.inr (.inr (()))))
def pZ (l:(List aM)) (x1:Int) (y:Int):Option (Bool):=
 (aH (jV l x1 y) 0).bind fun a0=>match a0 with | .inl a1=>some true | .inr a2=>some false
def kP (regions:(List (List aM))) (x1:Int) (y:Int):Int→Option (Int ⊕ (Int ⊕ Unit)):=fun a0 =>
 if (decide (a0<(regions.length:Int))) then ((idx regions a0).bind fun a2=>(pZ a2 x1 y).bind fun a1=>if a1 then (some (.inr (.inl a0))) else (some (.inl (aJ a0 1)))) else (some (.inr (.inr (()))))
def rJ (regions:(List (List aM))) (x1:Int) (y:Int):Option (Int):=
 (aH (kP regions x1 y) 0).bind fun a1=>match a1 with | .inl a0=>some a0 | .inr a2=>some (-1)
def jW (a1:Int×(List (List Int))):(List (List Int))→Option (Int×(List (List Int)) ⊕ (List (List Int))):=fun a0 =>
 some (.inl ((aJ a1.1 1),a0))
def gT (regions:(List (List aM))) (xs:(List Int)) (ys:(List Int)) (a1:Int×(List (List Int))):Int×(List (List Int))→Option (Int×(List (List Int)) ⊕ (List (List Int))):=fun a0 =>
 if (decide (a0.1≤(ys.length:Int))) then ((idx a0.2 a1.1).bind fun a2=>(idx a2 a0.1).bind fun a8=>(if (decide (a1.1>0)) then (if (decide (a0.1>0)) then (if (decide (a1.1<(xs.length:Int))) then (some (decide (a0.1<(ys.length:Int)))) else (some false)) else (some false)) else (some false)).bind fun a4=>if a4 then ((idx (List.set a0.2 (Int.toNat a1.1) (List.set a2 (Int.toNat a0.1) (-1))) a1.1).bind fun a3=>(idx xs (aK a1.1 1)).bind fun a6=>(idx ys (aK a0.1 1)).bind fun a7=>(rJ regions a6 a7).bind fun a5=>(idx a3 a0.1).bind fun a9=>jW a0 (List.set (List.set a0.2 (Int.toNat a1.1) (List.set a2 (Int.toNat a0.1) (-1))) (Int.toNat a1.1) (List.set a3 (Int.toNat a0.1) a5))) else (jW a0 (List.set a0.2 (Int.toNat a1.1) (List.set a2 (Int.toNat a0.1) (-1))))) else (some (.inr a0.2))
def jX (regions:(List (List aM))) (xs:(List Int)) (ys:(List Int)):Int×(List (List Int))→Option (Int×(List (List Int)) ⊕ (List (List Int))):=fun a0 =>
 if (decide (a0.1≤(xs.length:Int))) then ((mk (aJ (ys.length:Int) 1) 0).bind fun a1=>(idx a0.2 a0.1).bind fun a3=>(aH (gT regions xs ys a0) (0,(List.set a0.2 (Int.toNat a0.1) a1))).bind fun a2=>some (.inl ((aJ a0.1 1),a2))) else (some (.inr a0.2))
def qD (regions:(List (List aM))) (xs:(List Int)) (ys:(List Int)):Option ((List (List Int))):=
 (mk (aJ (xs.length:Int) 1) []).bind fun l2=>(aH (jX regions xs ys) (0,l2)).bind fun a0=>some a0
def cF (x1:aU) (h380:(List aU)):Option ((List aU)):=
 if (x1.Low==x1.sC) then (some h380) else ((if (decide ((aK (h380.length:Int) 1) ≥ 0)) then ((idx h380 (aK (h380.length:Int) 1)).bind fun a4=>if (a4.Low==x1.Low) then ((idx h380 (aK (h380.length:Int) 1)).bind fun a5=>if (a5.sC==x1.sC) then ((idx h380 (aK (h380.length:Int) 1)).bind fun a6=>if (a6.At.X2==x1.At.X1) then ((idx h380 (aK (h380.length:Int) 1)).bind fun a7=>if (a7.At.Y2==x1.At.Y1) then ((idx h380 (aK (h380.length:Int) 1)).bind fun a8=>if (a8.At.Y1==x1.At.Y2) then (some true) else ((idx h380 (aK (h380.length:Int) 1)).bind fun a9=>some (a9.At.X1==x1.At.X2))) else (some false)) else (some false)) else (some false)) else (some false)) else (some false)).bind fun a2=>if a2 then ((idx h380 (aK (h380.length:Int) 1)).bind fun a0=>(idx (List.set h380 (Int.toNat (aK (h380.length:Int) 1)) (aU.mk (aF.mk a0.At.X1 a0.At.Y1 x1.At.X2 a0.At.Y2) a0.Low a0.sC)) (aK (h380.length:Int) 1)).bind fun a1=>some (List.set (List.set h380 (Int.toNat (aK (h380.length:Int) 1)) (aU.mk (aF.mk a0.At.X1 a0.At.Y1 x1.At.X2 a0.At.Y2) a0.Low a0.sC)) (Int.toNat (aK (h380.length:Int) 1)) (aU.mk (aF.mk a1.At.X1 a1.At.Y1 a1.At.X2 x1.At.Y2) a1.Low a1.sC))) else ((app h380 [x1]).bind fun a3=>some a3))
def jL (regions:(List (List aM))):Int×(List aM)→Option (Int×(List aM) ⊕ (List aM)):=fun a0 =>
 if (decide (a0.1<(regions.length:Int))) then ((idx regions a0.1).bind fun a2=>(app a0.2 a2).bind fun a1=>some (.inl ((aJ a0.1 1),a1))) else (some (.inr a0.2))
def gH (a3:(List Int)×(List Int)) (b2:(List (List Int))) (a1:Int×(List aU)):Int×(List aU)→Option (Int×(List aU) ⊕ (List aU)):=fun a0 =>
 if (decide ((aJ a0.1 1)<(a3.1.length:Int))) then ((idx a3.1 a0.1).bind fun a4=>(idx a3.2 a1.1).bind fun a5=>(idx a3.1 (aJ a0.1 1)).bind fun a6=>(idx a3.2 a1.1).bind fun a7=>(idx b2 (aJ a0.1 1)).bind fun a8=>(idx a8 a1.1).bind fun a9=>(idx b2 (aJ a0.1 1)).bind fun b0=>(idx b0 (aJ a1.1 1)).bind fun b1=>(cF (aU.mk (aF.mk a4 a5 a6 a7) a9 b1) a0.2).bind fun a2=>some (.inl ((aJ a0.1 1),a2))) else (some (.inr a0.2))
def gI (a2:(List Int)×(List Int)) (a3:(List (List Int))):Int×(List aU)→Option (Int×(List aU) ⊕ (List aU)):=fun a0 =>
 if (decide (a0.1<(a2.2.length:Int))) then ((aH (gH a2 a3 a0) (0,a0.2)).bind fun a1=>some (.inl ((aJ a0.1 1),a1))) else (some (.inr a0.2))
def gJ (a3:(List Int)×(List Int)) (b2:(List (List Int))) (a1:Int×(List aU)):Int×(List aU)→Option (Int×(List aU) ⊕ (List aU)):=fun a0 =>
 if (decide ((aJ a0.1 1)<(a3.2.length:Int))) then ((idx a3.1 a1.1).bind fun a4=>(idx a3.2 a0.1).bind fun a5=>(idx a3.1 a1.1).bind fun a6=>(idx a3.2 (aJ a0.1 1)).bind fun a7=>(idx b2 a1.1).bind fun a8=>(idx a8 (aJ a0.1 1)).bind fun a9=>(idx b2 (aJ a1.1 1)).bind fun b0=>(idx b0 (aJ a0.1 1)).bind fun b1=>(cF (aU.mk (aF.mk a4 a5 a6 a7) a9 b1) a0.2).bind fun a2=>some (.inl ((aJ a0.1 1),a2))) else (some (.inr a0.2))
def gK (a2:(List Int)×(List Int)) (a3:(List (List Int))):Int×(List aU)→Option (Int×(List aU) ⊕ (List aU)):=fun a0 =>
 if (decide (a0.1<(a2.1.length:Int))) then ((aH (gJ a2 a3 a0) (0,a0.2)).bind fun a1=>some (.inl ((aJ a0.1 1),a1))) else (some (.inr a0.2))
def lG (regions:(List (List aM))):Option ((List aU)):=
 (aH (jL regions) (0,[])).bind fun a4=>(tA a4).bind fun a2=>(qD regions a2.1 a2.2).bind fun a3=>(aH (gI a2 a3) (0,[])).bind fun a0=>(aH (gK a2 a3) (0,a0)).bind fun a1=>some a1
def kQ (l:bB):Int×(List (List aM))→Option (Int×(List (List aM)) ⊕ (List (List aM))):=fun a0 =>
 if (decide (a0.1<(l.aB.length:Int))) then ((idx l.aB a0.1).bind fun a2=>(app a0.2 [a2.aD]).bind fun a1=>some (.inl ((aJ a0.1 1),a1))) else (some (.inr a0.2))
def oL (a4:(List aU)) (a0:Int×(List aZ)):(Int×Int)→Option (Int×(List aZ) ⊕ (List aZ)):=fun a1 =>
 (idx a4 a0.1).bind fun a3=>(app a0.2 [(aZ.mk a3.At a1.1 a1.2)]).bind fun a2=>some (.inl ((aJ a0.1 1),a2))
def kR (a1:(List aU)):Int×(List aZ)→Option (Int×(List aZ) ⊕ (List aZ)):=fun a0 =>
 if (decide (a0.1<(a1.length:Int))) then ((idx a1 a0.1).bind fun a2=>(idx a1 a0.1).bind fun a3=>(idx a1 a0.1).bind fun a4=>(idx a1 a0.1).bind fun a5=>if (decide ((iL a2.Low a3.sC)<0)) then (oL a1 a0 ((imax a4.Low a5.sC),(iL a2.Low a3.sC))) else (oL a1 a0 ((iL a2.Low a3.sC),(imax a4.Low a5.sC)))) else (some (.inr a0.2))
def mW (l:bB):Option ((List aZ)):=
 (aH (kQ l) (0,[])).bind fun a2=>(lG a2).bind fun a1=>(aH (kR a1) (0,[])).bind fun a0=>some a0
def vZ (l:bB):Option ((List aZ)×Int):=
 (iI l).bind fun r2=>if (r2 != 0) then (some ([],r2)) else ((mW l).bind fun r4=>some (r4,0))
set_option maxRecDepth 10000
theorem BC (h:List Int):bU h=Gt (brC bM) h:=by kernel_rfl
theorem Is (h:List Int):lJ h=Jp (fun x y=>x==y) 0 h:=by kernel_rfl
def ltI (x y:Int):Bool:=decide (x<y)
theorem LF:Oh ltI where
 asymm x y h:=by unfold ltI at *;simp at *;omega
 neg x y z h:=by unfold ltI at *;simp at *;omega
theorem RR (x y:Int):bM x y=some (if x<y then -1 else if y<x then 1 else 0):=by
 unfold bM wX
 have e:∀ z:Int,(z != z)=false:=fun z=>by simp
 simp only [e,Option.bind_some,Bool.false_eq_true,if_false]
 by_cases h1:x<y
 ·simp [h1]
 ·by_cases h2:x>y
  ·have:y<x:=h2
   simp [h1,h2,this]
  ·have:¬ y<x:=h2
   simp [h1,h2,this]
theorem brI (β:Type) (x y:Int) (k:Bool→Option β):brC bM β x y k=k (ltI x y):=by
 unfold brC ltI
 rw [RR,Option.bind_some]
 congr 1
 by_cases h1:x<y
 ·simp [h1]
 ·by_cases h2:y<x <;> simp [h1,h2]
theorem Sg {l:List Int} (hl:l.length≤1073741824):∃ r,bU l=some r∧r.Perm l∧r.Pairwise fun x y=>ltI y x=false:=by
 rw [BC]
 exact Yy (P:=fun _=>True) (d:=0) (fun β x y k _ _=>brI β x y k) LF ⟨by omega,fun _ _ _=>trivial⟩
theorem KT {l:List Int} (hl:l.length≤1073741824):∃ r,Kw l=some r∧r.Pairwise (fun x y=>x<y)∧∀ x,x ∈ r↔x ∈ l:=by
 obtain ⟨r,h1,h2,h3⟩:=Sg hl
 have hr:r.length=l.length:=h2.length_eq
 obtain ⟨q,q1,q2,q3⟩:=Qi LF (fun x y a b=>by unfold ltI at a b;simp at a b;omega) (eqb:=fun x y=>x==y) (fun x y=>by simp) (0:Int) (l:=r) (by omega) h3
 refine ⟨q, ?_,q2.imp (fun h=>by unfold ltI at h;simpa using h),fun x=>by rw [q3,h2.mem_iff]⟩
 unfold Kw
 simp only [Option.bind_some,h1,Is,q1]
end Go.SM
namespace Go.SM
open Go Go.VI Go.Cells
def Wr (a1:Int×(Option Int)×(Option Int)×Int×(List aZ)):(Int×(Option Int)×(Option Int)×(List aZ))→Option ((Int×(Option Int)×(Option Int)×Int×(List aZ)) ⊕ (List aZ)):=fun a0 =>
 some (.inl (a0.1,a0.2.1,a0.2.2.1,(aJ a1.2.2.2.1 1),a0.2.2.2))
def BM (a2:Int×(Option Int)×(Option Int)×Int×(List aZ)) (a3:Int) (a0:(Option Int)×(Option Int)):(List aZ)→Option ((Int×(Option Int)×(Option Int)×Int×(List aZ)) ⊕ (List aZ)):=fun a1 =>
 Wr a2 (a3,a0.1,a0.2,a1)
def BN (line:Int→Int→Option aF) (a0:Int×(Option Int)×(Option Int)×Int×(List aZ)) (a3:Int):((Option Int)×(Option Int))→Option ((Int×(Option Int)×(Option Int)×Int×(List aZ)) ⊕ (List aZ)):=fun a2 =>
 (if (a2.1==a0.2.1) then (some (a2.2==a0.2.2.1)) else (some false)).bind fun a6=>if a6 then (Wr a0 (a0.1,a0.2.1,a0.2.2.1,a0.2.2.2.2)) else ((if (a0.2.1==a0.2.2.1) then (some false) else ((match a0.2.1 with | some n=>eX n | none=>eU (lX.mk )).bind fun a4=>if a4 then (some true) else ((match a0.2.2.1 with | some n=>eX n | none=>eU (lX.mk )).bind fun a5=>some a5))).bind fun a7=>if a7 then ((line a0.1 a3).bind fun a9=>(sJ a0.2.1).bind fun b0=>(sJ a0.2.2.1).bind fun b1=>(Dg a9 b0 b1).bind fun a1=>(app a0.2.2.2.2 [(aZ.mk (aF.mk a1.1.Line.X1 a1.1.Line.Y1 a1.1.Line.X2 a1.1.Line.Y2) a1.1.A a1.1.B)]).bind fun a8=>BM a0 a3 a2 a8) else (BM a0 a3 a2 a0.2.2.2.2))
def GG (ends:(List Int)) (side:Int→Option (Option Int×Option Int)) (line:Int→Int→Option aF):(Int×(Option Int)×(Option Int)×Int×(List aZ))→Option ((Int×(Option Int)×(Option Int)×Int×(List aZ)) ⊕ (List aZ)):=fun a0 =>
 if (decide (a0.2.2.2.1<(ends.length:Int))) then ((idx ends a0.2.2.2.1).bind fun a1=>if (decide ((aJ a0.2.2.2.1 1)<(ends.length:Int))) then ((side a1).bind fun a2=>BN line a0 a1 (a2.1,a2.2)) else (BN line a0 a1 (none,none))) else (some (.inr a0.2.2.2.2))
def al (ends:(List Int)) (side:Int→Option (Option Int×Option Int)) (line:Int→Int→Option aF):Option ((List aZ)):=
 (aH (GG ends side line) (0,none,none,0,[])).bind fun a0=>some a0
theorem DM (ends:List Int) (n m:ByteArray) (g r w t:Int) (c u:List aM) (p:List aW) (y z:Int):eS ends n m g r w t c u p y z=al ends (fun i=>Bm i n m g r w t c u p y) (fun a b=>Bn a b z):=rfl
theorem DN (ends:List Int) (n m:ByteArray) (g r w t:Int) (c u:List aM) (p:List aW) (y z:Int):eT ends n m g r w t c u p y z=al ends (fun i=>Bo i n m g r w t c u p y) (fun a b=>Bp a b z):=rfl
def mkE (s:aF) (a b:Option Int):aZ:=
 let p:Int:=match a with | some i=>i | none=>-1
 let q:Int:=match b with | some i=>i | none=>-1
 if p<0∨(q ≥ 0∧q<p) then ⟨s,q,p⟩ else ⟨s,p,q⟩
theorem FC (a:Option Int):sJ a=some (match a with | some i=>i | none=>-1):=by cases a <;> rfl
theorem LZ (s:aF) (a b:Option Int):∃ u v,Dg s (match a with | some i=>i | none=>-1) (match b with | some i=>i | none=>-1)=some (mkE s a b,u,v):=by
 unfold Dg mkE Bl
 generalize (match a with | some i=>i | none=>(-1:Int))=p
 generalize (match b with | some i=>i | none=>(-1:Int))=q
 simp only
 by_cases h1:p<0
 ·simp [h1]
 ·by_cases h2:q ≥ 0
  ·by_cases h3:q<p
   ·simp [h1,h2,h3]
   ·simp [h1,h2,h3]
  ·simp [h1,h2]
theorem Yx (a:Option Int):(match a with | some n=>eX n | none=>eU lX.mk)=some a.isSome:=by cases a <;> rfl
theorem Ws {line:Int→Int→Option aF} {ln:Int→Int→aF} (hline:∀ a b,line a b=some (ln a b)) {begin_:Int} {one two:Option Int} {k:Nat} (hk:k≤1000) {out:List aZ} (ho:out.length≤1000000) (x:Int) (a b:Option Int) :
  BN line (begin_,one,two,(k:Int),out) x (a,b)=some (.inl (if a=one∧b=two then (begin_,one,two,((k+1:Nat):Int),out) else (x,a,b,((k+1:Nat):Int),if one=two then out else out++[mkE (ln begin_ x) one two]))):=by
 unfold BN
 simp only
 by_cases h:a=one∧b=two
 ·obtain ⟨rfl,rfl⟩:=h
  simp only [beq_self_eq_true,if_true,Option.bind_some,Wr,and_self,bH k (by omega)]
 ·have e:(if (a==one)=true then some (b==two) else some false)=some false:=by
   by_cases h1:a=one
   ·have h2:¬ b=two:=fun q=>h ⟨h1,q⟩
    simp [h1,h2]
   ·simp [h1]
  rw [e,if_neg h]
  simp only [Option.bind_some,Bool.false_eq_true,if_false]
  by_cases h3:one=two
  ·have:(one==two)=true:=by simp [h3]
   rw [this,if_pos h3]
   simp only [if_true,Option.bind_some,Bool.false_eq_true,if_false,BM,Wr,bH k (by omega)]
  ·have h4:(one==two)=false:=by simp [h3]
   have h5:(one.isSome || two.isSome)=true:=by
    cases one with
    | some _=>rfl
    | none=>cases two with
      | some _=>rfl
      | none=>exact absurd rfl h3
   obtain ⟨u,v,e2⟩:=LZ (ln begin_ x) one two
   have e3:(if one.isSome=true then some true else some two.isSome)=some true:=by
    cases hh:one.isSome with
    | true=>rfl
    | false=>rw [hh,Bool.false_or] at h5;simp [h5]
   have e4:(match one with | some n=>eX n | none=>eU lX.mk).bind (fun b478=>if b478=true then some true else (match two with | some n=>eX n | none=>eU lX.mk).bind fun b479=>some b479)=some true:=by
    rw [Yx,Yx]
    exact e3
   rw [h4]
   simp only [Bool.false_eq_true,if_false]
   rw [e4]
   simp only [Option.bind_some,if_true,hline,FC,e2,if_neg h3]
   rw [jE (by simp [LIM];omega)]
   simp only [Option.bind_some,BM,Wr,bH k (by omega)]
theorem NZ {A B:Int→Option Int} {xs:List Int} (h:Al A B xs) {side:Int→Option (Option Int×Option Int)} (hside:∀ (i:Nat) x,xs[i]?=some x→i+1<xs.length→side x=some (A x,B x)) {line:Int→Int→Option aF} {ln:Int→Int→aF} (hline:∀ a b,line a b=some (ln a b)) :
  ∃ L,al xs side line=some (L.map fun p=>mkE (ln p.1 p.2) (A p.1) (B p.1))∧eF (fun z=>cod (A z) (B z)) L∧L.length≤xs.length:=by
 obtain ⟨s,hs⟩:∃ s:Int→Int,s=fun z=>cod (A z) (B z):=⟨_,rfl⟩
 have hlen:=h.len
 have s0:∀ z,s z=0↔A z=B z:=fun z=>by rw [hs];exact h.s0 z
 have sinj:∀ z w,s z≠0→s z=s w→A z=A w∧B z=B w:=fun z w q1 q2=>by subst hs;exact h.inj q1 q2
 obtain ⟨lo,hlo⟩:=h.lo
 replace hlo:∀ z,z<lo→s z=0:=fun z hz=>by rw [hs];exact hlo z hz
 have hst:sA s xs:=by rw [hs];exact uZ (fun p:Option Int×Option Int=>cod p.1 p.2) (g:=fun z=>(A z,B z)) h.st
 rw [← hs]
 obtain ⟨mk,hmk⟩:∃ mk:Int×Int→aZ,mk=fun p=>mkE (ln p.1 p.2) (A p.1) (B p.1):=⟨_,rfl⟩
 rw [← hmk]
 obtain ⟨r,q1,q2⟩:=jT (fun t:Int×Option Int×Option Int×Int×List aZ=>((xs.length:Int)-t.2.2.2.1).toNat)
  (fun t:Int×Option Int×Option Int×Int×List aZ=>∃ k:Nat,t.2.2.2.1=k∧k≤xs.length∧(k=xs.length→∃ L,t.2.2.2.2=L.map mk∧eF s L∧L.length≤xs.length) ∧
   (∀ e,xs[k]?=some e→∃ L,eF (cut s e) L∧L.length≤k∧t.2.1=A (e-1)∧t.2.2.1=B (e-1)∧(t.2.1=t.2.2.1→t.2.2.2.2=L.map mk)∧(t.2.1≠t.2.2.1→∃ L0,L=L0++[(t.1,e)]∧t.2.2.2.2=L0.map mk)))
  (fun r=>∃ L,r=L.map mk∧eF s L∧L.length≤xs.length) (GG xs side line) (by
   rintro ⟨bg,one,two,k',out⟩ ⟨k,hk',hk,hend,hI⟩
   simp only at hk' hend hI ⊢
   subst hk'
   unfold GG
   by_cases hkn:k<xs.length
   case neg =>
    right
    have hd:¬ (k:Int)<(xs.length:Int):=by omega
    exact ⟨out,by simp only [hd,decide_false,Bool.false_eq_true,if_false],hend (by omega)⟩
   left
   have hd:(k:Int)<(xs.length:Int):=by omega
   obtain ⟨e,he⟩:∃ e,xs[k]?=some e:=⟨_,List.getElem?_eq_getElem hkn⟩
   obtain ⟨L,hL,hLk,h1,h2,hzero,hopen⟩:=hI e he
   have hout:out.length≤1000000:=by
    rcases Classical.em (one=two) with q | q
    ·rw [hzero q,List.length_map];omega
    ·obtain ⟨L0,e1,e2⟩:=hopen q
     rw [e2,List.length_map]
     have:=congrArg List.length e1
     simp at this;omega
   have sone:s (e-1)=0↔one=two:=by rw [s0,h1,h2]
   -- what is closed
   have closed:one≠two→out++[mkE (ln bg e) one two]=L.map mk:=fun q=>by
    obtain ⟨L0,e1,e2⟩:=hopen q
    have hr:=pX.1 ((hL.2 bg e).1 (by rw [e1];simp))
    have hne:s (e-1)≠0:=fun z=>q (sone.1 z)
    have hb:=sinj (e-1) bg hne (hr.2.2.2.1 (e-1) (by omega) (by omega))
    rw [e1,e2,List.map_append,hmk]
    simp only [List.map_cons,List.map_nil]
    rw [h1,h2,hb.1,hb.2]
   have kk:((k:Int)+1)=((k+1:Nat):Int):=by omega
   by_cases hkl:k+1<xs.length
   ·obtain ⟨e',he'⟩:∃ e',xs[k+1]?=some e':=⟨_,List.getElem?_eq_getElem hkl⟩
    obtain ⟨hee,hst'⟩:=mO hst he he'
    obtain ⟨b1,b2⟩:=h.before he he'
    have hd2:aJ (k:Int) 1<(xs.length:Int):=by rw [bH k (by omega)];omega
    simp only [hd,decide_true,if_true,aQ he,Option.bind_some,hd2,hside k e he hkl,Ws hline (show k≤1000 by omega) hout e (A e) (B e)]
    have hprev:s (e'-1)=s e:=hst' _ (by omega) (by omega)
    by_cases hc:A e=one∧B e=two
    ·refine ⟨_,rfl, ?_,by rw [if_pos hc];simp only;omega⟩
     rw [if_pos hc]
     have es:s e=s (e-1):=by rw [hs];simp only;rw [← h1,← h2,hc.1,hc.2]
     refine ⟨k+1,rfl,by omega,fun q=>by omega,fun e2 he2=>?_⟩
     rw [he'] at he2;injection he2 with he2;subst he2
     simp only
     rcases Classical.em (one=two) with q | q
     ·have e0:s e=0:=by rw [es];exact sone.2 q
      exact ⟨L,Ij hL hee hst' e0,by omega,by rw [b1,hc.1],by rw [b2,hc.2],hzero,fun q'=>absurd q q'⟩
     ·have e0:s e≠0:=by rw [es];exact fun z=>q (sone.1 z)
      obtain ⟨l0,a,hla,hrun⟩:=Nb hL hee hst' hlo e0 es.symm
      obtain ⟨L0,e1,e2⟩:=hopen q
      rw [hla] at e1
      obtain ⟨rfl,e3⟩:=List.append_inj' e1 rfl
      injection e3 with e3 _
      injection e3 with e3 _
      subst e3
      exact ⟨l0++[(a,e')],hrun,by rw [hla] at hLk;simp at hLk ⊢;omega,by rw [b1,hc.1],by rw [b2,hc.2],fun q'=>absurd q' q,fun _=>⟨l0,rfl,e2⟩⟩
    ·refine ⟨_,rfl, ?_,by rw [if_neg hc];simp only;omega⟩
     rw [if_neg hc]
     refine ⟨k+1,rfl,by omega,fun q=>by omega,fun e2 he2=>?_⟩
     rw [he'] at he2;injection he2 with he2;subst he2
     simp only
     have hout':(if one=two then out else out++[mkE (ln bg e) one two])=L.map mk:=by
      split
      ·rename_i q;exact hzero q
      ·rename_i q;exact closed q
     rcases Classical.em (A e=B e) with q | q
     ·exact ⟨L,Ij hL hee hst' ((s0 e).2 q),by omega,b1.symm,b2.symm,fun _=>hout',fun q'=>absurd q q'⟩
     ·have e0:s e≠0:=fun z=>q ((s0 e).1 z)
      have hne:s (e-1)≠s e:=fun z=>by
       have:=sinj e (e-1) e0 z.symm
       exact hc ⟨by rw [h1];exact this.1,by rw [h2];exact this.2⟩
      exact ⟨L++[(e,e')],Sa hL hee hst' e0 hne,by simp;omega,b1.symm,b2.symm,fun q'=>absurd q' q,fun _=>⟨L,rfl,hout'⟩⟩
   ·have hd2:¬ aJ (k:Int) 1<(xs.length:Int):=by rw [bH k (by omega)];omega
    simp only [hd,decide_true,if_true,aQ he,Option.bind_some,hd2,decide_false,Bool.false_eq_true,if_false,Ws hline (show k≤1000 by omega) hout e none none]
    have hz:∀ z,e≤z→s z=0:=fun z hz=>by
     have:=h.high e (by rw [show xs.length-1=k from by omega];exact he) z hz
     rw [s0,this.1,this.2]
    refine ⟨_,rfl,⟨k+1, ?_,by omega,fun _=>⟨L, ?_,Ma hL hz,by omega⟩,fun e2 he2=>by have:=aV he2;omega⟩, ?_⟩
    ·split <;> rfl
    ·by_cases hc:(none:Option Int)=one∧(none:Option Int)=two
     ·rw [if_pos hc];exact hzero (by rw [← hc.1,← hc.2])
     ·rw [if_neg hc]
      simp only
      split
      ·rename_i q;exact hzero q
      ·rename_i q;exact closed q
    ·split <;> simp only <;> omega) (0,none,none,0,[])
   ⟨0,rfl,by omega,fun q=>⟨[],rfl,by
    have:xs=[]:=List.eq_nil_of_length_eq_zero q.symm
    refine ⟨.nil,fun a b=>⟨fun m=>by simp at m,fun m=>absurd ((s0 a).2 ?_) m.2.1⟩⟩
    rw [(h.emp this a).1,(h.emp this a).2],by simp⟩,fun e he=>by
    have hl:=h.low e he
    exact ⟨[],Ju fun z hz=>by rw [s0,(hl z hz).1,(hl z hz).2],by simp,(hl (e-1) (by omega)).1.symm,(hl (e-1) (by omega)).2.symm,fun _=>rfl,fun q=>absurd rfl q⟩⟩
 obtain ⟨L,rfl,q3,q4⟩:=q2
 exact ⟨L,by unfold al;rw [q1];rfl,q3,q4⟩
end Go.SM
namespace Go.SM
open Go Go.VI
def Vg (l:bB):Int×(List (List Bool))→Option (Int×(List (List Bool)) ⊕ (List (List Bool))):=fun a0 =>
 if (decide (a0.1<(l.aB.length:Int))) then ((idx l.aB a0.1).bind fun a3=>(mk (a3.fD.length:Int) false).bind fun a1=>(app a0.2 [a1]).bind fun a2=>some (.inl ((aJ a0.1 1),a2))) else (some (.inr a0.2))
def Ts (l:bB) (edges:Int):Option (bP):=
 (mk edges false).bind fun l9=>(mk (l.aB.length:Int) false).bind fun a1=>(mk (l.aB.length:Int) 0).bind fun a2=>(mk (l.aB.length:Int) false).bind fun a3=>(aH (Vg l) (0,[])).bind fun a0=>some (bP.mk l9 a0 a1 a2 a3)
def yX (a:(List Int)) (b:(List Int)):Int→Option (Int ⊕ (Unit ⊕ Unit)):=fun a0 =>
 if (decide (a0<(a.length:Int))) then ((idx a a0).bind fun a1=>(idx b a0).bind fun a2=>if (a1 != a2) then (some (.inr (.inl ()))) else (some (.inl (aJ a0 1)))) else (some (.inr (.inr (()))))
def oH (a:(List Int)) (b:(List Int)):Option (Bool):=
 if ((a.length:Int) != (b.length:Int)) then (some false) else ((aH (yX a b) 0).bind fun a0=>match a0 with | .inl a1=>some false | .inr a2=>some true)
def Kp (st:bP) (l:bB):Int→Option (Int ⊕ (Unit ⊕ Unit)):=fun a0 =>
 if (decide (a0<(l.aB.length:Int))) then ((idx l.aB a0).bind fun a1=>(idx st.fX a0).bind fun a2=>if ((a2.length:Int) != (a1.fD.length:Int)) then (some (.inr (.inl ()))) else (some (.inl (aJ a0 1)))) else (some (.inr (.inr (()))))
def Gm (st:bP) (l:bB) (edges:Int):Option (Bool):=
 (if ((st.Cut.length:Int) != edges) then (some true) else (if ((st.fX.length:Int) != (l.aB.length:Int)) then (some true) else (if ((st.tK.length:Int) != (l.aB.length:Int)) then (some true) else (if ((st.bN.length:Int) != (l.aB.length:Int)) then (some true) else (some ((st.fE.length:Int) != (l.aB.length:Int))))))).bind fun j2=>if j2 then (some false) else ((aH (Kp st l) 0).bind fun a0=>match a0 with | .inl a1=>some false | .inr a2=>some true)
def Aw (s0:(List Bool)) (v:Bool):Int→Option (Int ⊕ (Int ⊕ Unit)):=fun a0 =>
 if (decide (a0<(s0.length:Int))) then ((idx s0 a0).bind fun a1=>if (v==a1) then (some (.inr (.inl a0))) else (some (.inl (aJ a0 1)))) else (some (.inr (.inr (()))))
def uY (s0:(List Bool)) (v:Bool):Option (Int):=
 (aH (Aw s0 v) 0).bind fun a1=>match a1 with | .inl a0=>some a0 | .inr a2=>some (-1)
def tE (s0:(List Bool)) (v:Bool):Option (Bool):=
 (uY s0 v).bind fun r2=>some (decide (r2 ≥ 0))
def Vf (e:aZ) (piece:Int):Option (Bool):=
 (if (e.A==piece) then (some true) else (some (e.B==piece))).bind fun j1=>some j1
def Kr (st:bP) (all:(List aZ)) (piece:Int):Int→Option (Int ⊕ (Unit ⊕ Unit)):=fun a0 =>
 if (decide (a0<(all.length:Int))) then ((idx all a0).bind fun a3=>((Vf a3 piece).bind fun a2=>if a2 then ((idx st.Cut a0).bind fun a4=>some (!a4)) else (some false)).bind fun a1=>if a1 then (some (.inr (.inl ()))) else (some (.inl (aJ a0 1)))) else (some (.inr (.inr (()))))
def zZ (st:bP) (all:(List aZ)) (piece:Int):Option (Bool):=
 (aH (Kr st all piece) 0).bind fun a0=>match a0 with | .inl a1=>some false | .inr a2=>some true
def Gd (st:bP) (all:(List aZ)) (x2:oY):Option (Bool):=
 (idx st.fE x2.aW).bind fun a3=>if a3 then (some false) else (if (decide (x2.pR ≥ 0)) then ((idx st.fX x2.aW).bind fun a4=>(idx a4 x2.pR).bind fun a5=>some (!a5)) else (((idx st.tK x2.aW).bind fun a6=>if a6 then (some false) else ((idx st.fX x2.aW).bind fun a7=>(tE a7 false).bind fun a1=>if a1 then (some false) else ((zZ st all x2.aW).bind fun a2=>some (!a2)))).bind fun a0=>some a0))
def yH (a1:Int×Int×Int×Int×Int):(Int×Int×Int×Int)→Option ((Int×Int×Int×Int×Int) ⊕ (Int×Int×Int×Int)):=fun a0 =>
 some (.inl ((aJ a1.1 1),a0.1,a0.2.1,a0.2.2.1,a0.2.2.2))
def Vc (x0:aW):(Int×Int×Int×Int×Int)→Option ((Int×Int×Int×Int×Int) ⊕ (Int×Int×Int×Int)):=fun a0 =>
 if (decide (a0.1<(x0.aD.length:Int))) then ((idx x0.aD a0.1).bind fun a1=>(dM a1).bind fun a2=>if (!a2) then (yH a0 (a0.2.1,a0.2.2.1,a0.2.2.2.1,a0.2.2.2.2)) else (if (a0.2.2.2.1==0) then (yH a0 (a1.X,a1.Y,a1.W,a1.H)) else (yH a0 ((iL a0.2.1 a1.X),(iL a0.2.2.1 a1.Y),(aK (imax (aJ a0.2.1 a0.2.2.2.1) (aJ a1.X a1.W)) (iL a0.2.1 a1.X)),(aK (imax (aJ a0.2.2.1 a0.2.2.2.2) (aJ a1.Y a1.H)) (iL a0.2.2.1 a1.Y)))))) else (some (.inr (a0.2.1,a0.2.2.1,a0.2.2.2.1,a0.2.2.2.2)))
def Tr (x0:aW):Option (Bool):=
 (aH (Vc x0) (0,0,0,0,0)).bind fun a0=>some (decide ((iL a0.2.2.1 a0.2.2.2)<7200))
def Gl (r0:aM) (a_0:Int) (a_1:Int) (a_2:Int) (a_3:Int):Option (Bool):=
 (uR (aM.mk a_0 a_1 a_2 a_3) r0).bind fun r2=>some r2
def lL (s0:(List aM)) (f_0_0:Int) (f_0_1:Int) (f_0_2:Int) (f_0_3:Int):Int→Option (Int ⊕ (Int ⊕ Unit)):=fun a0 =>
 if (decide (a0<(s0.length:Int))) then ((idx s0 a0).bind fun a2=>(Gl a2 f_0_0 f_0_1 f_0_2 f_0_3).bind fun a1=>if a1 then (some (.inr (.inl a0))) else (some (.inl (aJ a0 1)))) else (some (.inr (.inr (()))))
def fZ (s0:(List aM)) (f_0_0:Int) (f_0_1:Int) (f_0_2:Int) (f_0_3:Int):Option (Int):=
 (aH (lL s0 f_0_0 f_0_1 f_0_2 f_0_3) 0).bind fun a1=>match a1 with | .inl a0=>some a0 | .inr a2=>some (-1)
def fK (s0:(List aM)) (f_0_0:Int) (f_0_1:Int) (f_0_2:Int) (f_0_3:Int):Option (Bool):=
 (fZ s0 f_0_0 f_0_1 f_0_2 f_0_3).bind fun r2=>some (decide (r2 ≥ 0))
def Ol (l:(List aM)) (s1:Kg):Int→Option (Int ⊕ (Unit ⊕ Unit)):=fun a1 =>
 if (decide (a1<([(aM.mk (aK s1.X 1) (aK s1.Y 1) 1 1),(aM.mk s1.X (aK s1.Y 1) 1 1),(aM.mk (aK s1.X 1) s1.Y 1 1),(aM.mk s1.X s1.Y 1 1)].length:Int))) then ((idx [(aM.mk (aK s1.X 1) (aK s1.Y 1) 1 1),(aM.mk s1.X (aK s1.Y 1) 1 1),(aM.mk (aK s1.X 1) s1.Y 1 1),(aM.mk s1.X s1.Y 1 1)] a1).bind fun a0=>(fK l a0.X a0.Y a0.W a0.H).bind fun a2=>if (!a2) then (some (.inr (.inl ()))) else (some (.inl (aJ a1 1)))) else (some (.inr (.inr (()))))
def Ez (l:(List aM)) (s1:Kg):Option (Bool):=
 (if (decide (s1.X<(-4194304))) then (some true) else (if (decide (s1.X>4194304)) then (some true) else (if (decide (s1.Y<(-4194304))) then (some true) else (some (decide (s1.Y>4194304)))))).bind fun j2=>if j2 then (some false) else ((aH (Ol l s1) 0).bind fun a0=>match a0 with | .inl a1=>some false | .inr a2=>some true)
def BT (s0:Kg) (l:aF):Option (Int):=
 some (imax (imax (imax (imax 0 (aK l.X1 s0.X)) (aK s0.X l.X2)) (aK l.Y1 s0.Y)) (aK s0.Y l.Y2))
def Ks (l:bB) (x3:oY):Int→Option (Int ⊕ (Unit ⊕ Unit)):=fun a0 =>
 if (decide (a0<(l.aB.length:Int))) then ((idx l.aB a0).bind fun a2=>(Ez a2.aD (Kg.mk x3.kV.X x3.kV.Y)).bind fun a1=>if a1 then (some (.inr (.inl ()))) else (some (.inl (aJ a0 1)))) else (some (.inr (.inr (()))))
def Kt (st:bP) (all:(List aZ)) (x3:oY):Int→Option (Int ⊕ (Unit ⊕ Unit)):=fun a0 =>
 if (decide (a0<(all.length:Int))) then ((idx all a0).bind fun a1=>((Vf a1 x3.aW).bind fun a3=>if a3 then ((idx st.Cut a0).bind fun a5=>if a5 then (some false) else ((BT (Kg.mk x3.kV.X x3.kV.Y) a1.Line).bind fun a4=>some (decide (a4≤7200)))) else (some false)).bind fun a2=>if a2 then (some (.inr (.inl ()))) else (some (.inl (aJ a0 1)))) else (some (.inr (.inr (()))))
def Gn (st:bP) (l:bB) (all:(List aZ)) (x3:oY):Option (Bool):=
 if (decide (x3.pR ≥ 0)) then ((idx l.aB x3.aW).bind fun a7=>(idx a7.fD x3.pR).bind fun a0=>(if (decide (x3.kV.X>a0.X)) then (if (decide (x3.kV.X<(aJ a0.X a0.W))) then (if (decide (x3.kV.Y>a0.Y)) then (some (decide (x3.kV.Y<(aJ a0.Y a0.H)))) else (some false)) else (some false)) else (some false)).bind fun a2=>some a2) else ((if (decide (x3.kV.X<0)) then (some true) else (if (decide (x3.kV.X>l.bA.gY)) then (some true) else (if (decide (x3.kV.Y<0)) then (some true) else (if (decide (x3.kV.Y>l.bA.dK)) then (some true) else ((Ez l.bA.cG (Kg.mk x3.kV.X x3.kV.Y)).bind fun a6=>some a6))))).bind fun a3=>if a3 then (some false) else ((aH (Ks l x3) 0).bind fun a8=>match a8 with | .inl a9=>some false | .inr b0=>(aH (Kt st all x3) 0).bind fun a1=>match a1 with | .inl a4=>some true | .inr a5=>some false))
def gL (s:(List Bool)):Option (List Bool):=app [] s
def kS (s:(List Int)):Option (List Int):=app [] s
def Ji (st:bP):Int×(List (List Bool))→Option (Int×(List (List Bool)) ⊕ (List (List Bool))):=fun a0 =>
 if (decide (a0.1<(st.fX.length:Int))) then ((idx st.fX a0.1).bind fun a3=>(gL a3).bind fun a2=>(app a0.2 [a2]).bind fun a1=>some (.inl ((aJ a0.1 1),a1))) else (some (.inr a0.2))
def Gc (st:bP):Option (bP):=
 (gL st.Cut).bind fun r9=>(gL st.tK).bind fun a1=>(kS st.bN).bind fun a2=>(gL st.fE).bind fun a3=>(aH (Ji st) (0,[])).bind fun a0=>some (bP.mk r9 a0 a1 a2 a3)
def Mk (a1:Int×(List Bool)):(List Bool)→Option (Int×(List Bool) ⊕ (List Bool)):=fun a0 =>
 some (.inl ((aJ a1.1 1),a0))
def EB (l:bB) (all:(List aZ)) (a1:(List Bool)×(List (List Bool))×(List Bool)×(List Int)):Int×(List Bool)→Option (Int×(List Bool) ⊕ (List Bool)):=fun a0 =>
 if (decide (a0.1<(l.aB.length:Int))) then (((zZ (bP.mk a1.1 a1.2.1 a1.2.2.1 a1.2.2.2 a0.2) all a0.1).bind fun a3=>if a3 then ((idx a1.2.2.1 a0.1).bind fun a4=>if a4 then ((idx a1.2.2.2 a0.1).bind fun a5=>some (!(decide (a5>0)))) else (some true)) else (some false)).bind fun a2=>if a2 then ((idx a0.2 a0.1).bind fun a6=>Mk a0 (List.set a0.2 (Int.toNat a0.1) true)) else (Mk a0 a0.2)) else (some (.inr a0.2))
def Ml (l:bB) (all:(List aZ)) (a2:bP):((List Bool)×(List (List Bool))×(List Bool)×(List Int))→Option (bP×Int):=fun a0 =>
 (aH (EB l all a0) (0,a2.fE)).bind fun a1=>some ((bP.mk a0.1 a0.2.1 a0.2.2.1 a0.2.2.2 a1),0)
def Mm (a1:Int×(List Bool)):(List Bool)→Option (Int×(List Bool) ⊕ (List Bool)):=fun a0 =>
 some (.inl ((aJ a1.1 1),a0))
def EC (all:(List aZ)) (x3:oY):Int×(List Bool)→Option (Int×(List Bool) ⊕ (List Bool)):=fun a0 =>
 if (decide (a0.1<(all.length:Int))) then ((idx all a0.1).bind fun a2=>(Vf a2 x3.aW).bind fun a1=>if a1 then ((idx a0.2 a0.1).bind fun a3=>Mm a0 (List.set a0.2 (Int.toNat a0.1) true)) else (Mm a0 a0.2)) else (some (.inr a0.2))
def Zm (l:bB) (all:(List aZ)) (st:bP) (x3:oY):Option (bP×Int):=
 ((Gm st l (all.length:Int)).bind fun a6=>if a6 then (if (decide (x3.aW<0)) then (some true) else (some (decide (x3.aW ≥ (l.aB.length:Int))))) else (some true)).bind fun a3=>if a3 then (some ((bP.mk [] [] [] [] []),1)) else ((if (decide (x3.pR<(-1))) then (some true) else ((idx l.aB x3.aW).bind fun b3=>if (decide (x3.pR ≥ (b3.fD.length:Int))) then (some true) else (if (decide (x3.bN<0)) then (some true) else (if (decide (x3.bN>4)) then (some true) else (if (decide (x3.pR ≥ 0)) then (some (x3.bN != 0)) else (some false)))))).bind fun a4=>if a4 then (some ((bP.mk [] [] [] [] []),1)) else ((Gd st all x3).bind fun a7=>if (!a7) then (some ((bP.mk [] [] [] [] []),12)) else ((if (decide (x3.pR<0)) then (if (x3.bN==0) then ((idx l.aB x3.aW).bind fun b4=>(Tr b4).bind fun a8=>some a8) else (some false)) else (some false)).bind fun a5=>if a5 then (some ((bP.mk [] [] [] [] []),15)) else ((Gn st l all x3).bind fun a9=>if (!a9) then (some ((bP.mk [] [] [] [] []),14)) else ((Gc st).bind fun a0=>if (decide (x3.pR ≥ 0)) then ((idx a0.fX x3.aW).bind fun a1=>(idx a1 x3.pR).bind fun b0=>Ml l all a0 (a0.Cut,(List.set a0.fX (Int.toNat x3.aW) (List.set a1 (Int.toNat x3.pR) true)),a0.tK,a0.bN)) else ((idx a0.tK x3.aW).bind fun b1=>(idx a0.bN x3.aW).bind fun b2=>(aH (EC all x3) (0,a0.Cut)).bind fun a2=>Ml l all a0 (a2,a0.fX,(List.set a0.tK (Int.toNat x3.aW) true),(List.set a0.bN (Int.toNat x3.aW) x3.bN))))))))
def Ej (l:bB) (st:bF):Int→Option (Int ⊕ (Unit ⊕ Unit)):=fun a0 =>
 if (decide (a0<(l.aB.length:Int))) then ((idx st.fX a0).bind fun a1=>(idx l.aB a0).bind fun a2=>if ((a1.length:Int) != (a2.fD.length:Int)) then (some (.inr (.inl ()))) else (some (.inl (aJ a0 1)))) else (some (.inr (.inr (()))))
def Hg (l:bB) (st:bF) (edges:Int):Option (Bool):=
 (if ((st.Cut.length:Int) != edges) then (some true) else (if ((st.fX.length:Int) != (l.aB.length:Int)) then (some true) else (if ((st.tK.length:Int) != (l.aB.length:Int)) then (some true) else (if ((st.bN.length:Int) != (l.aB.length:Int)) then (some true) else (some ((st.fE.length:Int) != (l.aB.length:Int))))))).bind fun j2=>if j2 then (some false) else ((aH (Ej l st) 0).bind fun a0=>match a0 with | .inl a1=>some false | .inr a2=>some true)
def Fs (l:(List Bool)):Int→Option (Int ⊕ (Unit ⊕ Unit)):=fun a0 =>
 if (decide (a0<(l.length:Int))) then ((idx l a0).bind fun a1=>if (!a1) then (some (.inr (.inl ()))) else (some (.inl (aJ a0 1)))) else (some (.inr (.inr (()))))
def Ip (l:(List Bool)):Option (Bool):=
 (aH (Fs l) 0).bind fun a0=>match a0 with | .inl a1=>some false | .inr a2=>some true
def Cu (l:(List aZ)) (st:bF) (piece:Int):Int→Option (Int ⊕ (Unit ⊕ Unit)):=fun a0 =>
 if (decide (a0<(l.length:Int))) then (((idx l a0).bind fun a2=>if (a2.A==piece) then ((idx st.Cut a0).bind fun a3=>some (!a3)) else ((idx l a0).bind fun a4=>if (a4.B==piece) then ((idx st.Cut a0).bind fun a5=>some (!a5)) else (some false))).bind fun a1=>if a1 then (some (.inr (.inl ()))) else (some (.inl (aJ a0 1)))) else (some (.inr (.inr (()))))
def wA (l:(List aZ)) (st:bF) (piece:Int):Option (Bool):=
 (aH (Cu l st piece) 0).bind fun a0=>match a0 with | .inl a1=>some false | .inr a2=>some true
def uF (a1:Bool×Int×Int×Int×Int×Int):(Bool×Int×Int×Int×Int)→Option ((Bool×Int×Int×Int×Int×Int) ⊕ (Bool×Int×Int×Int×Int)):=fun a0 =>
 some (.inl (a0.1,a0.2.1,a0.2.2.1,a0.2.2.2.1,a0.2.2.2.2,(aJ a1.2.2.2.2.2 1)))
def uG (a2:Bool×Int×Int×Int×Int×Int) (a0:aM):(Bool×Int×Int×Int×Int)→Option ((Bool×Int×Int×Int×Int×Int) ⊕ (Bool×Int×Int×Int×Int)):=fun a1 =>
 uF a2 (a1.1,(iL a1.2.1 a0.X),(iL a1.2.2.1 a0.Y),(imax a1.2.2.2.1 (aJ a0.X a0.W)),(imax a1.2.2.2.2 (aJ a0.Y a0.H)))
def Cr (x0:aW):(Bool×Int×Int×Int×Int×Int)→Option ((Bool×Int×Int×Int×Int×Int) ⊕ (Bool×Int×Int×Int×Int)):=fun a0 =>
 if (decide (a0.2.2.2.2.2<(x0.aD.length:Int))) then ((idx x0.aD a0.2.2.2.2.2).bind fun a1=>(cK a1).bind fun a2=>if (!a2) then (uF a0 (a0.1,a0.2.1,a0.2.2.1,a0.2.2.2.1,a0.2.2.2.2.1)) else (if (!a0.1) then (uG a0 a1 (true,a1.X,a1.Y,(aJ a1.X a1.W),(aJ a1.Y a1.H))) else (uG a0 a1 (a0.1,a0.2.1,a0.2.2.1,a0.2.2.2.1,a0.2.2.2.2.1)))) else (some (.inr (a0.1,a0.2.1,a0.2.2.1,a0.2.2.2.1,a0.2.2.2.2.1)))
def Gf (x0:aW):Option (Bool):=
 (aH (Cr x0) (false,0,0,0,0,0)).bind fun a0=>(if a0.1 then (some (decide ((iL (aK a0.2.2.2.1 a0.2.1) (aK a0.2.2.2.2 a0.2.2.1))<7200))) else (some true)).bind fun a1=>some a1
def Bb (l:(List aM)) (x1:Int) (y:Int):Int→Option (Int ⊕ (Unit ⊕ Unit)):=fun a0 =>
 if (decide (a0<(l.length:Int))) then ((idx l a0).bind fun a2=>(jM (aM.mk x1 y 1 1) a2).bind fun a1=>if a1 then (some (.inr (.inl ()))) else (some (.inl (aJ a0 1)))) else (some (.inr (.inr (()))))
def lS (l:(List aM)) (x1:Int) (y:Int):Option (Bool):=
 (aH (Bb l x1 y) 0).bind fun a0=>match a0 with | .inl a1=>some true | .inr a2=>some false
def uE (l:(List aM)) (s1:Kg):Option (Bool):=
 (if (decide (s1.X≤(-1048576))) then (some true) else (if (decide (s1.X ≥ 1048576)) then (some true) else (if (decide (s1.Y≤(-1048576))) then (some true) else (some (decide (s1.Y ≥ 1048576)))))).bind fun j2=>if j2 then (some false) else (((lS l s1.X s1.Y).bind fun r8=>if r8 then ((lS l (aK s1.X 1) s1.Y).bind fun r9=>if r9 then ((lS l s1.X (aK s1.Y 1)).bind fun a0=>if a0 then ((lS l (aK s1.X 1) (aK s1.Y 1)).bind fun a1=>some a1) else (some false)) else (some false)) else (some false)).bind fun j7=>some j7)
def xU (s0:Kg) (g:aF):Option (Int):=
 some (imax (imax (imax (imax 0 (aK g.X1 s0.X)) (aK s0.X g.X2)) (aK g.Y1 s0.Y)) (aK s0.Y g.Y2))
def Cs (l:bB) (s4:Kg):Int→Option (Int ⊕ (Unit ⊕ Unit)):=fun a0 =>
 if (decide (a0<(l.aB.length:Int))) then ((idx l.aB a0).bind fun a2=>(uE a2.aD s4).bind fun a1=>if a1 then (some (.inr (.inl ()))) else (some (.inl (aJ a0 1)))) else (some (.inr (.inr (()))))
def Ct (es:(List aZ)) (st:bF) (piece:Int) (s4:Kg):Int→Option (Int ⊕ (Unit ⊕ Unit)):=fun a0 =>
 if (decide (a0<(es.length:Int))) then (((idx es a0).bind fun a4=>if (a4.A==piece) then ((idx st.Cut a0).bind fun a5=>if a5 then (some false) else ((idx es a0).bind fun a6=>(xU s4 a6.Line).bind fun a2=>some (decide (a2≤7200)))) else ((idx es a0).bind fun a7=>if (a7.B==piece) then ((idx st.Cut a0).bind fun a8=>if a8 then (some false) else ((idx es a0).bind fun a9=>(xU s4 a9.Line).bind fun a3=>some (decide (a3≤7200)))) else (some false))).bind fun a1=>if a1 then (some (.inr (.inl ()))) else (some (.inl (aJ a0 1)))) else (some (.inr (.inr (()))))
def Gg (l:bB) (es:(List aZ)) (st:bF) (piece:Int) (s4:Kg):Option (Bool):=
 (if (decide (s4.X<0)) then (some true) else (if (decide (s4.Y<0)) then (some true) else (if (decide (s4.X>l.bA.gY)) then (some true) else (if (decide (s4.Y>l.bA.dK)) then (some true) else ((uE l.bA.cG s4).bind fun r6=>some r6))))).bind fun j5=>if j5 then (some false) else ((aH (Cs l s4) 0).bind fun a3=>match a3 with | .inl a4=>some false | .inr a5=>(aH (Ct es st piece s4) 0).bind fun a0=>match a0 with | .inl a1=>some true | .inr a2=>some false)
def Ek (l:bB) (es:(List aZ)) (st:bF) (x3:oY):Option (Int):=
 ((Hg l st (es.length:Int)).bind fun a7=>if a7 then (if (decide (x3.aW<0)) then (some true) else (if (decide (x3.aW ≥ (l.aB.length:Int))) then (some true) else (if (decide (x3.pR<(-1))) then (some true) else ((idx l.aB x3.aW).bind fun b2=>if (decide (x3.pR ≥ (b2.fD.length:Int))) then (some true) else (if (decide (x3.bN<0)) then (some true) else (if (decide (x3.bN>4)) then (some true) else (if (decide (x3.pR ≥ 0)) then (some (x3.bN != 0)) else (some false)))))))) else (some true)).bind fun a2=>if a2 then (some 1) else ((idx l.aB x3.aW).bind fun a1=>if (decide (x3.pR ≥ 0)) then (((idx st.fE x3.aW).bind fun b3=>if b3 then (some true) else ((idx st.fX x3.aW).bind fun b4=>(idx b4 x3.pR).bind fun b5=>some b5)).bind fun a3=>if a3 then (some 12) else ((idx a1.fD x3.pR).bind fun a0=>(if (decide (x3.kV.X≤a0.X)) then (some true) else (if (decide (x3.kV.X ≥ (aJ a0.X a0.W))) then (some true) else (if (decide (x3.kV.Y≤a0.Y)) then (some true) else (some (decide (x3.kV.Y ≥ (aJ a0.Y a0.H))))))).bind fun a4=>if a4 then (some 14) else (some 0))) else (((idx st.fE x3.aW).bind fun b6=>if b6 then (some true) else ((idx st.tK x3.aW).bind fun b7=>if b7 then (some true) else ((idx st.fX x3.aW).bind fun b8=>(Ip b8).bind fun a8=>if a8 then ((wA es st x3.aW).bind fun a9=>some a9) else (some true)))).bind fun a5=>if a5 then (some 12) else ((if (x3.bN==0) then ((Gf a1).bind fun b0=>some b0) else (some false)).bind fun a6=>if a6 then (some 15) else ((Gg l es st x3.aW x3.kV).bind fun b1=>if (!b1) then (some 14) else (some 0)))))
def Eg (st:bF):Int×(List (List Bool))→Option (Int×(List (List Bool)) ⊕ (List (List Bool))):=fun a0 =>
 if (decide (a0.1<(st.fX.length:Int))) then ((idx st.fX a0.1).bind fun a3=>(app [] a3).bind fun a1=>(app a0.2 [a1]).bind fun a2=>some (.inl ((aJ a0.1 1),a2))) else (some (.inr a0.2))
def He (st:bF):Option (bF):=
 (app [] st.Cut).bind fun l9=>(app [] st.tK).bind fun a1=>(app [] st.bN).bind fun a2=>(app [] st.fE).bind fun a3=>(aH (Eg st) (0,[])).bind fun a0=>some (bF.mk l9 a0 a1 a2 a3)
def uV (a1:Int×(List Bool)):(List Bool)→Option (Int×(List Bool) ⊕ (List Bool)):=fun a0 =>
 some (.inl ((aJ a1.1 1),a0))
def Eh (es:(List aZ)) (a1:(List Bool)×(List (List Bool))×(List Bool)×(List Int)):Int×(List Bool)→Option (Int×(List Bool) ⊕ (List Bool)):=fun a0 =>
 if (decide (a0.1<(a0.2.length:Int))) then (((wA es (bF.mk a1.1 a1.2.1 a1.2.2.1 a1.2.2.2 a0.2) a0.1).bind fun a3=>if a3 then ((idx a1.2.2.1 a0.1).bind fun a4=>if a4 then ((idx a1.2.2.2 a0.1).bind fun a5=>some (!(decide (a5>0)))) else (some true)) else (some false)).bind fun a2=>if a2 then ((idx a0.2 a0.1).bind fun a6=>uV a0 (List.set a0.2 (Int.toNat a0.1) true)) else (uV a0 a0.2)) else (some (.inr a0.2))
def uW (es:(List aZ)) (r2:bF):((List Bool)×(List (List Bool))×(List Bool)×(List Int))→Option (bF):=fun a0 =>
 (aH (Eh es a0) (0,r2.fE)).bind fun a1=>some (bF.mk a0.1 a0.2.1 a0.2.2.1 a0.2.2.2 a1)
def uX (a1:Int×(List Bool)):(List Bool)→Option (Int×(List Bool) ⊕ (List Bool)):=fun a0 =>
 some (.inl ((aJ a1.1 1),a0))
def Ei (es:(List aZ)) (x2:oY):Int×(List Bool)→Option (Int×(List Bool) ⊕ (List Bool)):=fun a0 =>
 if (decide (a0.1<(es.length:Int))) then (((idx es a0.1).bind fun a2=>if (a2.A==x2.aW) then (some true) else ((idx es a0.1).bind fun a3=>some (a3.B==x2.aW))).bind fun a1=>if a1 then ((idx a0.2 a0.1).bind fun a4=>uX a0 (List.set a0.2 (Int.toNat a0.1) true)) else (uX a0 a0.2)) else (some (.inr a0.2))
def Hf (es:(List aZ)) (st:bF) (x2:oY):Option (bF):=
 (He st).bind fun r2=>if (decide (x2.pR ≥ 0)) then ((idx r2.fX x2.aW).bind fun a0=>(idx a0 x2.pR).bind fun a2=>uW es r2 (r2.Cut,(List.set r2.fX (Int.toNat x2.aW) (List.set a0 (Int.toNat x2.pR) true)),r2.tK,r2.bN)) else ((idx r2.tK x2.aW).bind fun a3=>(idx r2.bN x2.aW).bind fun a4=>(aH (Ei es x2) (0,r2.Cut)).bind fun a1=>uW es r2 (a1,r2.fX,(List.set r2.tK (Int.toNat x2.aW) true),(List.set r2.bN (Int.toNat x2.aW) x2.bN)))
def xY (a1:Int×(List Int)):(List Int)→Option (Int×(List Int) ⊕ (List Int)):=fun a0 =>
 some (.inl ((aJ a1.1 1),a0))
def Oi (st:bP) (h0_0:(List Bool)):Int×(List Int)→Option (Int×(List Int) ⊕ (List Int)):=fun a0 =>
 if (decide (a0.1<(st.fE.length:Int))) then ((idx st.fE a0.1).bind fun a3=>(if a3 then ((idx h0_0 a0.1).bind fun a4=>some (!a4)) else (some false)).bind fun a1=>if a1 then ((app a0.2 [a0.1]).bind fun a2=>xY a0 a2) else (xY a0 a0.2)) else (some (.inr a0.2))
def Kn (st:bP) (h0_0:(List Bool)) (h382:(List (List Int))):Option ((List (List Int))):=
 (aH (Oi st h0_0) (0,[])).bind fun a1=>(app h382 [a1]).bind fun a0=>some a0
def Di (l:bB) (items:(List oY)) (r2:(List aZ)×Int):(Int×(List (List Int))×(List Bool)×(List (List Bool))×(List Bool)×(List Int)×(List Bool)×(List Bool))→Option ((Int×(List (List Int))×(List Bool)×(List (List Bool))×(List Bool)×(List Int)×(List Bool)×(List Bool)) ⊕ ((Int×Int×(List (List Int))×(List Bool)) ⊕ ((List Bool)×(List (List Bool))×(List Bool)×(List Int)×(List Bool)×(List (List Int))×(List Bool)))):=fun a0 =>
 if (decide (a0.1<(items.length:Int))) then ((idx items a0.1).bind fun a3=>(Zm l r2.1 (bP.mk a0.2.2.1 a0.2.2.2.1 a0.2.2.2.2.1 a0.2.2.2.2.2.1 a0.2.2.2.2.2.2.1) a3).bind fun a1=>if (a1.2 != 0) then (some (.inr (.inl (a0.1,a1.2,a0.2.1,a0.2.2.2.2.2.2.2)))) else ((Kn a1.1 a0.2.2.2.2.2.2.2 a0.2.1).bind fun a2=>some (.inl ((aJ a0.1 1),a2,a1.1.Cut,a1.1.fX,a1.1.tK,a1.1.bN,a1.1.fE,a1.1.fE)))) else (some (.inr (.inr ((a0.2.2.1,a0.2.2.2.1,a0.2.2.2.2.1,a0.2.2.2.2.2.1,a0.2.2.2.2.2.2.1,a0.2.1,a0.2.2.2.2.2.2.2)))))
def xM (l:bB) (items:(List oY)) (h381:(List Bool)) (h383:(List (List Int))):Option (bP×Int×Int×(List Bool)×(List (List Bool))×(List Bool)×(List Int)×(List Bool)×(List (List Int))×(List Bool)):=
 (zI l).bind fun r2=>if (r2.2 != 0) then (some ((bP.mk [] [] [] [] []),0,r2.2,[],[],[],[],[],h383,h381)) else (if (decide ((items.length:Int)>128)) then (some ((bP.mk [] [] [] [] []),0,4,[],[],[],[],[],h383,h381)) else ((Ts l (r2.1.length:Int)).bind fun r4=>(aH (Di l items r2) (0,h383,r4.Cut,r4.fX,r4.tK,r4.bN,r4.fE,h381)).bind fun a2=>match a2 with | .inl a1=>some ((bP.mk [] [] [] [] []),a1.1,a1.2.1,[],[],[],[],[],a1.2.2.1,a1.2.2.2) | .inr a0=>some ((bP.mk a0.1 a0.2.1 a0.2.2.1 a0.2.2.2.1 a0.2.2.2.2.1),0,0,a0.1,a0.2.1,a0.2.2.1,a0.2.2.2.1,a0.2.2.2.2.1,a0.2.2.2.2.2.1,a0.2.2.2.2.2.2)))
def Tq (l:bB) (items:(List oY)):Option ((List (List Int))×Int):=
 (mk (l.aB.length:Int) false).bind fun l2=>(xM l items l2 []).bind fun r4=>if (r4.2.2.1 != 0) then (some ([],r4.2.2.1)) else (some (r4.2.2.2.2.2.2.2.2.1,0))
def xB (lists:(List (List aM))):Int→Option (Int ⊕ (Unit ⊕ Unit)):=fun a0 =>
 if (decide (a0<(lists.length:Int))) then ((idx lists a0).bind fun a1=>if (decide ((a1.length:Int)>48)) then (some (.inr (.inl ()))) else (some (.inl (aJ a0 1)))) else (some (.inr (.inr (()))))
def xC (a1:(List aM)):Int→Option (Int ⊕ (Unit ⊕ Unit)):=fun a0 =>
 if (decide (a0<(a1.length:Int))) then ((idx a1 a0).bind fun a3=>(dM a3).bind fun a2=>if (!a2) then (some (.inr (.inl ()))) else (some (.inl (aJ a0 1)))) else (some (.inr (.inr (()))))
def xD (lists:(List (List aM))):Int→Option (Int ⊕ (Unit ⊕ Unit)):=fun a0 =>
 if (decide (a0<(lists.length:Int))) then ((idx lists a0).bind fun a1=>(aH (xC a1) 0).bind fun a2=>match a2 with | .inl a3=>some (.inr (.inl ())) | .inr a4=>some (.inl (aJ a0 1))) else (some (.inr (.inr (()))))
def Fe (lists:(List (List aM))):Option (Int):=
 (aH (xB lists) 0).bind fun a3=>match a3 with | .inl a4=>some 4 | .inr a5=>(aH (xD lists) 0).bind fun a0=>match a0 with | .inl a1=>some 1 | .inr a2=>some 0
def dP (l:(List Int)):Option ((List Int)):=
 (kS l).bind fun r2=>(bU r2).bind fun r4=>(lJ r4).bind fun r6=>some r6
def qY (a2:(List aM)):(Int×(List Int)×(List Int))→Option ((Int×(List Int)×(List Int)) ⊕ ((List Int)×(List Int))):=fun a0 =>
 if (decide (a0.1<(a2.length:Int))) then ((idx a2 a0.1).bind fun a1=>(app a0.2.1 [a1.X,(aJ a1.X a1.W)]).bind fun a3=>(app a0.2.2 [a1.Y,(aJ a1.Y a1.H)]).bind fun a4=>some (.inl ((aJ a0.1 1),a3,a4))) else (some (.inr (a0.2.1,a0.2.2)))
def uJ (lists:(List (List aM))):(Int×(List Int)×(List Int))→Option ((Int×(List Int)×(List Int)) ⊕ ((List Int)×(List Int))):=fun a0 =>
 if (decide (a0.1<(lists.length:Int))) then ((idx lists a0.1).bind fun a2=>(aH (qY a2) (0,a0.2.1,a0.2.2)).bind fun a1=>some (.inl ((aJ a0.1 1),a1.1,a1.2))) else (some (.inr (a0.2.1,a0.2.2)))
def yM (lists:(List (List aM))):Option (uS):=
 (aH (uJ lists) (0,[],[])).bind fun a0=>(dP a0.1).bind fun a1=>(dP a0.2).bind fun a2=>some (uS.mk a1 a2)
def kW (a1:Int×(List (List Bool))):(List (List Bool))→Option (Int×(List (List Bool)) ⊕ (List (List Bool))):=fun a0 =>
 some (.inl ((aJ a1.1 1),a0))
def kX (g:uS) (l:(List aM)) (a2:Int×(List (List Bool))) (a3:Int×(List (List Bool))):Int×(List (List Bool))→Option (Int×(List (List Bool)) ⊕ (List (List Bool))):=fun a0 =>
 if (decide (a0.1<(l.length:Int))) then ((idx l a0.1).bind fun a1=>((idx g.x a2.1).bind fun a6=>if (decide (a1.X≤a6)) then ((idx g.x a2.1).bind fun a7=>if (decide (a7<(aJ a1.X a1.W))) then ((idx g.y a3.1).bind fun a8=>if (decide (a1.Y≤a8)) then ((idx g.y a3.1).bind fun a9=>some (decide (a9<(aJ a1.Y a1.H)))) else (some false)) else (some false)) else (some false)).bind fun a5=>if a5 then ((idx a0.2 a2.1).bind fun a4=>(idx a4 a3.1).bind fun b0=>kW a0 (List.set a0.2 (Int.toNat a2.1) (List.set a4 (Int.toNat a3.1) true))) else (kW a0 a0.2)) else (some (.inr a0.2))
def kY (g:uS) (l:(List aM)) (a1:Int×(List (List Bool))) (a2:(List Bool)):Int×(List (List Bool))→Option (Int×(List (List Bool)) ⊕ (List (List Bool))):=fun a0 =>
 if (decide (a0.1<(a2.length:Int))) then ((aH (kX g l a1 a0) (0,a0.2)).bind fun a3=>some (.inl ((aJ a0.1 1),a3))) else (some (.inr a0.2))
def nK (g:uS) (l:(List aM)) (l2:(List (List Bool))):Int×(List (List Bool))→Option (Int×(List (List Bool)) ⊕ (List (List Bool))):=fun a0 =>
 if (decide (a0.1<(l2.length:Int))) then ((mk (aK (g.y.length:Int) 1) false).bind fun a1=>(idx a0.2 a0.1).bind fun a4=>(idx (List.set a0.2 (Int.toNat a0.1) a1) a0.1).bind fun a2=>(aH (kY g l a0 a2) (0,(List.set a0.2 (Int.toNat a0.1) a1))).bind fun a3=>some (.inl ((aJ a0.1 1),a3))) else (some (.inr a0.2))
def rN (g:uS) (l:(List aM)):Option ((List (List Bool))):=
 (mk (imax 0 (aK (g.x.length:Int) 1)) []).bind fun l2=>(aH (nK g l l2) (0,l2)).bind fun a0=>some a0
def eL (i:Int) (j1:Int) (a_0:(List (List Bool))):Option (Int):=
 (if (decide (i<0)) then (some true) else (if (decide (j1<0)) then (some true) else (if (decide (i ≥ (a_0.length:Int))) then (some true) else ((idx a_0 i).bind fun a1=>if (decide (j1 ≥ (a1.length:Int))) then (some true) else ((idx a_0 i).bind fun a2=>(idx a2 j1).bind fun a3=>some (!a3)))))).bind fun a0=>if a0 then (some 0) else (some 1)
def mJ (i:Int) (a_0_0_0:(List (List Bool))) (a2_0:Int):Option (Int):=
 (eL i a2_0 a_0_0_0).bind fun r5=>(eL i (aK a2_0 1) a_0_0_0).bind fun r6=>some (aK r5 r6)
def sL (from0:Int) (to1:Int) (a_0:Int) (h381:(List aF)):Option ((List aF)):=
 (app h381 [(aF.mk from0 a_0 to1 a_0)]).bind fun l2=>some l2
def eM (a2:Int×Int×(List aF)) (a0:Int):(List aF)→Option (Int×Int×(List aF) ⊕ (List aF)):=fun a1 =>
 some (.inl (a0,(aJ a2.2.1 1),a1))
def pE (side_0_0_0_0:(List (List Bool))) (side_1_0:Int) (a3:Int×Int×(List aF)):Int→Option (Int ⊕ Int):=fun a0 =>
 (if (decide (a0>0)) then ((mJ (aK a0 1) side_0_0_0_0 side_1_0).bind fun a2=>some (a2==a3.1)) else (some false)).bind fun a1=>if a1 then (some (.inl (aK a0 1))) else (some (.inr a0))
def eN (ends:(List Int)) (side_0_0_0_0:(List (List Bool))) (side_1_0:Int) (found_1_0:Int) (a0:Int×Int×(List aF)):Int→Option (Int×Int×(List aF) ⊕ (List aF)):=fun a1 =>
 (if (a1 != a0.1) then (some (a0.1 != 0)) else (some false)).bind fun a2=>if a2 then ((aH (pE side_0_0_0_0 side_1_0 a0) (aK a0.2.1 1)).bind fun a4=>(idx ends a4).bind fun a5=>(idx ends a0.2.1).bind fun a6=>(sL a5 a6 found_1_0 a0.2.2).bind fun a3=>eM a0 a1 a3) else (eM a0 a1 a0.2.2)
def pF (ends:(List Int)) (side_0_0_0_0:(List (List Bool))) (side_1_0:Int) (found_1_0:Int):Int×Int×(List aF)→Option (Int×Int×(List aF) ⊕ (List aF)):=fun a0 =>
 if (decide (a0.2.1<(ends.length:Int))) then (if (decide (a0.2.1<(aK (ends.length:Int) 1))) then ((mJ a0.2.1 side_0_0_0_0 side_1_0).bind fun a1=>eN ends side_0_0_0_0 side_1_0 found_1_0 a0 a1) else (eN ends side_0_0_0_0 side_1_0 found_1_0 a0 0)) else (some (.inr a0.2.2))
def fF (ends:(List Int)) (side_0_0_0_0:(List (List Bool))) (side_1_0:Int) (found_1_0:Int) (h381:(List aF)):Option ((List aF)):=
 (aH (pF ends side_0_0_0_0 side_1_0 found_1_0) (0,0,h381)).bind fun a0=>some a0
def mK (j0:Int) (a_0_0_0:(List (List Bool))) (a2_0:Int):Option (Int):=
 (eL a2_0 j0 a_0_0_0).bind fun r5=>(eL (aK a2_0 1) j0 a_0_0_0).bind fun r6=>some (aK r5 r6)
def sM (from0:Int) (to1:Int) (a_0:Int) (h381:(List aF)):Option ((List aF)):=
 (app h381 [(aF.mk a_0 from0 a_0 to1)]).bind fun l2=>some l2
def eO (a2:Int×Int×(List aF)) (a0:Int):(List aF)→Option (Int×Int×(List aF) ⊕ (List aF)):=fun a1 =>
 some (.inl (a0,(aJ a2.2.1 1),a1))
def pH (side_0_0_0_0:(List (List Bool))) (side_1_0:Int) (a3:Int×Int×(List aF)):Int→Option (Int ⊕ Int):=fun a0 =>
 (if (decide (a0>0)) then ((mK (aK a0 1) side_0_0_0_0 side_1_0).bind fun a2=>some (a2==a3.1)) else (some false)).bind fun a1=>if a1 then (some (.inl (aK a0 1))) else (some (.inr a0))
def eP (ends:(List Int)) (side_0_0_0_0:(List (List Bool))) (side_1_0:Int) (found_1_0:Int) (a0:Int×Int×(List aF)):Int→Option (Int×Int×(List aF) ⊕ (List aF)):=fun a1 =>
 (if (a1 != a0.1) then (some (a0.1 != 0)) else (some false)).bind fun a2=>if a2 then ((aH (pH side_0_0_0_0 side_1_0 a0) (aK a0.2.1 1)).bind fun a4=>(idx ends a4).bind fun a5=>(idx ends a0.2.1).bind fun a6=>(sM a5 a6 found_1_0 a0.2.2).bind fun a3=>eO a0 a1 a3) else (eO a0 a1 a0.2.2)
def pI (ends:(List Int)) (side_0_0_0_0:(List (List Bool))) (side_1_0:Int) (found_1_0:Int):Int×Int×(List aF)→Option (Int×Int×(List aF) ⊕ (List aF)):=fun a0 =>
 if (decide (a0.2.1<(ends.length:Int))) then (if (decide (a0.2.1<(aK (ends.length:Int) 1))) then ((mK a0.2.1 side_0_0_0_0 side_1_0).bind fun a1=>eP ends side_0_0_0_0 side_1_0 found_1_0 a0 a1) else (eP ends side_0_0_0_0 side_1_0 found_1_0 a0 0)) else (some (.inr a0.2.2))
def fG (ends:(List Int)) (side_0_0_0_0:(List (List Bool))) (side_1_0:Int) (found_1_0:Int) (h381:(List aF)):Option ((List aF)):=
 (aH (pI ends side_0_0_0_0 side_1_0 found_1_0) (0,0,h381)).bind fun a0=>some a0
def qT (r6:uS) (r8:(List (List Bool))):Int×(List aF)→Option (Int×(List aF) ⊕ (List aF)):=fun a0 =>
 if (decide (a0.1<(r6.y.length:Int))) then ((idx r6.y a0.1).bind fun a2=>(fF r6.x r8 a0.1 a2 a0.2).bind fun a1=>some (.inl ((aJ a0.1 1),a1))) else (some (.inr a0.2))
def qU (r6:uS) (r8:(List (List Bool))):Int×(List aF)→Option (Int×(List aF) ⊕ (List aF)):=fun a0 =>
 if (decide (a0.1<(r6.x.length:Int))) then ((idx r6.x a0.1).bind fun a2=>(fG r6.y r8 a0.1 a2 a0.2).bind fun a1=>some (.inl ((aJ a0.1 1),a1))) else (some (.inr a0.2))
def tF (l:(List aM)):Option ((List aF)×Int):=
 (Fe [l]).bind fun r4=>if (r4 != 0) then (some ([],r4)) else ((yM [l]).bind fun r6=>(rN r6 l).bind fun r8=>(aH (qT r6 r8) (0,[])).bind fun a1=>(aH (qU r6 r8) (0,a1)).bind fun a0=>some (a0,0))
def lF (l:(List aF)):(Int×Int)→Option ((Int×Int) ⊕ Int):=fun a0 =>
 if (decide (a0.2<(l.length:Int))) then ((idx l a0.2).bind fun a1=>(idx l a0.2).bind fun a2=>(idx l a0.2).bind fun a3=>(idx l a0.2).bind fun a4=>some (.inl ((aJ a0.1 (aK (aJ (aK a1.X2 a2.X1) a3.Y2) a4.Y1)),(aJ a0.2 1)))) else (some (.inr a0.1))
def kZ (l:(List aF)):Option (Int):=
 (aH (lF l) (0,0)).bind fun a0=>some a0
def vN (a1:Int×(List aF)):(List aF)→Option (Int×(List aF) ⊕ (List aF)):=fun a0 =>
 some (.inl ((aJ a1.1 1),a0))
def sR (r4:(List aF)×Int) (a0:aF):Int×(List aF)→Option (Int×(List aF) ⊕ (List aF)):=fun a2 =>
 if (decide (a2.1<(r4.1.length:Int))) then ((idx r4.1 a2.1).bind fun a1=>(if (a0.Y1==a0.Y2) then (if (a1.Y1==a1.Y2) then (if (a0.Y1==a1.Y1) then (if (decide ((imax a0.X1 a1.X1)<(iL a0.X2 a1.X2))) then (some true) else (if (a0.X1==a0.X2) then (if (a1.X1==a1.X2) then (if (a0.X1==a1.X1) then (some (decide ((imax a0.Y1 a1.Y1)<(iL a0.Y2 a1.Y2)))) else (some false)) else (some false)) else (some false))) else (if (a0.X1==a0.X2) then (if (a1.X1==a1.X2) then (if (a0.X1==a1.X1) then (some (decide ((imax a0.Y1 a1.Y1)<(iL a0.Y2 a1.Y2)))) else (some false)) else (some false)) else (some false))) else (if (a0.X1==a0.X2) then (if (a1.X1==a1.X2) then (if (a0.X1==a1.X1) then (some (decide ((imax a0.Y1 a1.Y1)<(iL a0.Y2 a1.Y2)))) else (some false)) else (some false)) else (some false))) else (if (a0.X1==a0.X2) then (if (a1.X1==a1.X2) then (if (a0.X1==a1.X1) then (some (decide ((imax a0.Y1 a1.Y1)<(iL a0.Y2 a1.Y2)))) else (some false)) else (some false)) else (some false))).bind fun a3=>if a3 then ((app a2.2 [(aF.mk (imax a0.X1 a1.X1) (imax a0.Y1 a1.Y1) (iL a0.X2 a1.X2) (iL a0.Y2 a1.Y2))]).bind fun a4=>vN a2 a4) else (vN a2 a2.2)) else (some (.inr a2.2))
def sS (r2:(List aF)×Int) (r4:(List aF)×Int):Int×(List aF)→Option (Int×(List aF) ⊕ (List aF)):=fun a0 =>
 if (decide (a0.1<(r2.1.length:Int))) then ((idx r2.1 a0.1).bind fun a1=>(aH (sR r4 a1) (0,a0.2)).bind fun a2=>some (.inl ((aJ a0.1 1),a2))) else (some (.inr a0.2))
def Cc (a:(List aM)) (b:(List aM)):Option ((List aF)×Int):=
 (tF a).bind fun r2=>(tF b).bind fun r4=>(if (r2.2==4) then (some true) else (some (r4.2==4))).bind fun j9=>if j9 then (some ([],4)) else ((if (r2.2 != 0) then (some true) else (some (r4.2 != 0))).bind fun a1=>if a1 then (some ([],1)) else ((xI a b).bind fun a2=>if a2 then (some ([],7)) else ((aH (sS r2 r4) (0,[])).bind fun a0=>some (a0,0))))
def eE (a:(List aF)) (b:(List aF)):Int→Option (Int ⊕ (Unit ⊕ Unit)):=fun a0 =>
 if (decide (a0<(a.length:Int))) then ((idx a a0).bind fun a1=>(idx b a0).bind fun a2=>if (!((a1.X1==a2.X1)&&((a1.Y1==a2.Y1)&&((a1.X2==a2.X2)&&((a1.Y2==a2.Y2)&&true))))) then (some (.inr (.inl ()))) else (some (.inl (aJ a0 1)))) else (some (.inr (.inr (()))))
def iO (a:(List aF)) (b:(List aF)):Option (Bool):=
 if ((a.length:Int) != (b.length:Int)) then (some false) else ((aH (eE a b) 0).bind fun a0=>match a0 with | .inl a1=>some false | .inr a2=>some true)
def iG:Option (Bool):=
 (zI (bB.mk (bA.mk (ByteArray.mk #[115]) (ByteArray.mk #[115,116,101,101,108]) 10 0 57600 57600 [] []) [(aW.mk (ByteArray.mk #[97]) (ByteArray.mk #[115,116,101,101,108]) 10 0 [(aM.mk 0 0 14400 14400)] [] []),(aW.mk (ByteArray.mk #[98]) (ByteArray.mk #[115,116,101,101,108]) 10 0 [(aM.mk 14400 0 14400 14400)] [] [])])).bind fun r2=>(Tq (bB.mk (bA.mk (ByteArray.mk #[115]) (ByteArray.mk #[115,116,101,101,108]) 10 0 57600 57600 [] []) [(aW.mk (ByteArray.mk #[97]) (ByteArray.mk #[115,116,101,101,108]) 10 0 [(aM.mk 0 0 14400 14400)] [] []),(aW.mk (ByteArray.mk #[98]) (ByteArray.mk #[115,116,101,101,108]) 10 0 [(aM.mk 14400 0 14400 14400)] [] [])]) [(oY.mk 0 (-1) 0 (Kg.mk 0 0)),(oY.mk 1 (-1) 0 (Kg.mk 28800 0))]).bind fun r4=>if (r2.2==0) then (if ((r2.1.length:Int)==7) then (if (r4.2==0) then (if ((r4.1.length:Int)==2) then ((idx r4.1 0).bind fun x9=>(oH x9 [0]).bind fun a0=>if a0 then ((idx r4.1 1).bind fun a2=>(oH a2 [1]).bind fun a1=>some a1) else (none)) else (none)) else (none)) else (none)) else (none)
def gZ (a1:Int×(List aF)×(List aF)):((List aF)×(List aF))→Option ((Int×(List aF)×(List aF)) ⊕ ((List aF)×(List aF))):=fun a0 =>
 some (.inl ((aJ a1.1 1),a0.1,a0.2))
def hO (a:Int) (b:Int) (r2:(List aZ)×Int) (a0:Int×(List aF)×(List aF)):(List aF)→Option ((Int×(List aF)×(List aF)) ⊕ ((List aF)×(List aF))):=fun a1 =>
 (if (decide (b>a)) then ((idx r2.1 a0.1).bind fun a4=>if (a4.A==a) then ((idx r2.1 a0.1).bind fun a5=>some (a5.B==b)) else (some false)) else (some false)).bind fun a2=>if a2 then ((idx r2.1 a0.1).bind fun a6=>(app a0.2.2 [a6.Line]).bind fun a3=>gZ a0 (a1,a3)) else (gZ a0 (a1,a0.2.2))
def fA (a:Int) (b:Int) (r2:(List aZ)×Int):(Int×(List aF)×(List aF))→Option ((Int×(List aF)×(List aF)) ⊕ ((List aF)×(List aF))):=fun a0 =>
 if (decide (a0.1<(r2.1.length:Int))) then (((idx r2.1 a0.1).bind fun a3=>if (a3.A==a) then (some true) else ((idx r2.1 a0.1).bind fun a4=>some (a4.B==a))).bind fun a1=>if a1 then ((idx r2.1 a0.1).bind fun a5=>(app a0.2.1 [a5.Line]).bind fun a2=>hO a b r2 a0 a2) else (hO a b r2 a0 a0.2.1)) else (some (.inr (a0.2.1,a0.2.2)))
def mQ (l:bB) (a:Int) (b:Int):Option (Bool):=
 (zI l).bind fun r2=>(if (r2.2 != 0) then (some true) else (if (decide (a<0)) then (some true) else (some (decide (a ≥ (l.aB.length:Int)))))).bind fun j6=>if j6 then ((iG).bind fun r8=>some r8) else ((aH (fA a b r2) (0,[],[])).bind fun a2=>(idx l.aB a).bind fun b1=>(tF b1.aD).bind fun a0=>(if (a0.2 != 0) then (some true) else ((kZ a0.1).bind fun a6=>(kZ a2.1).bind fun a7=>some (a6 != a7))).bind fun a3=>if a3 then (some false) else ((if (decide (b≤a)) then (some true) else (some (decide (b ≥ (l.aB.length:Int))))).bind fun a4=>if a4 then ((iG).bind fun a8=>some a8) else ((idx l.aB a).bind fun b2=>(idx l.aB b).bind fun b3=>(Cc b2.aD b3.aD).bind fun a1=>(if (a1.2==0) then ((iO a1.1 a2.2).bind fun a9=>if a9 then ((iG).bind fun b0=>some b0) else (some false)) else (some false)).bind fun a5=>some a5)))
set_option maxRecDepth 10000
theorem Md {l:List Int} (hl:l.length≤1073741824):∃ r,dP l=some r∧r.Pairwise (fun x y=>x<y)∧∀ x,x ∈ r↔x ∈ l:=by
 obtain ⟨r,h1,h2,h3⟩:=Sg hl
 have hr:r.length=l.length:=h2.length_eq
 obtain ⟨q,q1,q2,q3⟩:=Qi LF (fun x y a b=>by unfold ltI at a b;simp at a b;omega) (eqb:=fun x y=>x==y) (fun x y=>by simp) (0:Int) (l:=r) (by omega) h3
 refine ⟨q, ?_,q2.imp (fun h=>by unfold ltI at h;simpa using h),fun x=>by rw [q3,h2.mem_iff]⟩
 unfold dP kS
 rw [jE (by simp [LIM];omega)]
 simp only [List.nil_append,Option.bind_some,h1,Is,q1]
end Go.SM
namespace Go.SM
open Go Go.VI Go.Cells
def nm:Option Int→Int
 | some i=>i
 | none=>-1
theorem Vu {a b:Option Int} (ha:SmO a) (hb:SmO b):nm a=nm b↔a=b:=by
 constructor
 ·intro h
  cases a with
  | none=>cases b with
    | none=>rfl
    | some j=>have:=hb j rfl;simp only [nm] at h;omega
  | some i=>cases b with
    | none=>have:=ha i rfl;simp only [nm] at h;omega
    | some j=>simp only [nm] at h;rw [h]
 ·intro h;rw [h]
theorem Vv (R:List (List aM)) (x y:Int):nm (bW R x y)=AB R x y:=by rw [PQ];rfl
theorem La {β:Type} {R:List β} {z v:β} {j:Nat} (h:R[j]?=some v):(R.take j++List.replicate (R.length-j) z)[j]?=some z:=by
 have:=aV h
 rw [List.getElem?_append_right (by rw [List.length_take];omega),List.length_take,List.getElem?_replicate,if_pos (by omega)]
theorem Gr {β:Type} {R:List β} {z v:β} {j:Nat} (h:R[j]?=some v):(R.take j++List.replicate (R.length-j) z).set j v=R.take (j+1)++List.replicate (R.length-(j+1)) z:=by
 have:=aV h
 rw [List.set_append_right _ _ (by rw [List.length_take];omega),List.length_take,show j-min j R.length=0 from by omega,eD h,show R.length-j=R.length-(j+1)+1 from by omega,List.replicate_succ,List.set_cons_zero,List.append_assoc]
 rfl
theorem Mc {β:Type} {l:List β} {i:Nat} {v:β} (h:l[i]?=some v):l.set i v=l:=by
 refine List.ext_getElem? fun n=>?_
 rw [List.getElem?_set]
 split
 ·rename_i e;subst e
  rw [if_pos (aV h),h]
 ·rfl
section
variable {R:List (List aM)} (hv:Ep R.flatten) (hm:R.length≤900) (hn:∀ l ∈ R,l.length≤1000)
include hv hm hn
theorem DG {l:List aM} (hl:l ∈ R) (x y:Int):pZ l x y=some (cov l x y):=by
 unfold pZ cov
 have:=hn l hl
 rw [Yb l (jV l x y) (fun r=>inC r x y) (.inr ()) (.inl ()) (fun k r hr=>?s) ?f]
 ·cases l.any (fun r=>inC r x y) <;> rfl
 case s =>
  have h1:=aV hr
  obtain ⟨e1,e2⟩:=Nk (hv r (List.mem_flatten.2 ⟨l,hl,List.mem_of_getElem? hr⟩))
  unfold jV
  simp only [h1,Int.ofNat_lt,decide_true,if_true,aQ hr,Option.bind_some,e1,e2]
  have hb':(if decide (r.X≤x) then (if decide (x<r.X+r.W) then (if decide (r.Y≤y) then some (decide (y<r.Y+r.H)) else some false) else some false) else some false)=some (inC r x y):=by
   unfold inC
   cases decide (r.X≤x) <;> cases decide (x<r.X+r.W) <;> cases decide (r.Y≤y) <;> simp
  rw [hb',Option.bind_some,bH k (by omega)]
 case f=>simp [jV]
theorem IY (x y:Int):rJ R x y=some (AB R x y):=by
 unfold rJ
 rw [Ud R (kP R x y) (fun l=>cov l x y) (fun k=>.inl (k:Int)) (.inr ()) (fun k l hl=>?s) ?f]
 ·unfold AB pW
  cases R.findIdx? (fun l=>cov l x y) <;> rfl
 case s =>
  have h1:=aV hl
  unfold kP
  simp only [h1,Int.ofNat_lt,decide_true,if_true,aQ hl,Option.bind_some,DG hv hm hn (List.mem_of_getElem? hl),bH k (by omega)]
 case f=>simp [kP]
def zY (R:List (List aM)) (xs ys:List Int) (i j:Nat):Int:=if 0<i∧0<j∧i<xs.length∧j<ys.length then AB R (xs.getD (i-1) 0) (ys.getD (j-1) 0) else -1
def Np (R:List (List aM)) (xs ys:List Int) (i:Nat):List Int:=(List.range (ys.length+1)).map fun j=>zY R xs ys i j
def Db (R:List (List aM)) (xs ys:List Int):List (List Int):=(List.range (xs.length+1)).map fun i=>Np R xs ys i
omit hv hm hn in
theorem Dc (xs ys:List Int) (i j:Nat) (hj:j≤ys.length):(Np R xs ys i)[j]?=some (zY R xs ys i j):=by
 unfold Np;rw [List.getElem?_map,List.getElem?_range (by omega)];rfl
omit hv hm hn in
theorem Ho (xs ys:List Int) (i:Nat) (hi:i≤xs.length):(Db R xs ys)[i]?=some (Np R xs ys i):=by
 unfold Db;rw [List.getElem?_map,List.getElem?_range (by omega)];rfl
theorem EW {xs ys:List Int} (hx:xs.length≤1000) (hy:ys.length≤1000):qD R xs ys=some (Db R xs ys):=by
 have inner:∀ (i:Nat) (M0:List (List Int)) (base:List (List Int)),i≤xs.length→base[i]?=some (List.replicate (ys.length+1) 0) →
   aH (gT R xs ys ((i:Int),M0)) (0,base)=some (base.set i (Np R xs ys i)):=fun i M0 base hi hb=>by
  obtain ⟨C,hC⟩:∃ C,Np R xs ys i=C:=⟨_,rfl⟩
  have hCl:C.length=ys.length+1:=by rw [← hC];simp [Np]
  have hil:=aV hb
  obtain ⟨r,q1,q2⟩:=gG (List.range (ys.length+1)) (fun k (s:List (List Int))=>((k:Int),s)) (gT R xs ys ((i:Int),M0)) (fun s=>s) (fun k s=>s=base.set i (C.take k++List.replicate (C.length-k) 0)) base (by
    rw [List.take_zero,List.nil_append,Nat.sub_zero,hCl,Mc hb])
   (fun k y s hy' hI=>by
    have hk:=aV hy'
    rw [List.length_range] at hk
    have hd:decide ((k:Int)≤(ys.length:Int))=true:=by simp;omega
    have hCk:C[k]?=some (zY R xs ys i k):=by rw [← hC];exact Dc xs ys i k (by omega)
    have gb:s[i]?=some (C.take k++List.replicate (C.length-k) 0):=by rw [hI,List.getElem?_set,if_pos rfl,if_pos hil]
    have gz:(C.take k++List.replicate (C.length-k) 0)[k]?=some (0:Int):=La hCk
    have hlk:=aV gz
    have hsl:s.length=base.length:=by rw [hI,List.length_set]
    unfold gT
    simp only [hd,if_true,aQ gb,aQ gz,Option.bind_some,Int.toNat_natCast]
    by_cases hc:0<i∧0<k∧i<xs.length∧k<ys.length
    ·obtain ⟨c1,c2,c3,c4⟩:=hc
     have e1:aK (i:Int) 1=((i-1:Nat):Int):=by rw [bC (by omega) (by omega)];omega
     have e2:aK (k:Int) 1=((k-1:Nat):Int):=by rw [bC (by omega) (by omega)];omega
     have g1:xs[i-1]?=some (xs.getD (i-1) 0):=by rw [List.getD_eq_getElem?_getD,List.getElem?_eq_getElem (by omega)];rfl
     have g2:ys[k-1]?=some (ys.getD (k-1) 0):=by rw [List.getD_eq_getElem?_getD,List.getElem?_eq_getElem (by omega)];rfl
     have g3:(s.set i ((C.take k++List.replicate (C.length-k) 0).set k (-1)))[i]?=some ((C.take k++List.replicate (C.length-k) 0).set k (-1)):=by rw [List.getElem?_set,if_pos rfl,if_pos (by omega)]
     have g4:((C.take k++List.replicate (C.length-k) 0).set k (-1))[k]?=some (-1:Int):=by rw [List.getElem?_set,if_pos rfl,if_pos hlk]
     have d1:decide ((i:Int)>0)=true:=by simp;omega
     have d2:decide ((k:Int)>0)=true:=by simp;omega
     have d3:decide ((i:Int)<(xs.length:Int))=true:=by simp;omega
     have d4:decide ((k:Int)<(ys.length:Int))=true:=by simp;omega
     simp only [d1,d2,d3,d4,if_true,Option.bind_some,aQ g3,e1,e2,aQ g1,aQ g2,IY hv hm hn,aQ g4,jW,bH k (by omega)]
     refine ⟨_,rfl, ?_⟩
     rw [List.set_set,List.set_set,hI,List.set_set]
     have:zY R xs ys i k=AB R (xs.getD (i-1) 0) (ys.getD (k-1) 0):=by unfold zY;rw [if_pos ⟨c1,c2,c3,c4⟩]
     rw [← this,Gr hCk]
    ·have hcv:zY R xs ys i k=-1:=by unfold zY;rw [if_neg hc]
     have hb':(if decide ((i:Int)>0) then (if decide ((k:Int)>0) then (if decide ((i:Int)<(xs.length:Int)) then some (decide ((k:Int)<(ys.length:Int))) else some false) else some false) else some false)=some false:=by
      by_cases c1:0<i
      ·by_cases c2:0<k
       ·by_cases c3:i<xs.length
        ·have c4:¬ k<ys.length:=fun q=>hc ⟨c1,c2,c3,q⟩
         simp [c1,c2,c3,c4]
        ·simp [c1,c2,c3]
       ·simp [c1,c2]
      ·simp [c1]
     rw [hb']
     simp only [Option.bind_some,Bool.false_eq_true,if_false,jW,bH k (by omega)]
     refine ⟨_,rfl, ?_⟩
     rw [hI,List.set_set,← hcv,Gr hCk]) (fun s _=>by
    have:¬ ((List.range (ys.length+1)).length:Int)≤(ys.length:Int):=by rw [List.length_range];omega
    unfold gT
    simp only [this,decide_false,Bool.false_eq_true,if_false])
  rw [List.length_range,← hCl,List.take_length,Nat.sub_self,List.replicate_zero,List.append_nil] at q2
  rw [show ((0:Int),base)=(((0:Nat):Int),base) from rfl,q1,q2,hC]
 obtain ⟨C,hC⟩:∃ C,Db R xs ys=C:=⟨_,rfl⟩
 have hCl:C.length=xs.length+1:=by rw [← hC];simp [Db]
 have mk1:∀ {β:Type} (n:Nat) (z:β),n≤1000→mk (aJ (n:Int) 1) z=some (List.replicate (n+1) z):=fun {β} n z hn'=>by
  rw [bH n (by omega)]
  unfold mk
  rw [if_pos ⟨by omega,by simp [LIM];omega⟩,Int.toNat_natCast]
 obtain ⟨r,q1,q2⟩:=gG (List.range (xs.length+1)) (fun k (s:List (List Int))=>((k:Int),s)) (jX R xs ys) (fun s=>s) (fun k s=>s=C.take k++List.replicate (C.length-k) []) (List.replicate (xs.length+1) []) (by
   rw [List.take_zero,List.nil_append,Nat.sub_zero,hCl])
  (fun k x s hx' hI=>by
   have hk:=aV hx'
   rw [List.length_range] at hk
   have hd:decide ((k:Int)≤(xs.length:Int))=true:=by simp;omega
   have hCk:C[k]?=some (Np R xs ys k):=by rw [← hC];exact Ho xs ys k (by omega)
   have g0:s[k]?=some []:=by rw [hI];exact La hCk
   have hks:=aV g0
   have g1:(s.set k (List.replicate (ys.length+1) 0))[k]?=some (List.replicate (ys.length+1) 0):=by rw [List.getElem?_set,if_pos rfl,if_pos hks]
   unfold jX
   simp only [hd,if_true,mk1 ys.length (0:Int) hy,Option.bind_some,aQ g0,Int.toNat_natCast,inner k s _ (by omega) g1,bH k (by omega)]
   refine ⟨_,rfl, ?_⟩
   rw [List.set_set,hI,Gr hCk]) (fun s _=>by
   have:¬ ((List.range (xs.length+1)).length:Int)≤(xs.length:Int):=by rw [List.length_range];omega
   unfold jX
   simp only [this,decide_false,Bool.false_eq_true,if_false])
 rw [List.length_range,← hCl,List.take_length,Nat.sub_self,List.replicate_zero,List.append_nil] at q2
 unfold qD
 rw [mk1 xs.length ([]:List Int) hx]
 simp only [Option.bind_some]
 rw [show ((0:Int),List.replicate (xs.length+1) ([]:List Int))=(((0:Nat):Int),List.replicate (xs.length+1) []) from rfl,q1,q2,hC]
 rfl
end
def cS (q x:aF):Prop:=q.X2=x.X1∧q.Y2=x.Y1∧(q.Y1=x.Y2∨q.X1=x.X2)
instance (q x:aF):Decidable (cS q x):=by unfold cS;infer_instance
abbrev Ln:=aU
def jn (q x:Ln):Prop:=q.Low=x.Low∧q.sC=x.sC∧cS q.At x.At
instance (q x:Ln):Decidable (jn q x):=by unfold jn;infer_instance
theorem join_nil (x:Ln) (h:x.Low≠x.sC):cF x []=some [x]:=by
 unfold cF
 have e1:(x.Low==x.sC)=false:=by simp [h]
 have e2:aK (([]:List Ln).length:Int) 1=-1:=bC (by simp) (by simp)
 rw [e2]
 simp only [e1,Bool.false_eq_true,if_false,show decide ((-1:Int) ≥ 0)=false from rfl,Option.bind_some]
 rw [jE (by simp [LIM])]
 rfl
theorem EV (x:Ln) (l:List Ln) (h:x.Low=x.sC):cF x l=some l:=by
 unfold cF
 simp [h]
theorem Ms (x q:Ln) (o:List Ln) (ho:o.length≤10000000) (h:x.Low≠x.sC):cF x (o++[q])=some (if jn q x then o++[⟨⟨q.At.X1,q.At.Y1,x.At.X2,x.At.Y2⟩,q.Low,q.sC⟩] else o++[q]++[x]):=by
 unfold cF
 have e1:(x.Low==x.sC)=false:=by simp [h]
 have hlen:((o++[q]).length:Int)=(o.length:Int)+1:=by simp
 have e2:aK ((o++[q]).length:Int) 1=(o.length:Int):=by rw [hlen,bC (by omega) (by omega)];omega
 have g:(o++[q])[o.length]?=some q:=by simp
 have d:decide ((o.length:Int) ≥ 0)=true:=by simp
 rw [e2]
 simp only [e1,Bool.false_eq_true,if_false,d,if_true,aQ g,Option.bind_some,Int.toNat_natCast]
 have hj : (if (q.Low==x.Low)=true then (if (q.sC==x.sC)=true then (if (q.At.X2==x.At.X1)=true then (if (q.At.Y2==x.At.Y1)=true then (if (q.At.Y1==x.At.Y2)=true then some true else some (q.At.X1==x.At.X2)) else some false) else some false) else some false) else some false)=some (decide (jn q x)):=by
  unfold jn cS
  by_cases h1:q.Low=x.Low
  ·by_cases h2:q.sC=x.sC
   ·by_cases h3:q.At.X2=x.At.X1
    ·by_cases h4:q.At.Y2=x.At.Y1
     ·by_cases h5:q.At.Y1=x.At.Y2
      ·simp [h1,h2,h3,h4,h5]
      ·by_cases h6:q.At.X1=x.At.X2
       ·simp [h1,h2,h3,h4,h5,h6]
       ·simp [h1,h2,h3,h4,h5,h6]
     ·simp [h1,h2,h3,h4]
    ·simp [h1,h2,h3]
   ·simp [h1,h2]
  ·simp [h1]
 rw [hj,Option.bind_some]
 by_cases hc:jn q x
 ·have s1:(o++[q]).set o.length (⟨⟨q.At.X1,q.At.Y1,x.At.X2,q.At.Y2⟩,q.Low,q.sC⟩:Ln)=o++[⟨⟨q.At.X1,q.At.Y1,x.At.X2,q.At.Y2⟩,q.Low,q.sC⟩]:=by rw [List.set_append_right _ _ (Nat.le_refl _)];simp
  have g2:(o++[(⟨⟨q.At.X1,q.At.Y1,x.At.X2,q.At.Y2⟩,q.Low,q.sC⟩:Ln)])[o.length]?=some ⟨⟨q.At.X1,q.At.Y1,x.At.X2,q.At.Y2⟩,q.Low,q.sC⟩:=by simp
  simp only [hc,decide_true,if_true,s1,aQ g2,Option.bind_some]
  rw [List.set_append_right _ _ (Nat.le_refl _)]
  simp
 ·simp only [hc,decide_false,Bool.false_eq_true,if_false]
  rw [jE (by simp [LIM];omega)]
  simp
theorem KH {A B:Int→Option Int} {xs:List Int} (h:Al A B xs) {ln:Int→Int→aF} {body:Int×List Ln→Option (Int×List Ln ⊕ List Ln)}
  (hb:∀ (k:Nat) x x' (out:List Ln),xs[k]?=some x→xs[k+1]?=some x'→body ((k:Int),out)=(cF ⟨ln x x',nm (B x),nm (A x)⟩ out).bind fun r=>some (.inl (((k+1:Nat):Int),r)))
  (hend:∀ (k:Nat) (out:List Ln),k<100000→xs.length≤k+1→body ((k:Int),out)=some (.inr out)) (hcs:∀ a b e e',cS (ln a b) (ln e e')↔b=e) (hmg:∀ a e e',(⟨(ln a e).X1,(ln a e).Y1,(ln e e').X2,(ln e e').Y2⟩:aF)=ln a e')
  {out0:List Ln} (h0:out0.length≤5000000) (hout:∀ q ∈ out0,∀ x x',x<x'→¬ cS q.At (ln x x')) :
  ∃ L,aH body (0,out0)=some (out0++L.map fun p=>⟨ln p.1 p.2,nm (B p.1),nm (A p.1)⟩)∧eF (fun z=>cod (A z) (B z)) L∧L.length≤xs.length:=by
 obtain ⟨s,hs⟩:∃ s:Int→Int,s=fun z=>cod (A z) (B z):=⟨_,rfl⟩
 have hlen:=h.len
 have s0:∀ z,s z=0↔A z=B z:=fun z=>by rw [hs];exact h.s0 z
 have sinj:∀ z w,s z≠0→s z=s w→A z=A w∧B z=B w:=fun z w q1 q2=>by subst hs;exact h.inj q1 q2
 obtain ⟨lo,hlo⟩:=h.lo
 replace hlo:∀ z,z<lo→s z=0:=fun z hz=>by rw [hs];exact hlo z hz
 have hst:sA s xs:=by rw [hs];exact uZ (fun p:Option Int×Option Int=>cod p.1 p.2) (g:=fun z=>(A z,B z)) h.st
 rw [← hs]
 obtain ⟨mk,hmk⟩:∃ mk:Int×Int→Ln,mk=fun p=>⟨ln p.1 p.2,nm (B p.1),nm (A p.1)⟩:=⟨_,rfl⟩
 rw [← hmk]
 obtain ⟨r,q1,q2⟩:=jT (fun t:Int×List Ln=>((xs.length:Int)-t.1).toNat)
  (fun t:Int×List Ln=>∃ k:Nat,t.1=k∧(k<xs.length∨k=0)∧(xs=[]→t.2=out0)∧(∀ e,xs[k]?=some e→∃ L,eF (cut s e) L∧L.length≤k∧t.2=out0++L.map mk))
  (fun r=>∃ L,r=out0++L.map mk∧eF s L∧L.length≤xs.length) body (by
   rintro ⟨k',out⟩ ⟨k,hk',hk,hnil,hI⟩
   simp only at hk' hnil hI ⊢
   subst hk'
   by_cases hkl:k+1<xs.length
   case neg =>
    right
    refine ⟨out,hend k out (by omega) (by omega), ?_⟩
    rcases hk with hk | rfl
    ·obtain ⟨e,he⟩:∃ e,xs[k]?=some e:=⟨_,List.getElem?_eq_getElem hk⟩
     obtain ⟨L,hL,hLk,ho⟩:=hI e he
     refine ⟨L,ho,Ma hL fun z hz=>?_,by omega⟩
     have:=h.high e (by rw [show xs.length-1=k from by omega];exact he) z hz
     rw [s0,this.1,this.2]
    ·rcases Classical.em (xs=[]) with q | q
     ·refine ⟨[],by rw [hnil q];simp,⟨.nil,fun a b=>⟨fun m=>by simp at m,fun m=>absurd ((s0 a).2 ?_) m.2.1⟩⟩,by simp⟩
      rw [(h.emp q a).1,(h.emp q a).2]
     ·have hp:=List.length_pos_iff.2 q
      obtain ⟨e,he⟩:∃ e,xs[0]?=some e:=⟨_,List.getElem?_eq_getElem hp⟩
      obtain ⟨L,hL,hLk,ho⟩:=hI e he
      refine ⟨L,ho,Ma hL fun z hz=>?_,by omega⟩
      have:=h.high e (by rw [show xs.length-1=0 from by omega];exact he) z hz
      rw [s0,this.1,this.2]
   left
   obtain ⟨e,he⟩:∃ e,xs[k]?=some e:=⟨_,List.getElem?_eq_getElem (by omega)⟩
   obtain ⟨e',he'⟩:∃ e',xs[k+1]?=some e':=⟨_,List.getElem?_eq_getElem hkl⟩
   obtain ⟨hee,hst'⟩:=mO hst he he'
   obtain ⟨L,hL,hLk,ho⟩:=hI e he
   rw [hb k e e' out he he']
   have fin:∀ L',eF (cut s e') L'→L'.length≤k+1→cF ⟨ln e e',nm (B e),nm (A e)⟩ out=some (out0++L'.map mk) →
     ∃ s',(cF ⟨ln e e',nm (B e),nm (A e)⟩ out).bind (fun r=>some (.inl (((k+1:Nat):Int),r)))=some (.inl s':Int×List Ln ⊕ List Ln)∧(∃ k:Nat,s'.1=k∧(k<xs.length∨k=0)∧(xs=[]→s'.2=out0)∧(∀ e,xs[k]?=some e→∃ L,eF (cut s e) L∧L.length≤k∧s'.2=out0++L.map mk))∧((xs.length:Int)-s'.1).toNat<((xs.length:Int)-(k:Int)).toNat:=fun L' h1 h2 h3=>by
    rw [h3]
    refine ⟨(((k+1:Nat):Int),out0++L'.map mk),rfl,⟨k+1,rfl,.inl hkl,fun q=>by rw [q] at hkl;simp at hkl,fun e2 he2=>?_⟩,by simp only;omega⟩
    rw [he'] at he2;injection he2 with he2;subst he2
    exact ⟨L',h1,h2,rfl⟩
   have hne_iff:nm (B e)=nm (A e)↔s e=0:=by rw [s0,Vu (h.sb e) (h.sa e)];exact eq_comm
   rcases Classical.em (s e=0) with e0 | e0
   ·refine fin L (Ij hL hee hst' e0) (by omega) ?_
    rw [EV _ _ (hne_iff.2 e0),ho]
   ·have hlh:(⟨ln e e',nm (B e),nm (A e)⟩:Ln).Low≠(⟨ln e e',nm (B e),nm (A e)⟩:Ln).sC:=fun q=>e0 (hne_iff.1 q)
    rcases Classical.em (s (e-1)=s e) with e1 | e1
    ·obtain ⟨l0,a,hla,hrun⟩:=Nb hL hee hst' hlo e0 e1
     have hr:=pX.1 ((hL.2 a e).1 (by rw [hla];simp))
     have hb2:=sinj (e-1) a (by rw [e1];exact e0) (hr.2.2.2.1 (e-1) (by omega) (by omega))
     have hb3:=sinj (e-1) e (by rw [e1];exact e0) e1
     refine fin (l0++[(a,e')]) hrun (by rw [hla] at hLk;simp at hLk ⊢;omega) ?_
     have hout':out=(out0++l0.map mk)++[mk (a,e)]:=by rw [ho,hla];simp
     rw [hout',Ms _ _ _ (by rw [hla] at hLk;simp at hLk ⊢;omega) hlh,if_pos,List.map_append,← List.append_assoc]
     ·rw [hmk]
      simp only [List.map_cons,List.map_nil]
      rw [hmg]
     ·rw [hmk]
      refine ⟨?_, ?_,(hcs _ _ _ _).2 rfl⟩
      ·show nm (B a)=nm (B e);rw [← hb2.2,hb3.2]
      ·show nm (A a)=nm (A e);rw [← hb2.1,hb3.1]
    ·refine fin (L++[(e,e')]) (Sa hL hee hst' e0 e1) (by simp;omega) ?_
     have hres:(out0++L.map mk)++[(⟨ln e e',nm (B e),nm (A e)⟩:Ln)]=out0++(L++[(e,e')]).map mk:=by rw [List.map_append,← List.append_assoc,hmk];rfl
     rw [← hres,ho]
     rcases List.eq_nil_or_concat L with rfl | ⟨l0,p,hLp⟩
     ·rcases List.eq_nil_or_concat out0 with rfl | ⟨o,q,hoq⟩
      ·simp only [List.map_nil,List.append_nil,List.nil_append]
       exact join_nil _ hlh
      ·have hoq':out0=o++[q]:=by rw [hoq];exact List.concat_eq_append
       simp only [List.map_nil,List.append_nil]
       rw [hoq',Ms _ _ _ (by rw [hoq'] at h0;simp at h0;omega) hlh,if_neg]
       exact fun z=>hout q (by rw [hoq'];simp) e e' hee z.2.2
     ·have hLp':L=l0++[p]:=by rw [hLp];exact List.concat_eq_append
      have hout':out0++L.map mk=(out0++l0.map mk)++[mk p]:=by rw [hLp'];simp
      rw [hout',Ms _ _ _ (by rw [hLp'] at hLk;simp at hLk ⊢;omega) hlh,if_neg]
      intro z
      have hr:=pX.1 ((hL.2 p.1 p.2).1 (by rw [hLp'];simp))
      rw [hmk] at z
      obtain ⟨z1,z2,z3⟩:=z
      have z3':=(hcs p.1 p.2 e e').1 z3
      have z1':nm (B p.1)=nm (B e):=z1
      have z2':nm (A p.1)=nm (A e):=z2
      have y1:=(Vu (h.sb _) (h.sb _)).1 z1'
      have y2:=(Vu (h.sa _) (h.sa _)).1 z2'
      refine e1 ?_
      have:=hr.2.2.2.1 (e-1) (by omega) (by omega)
      rw [this,hs]
      simp only
      rw [y1,y2]) (0,out0)
   ⟨0,rfl,by omega,fun _=>rfl,fun e he=>by
    have hl:=h.low e he
    exact ⟨[],Ju fun z hz=>by rw [s0,(hl z hz).1,(hl z hz).2],by simp,by simp⟩⟩
 obtain ⟨L,rfl,q3,q4⟩:=q2
 exact ⟨L,q1,q3,q4⟩
theorem Hz {l:List Int} (h:l.Pairwise fun x y=>x<y) (hl:l.length≤10000) (n:Int) :
  ∃ r,gP n l=some r∧r.Pairwise (fun x y=>x<y)∧(∀ x,x ∈ r↔x ∈ l∨x=n)∧r.length≤l.length+1:=by
 obtain ⟨i',q1,i,rfl,hi,ha,hb⟩:=jT (fun s:Int=>s.toNat)
  (fun s:Int=>∃ k:Nat,s=k∧k≤l.length∧∀ x ∈ l.drop k,n<x)
  (fun r:Int=>∃ k:Nat,r=k∧k≤l.length∧(∀ x ∈ l.drop k,n<x)∧(0<k→∀ y,l[k-1]?=some y→y≤n)) (nB n l) (by
   rintro s ⟨k,rfl,hk,hI⟩
   unfold nB
   by_cases h0:0<k
   ·obtain ⟨x,hx⟩:∃ x,l[k-1]?=some x:=⟨_,List.getElem?_eq_getElem (by omega)⟩
    have e1:aK (k:Int) 1=((k-1:Nat):Int):=by rw [bC (by omega) (by omega)];omega
    have d:decide ((k:Int)>0)=true:=by simp;omega
    simp only [d,if_true,e1,aQ hx,Option.bind_some]
    by_cases hg:x>n
    ·left
     refine ⟨((k-1:Nat):Int),by simp [hg],⟨k-1,rfl,by omega,fun y hy=>?_⟩,by omega⟩
     rw [List.drop_eq_getElem_cons (show k-1<l.length by omega),show k-1+1=k by omega] at hy
     rcases List.mem_cons.1 hy with rfl | hy
     ·rw [List.getElem?_eq_getElem (by omega)] at hx;injection hx with hx;rw [hx];exact hg
     ·exact hI y hy
    ·right
     refine ⟨(k:Int),by simp [hg],k,rfl,hk,hI,fun _ y hy=>?_⟩
     rw [hx] at hy;injection hy with hy;omega
   ·right
    have d:decide ((k:Int)>0)=false:=by simp;omega
    exact ⟨(k:Int),by simp only [d,Bool.false_eq_true,if_false,Option.bind_some],k,rfl,hk,hI,fun q=>absurd q h0⟩) (l.length:Int) ⟨l.length,rfl,Nat.le_refl _,by simp⟩
 unfold gP
 rw [q1,Option.bind_some]
 have hj:∃ b:Bool,(if decide ((i:Int)>0) then (idx l (aK (i:Int) 1)).bind (fun x48=>some (x48==n)) else some false)=some b∧(b=true↔0<i∧l[i-1]?=some n):=by
  by_cases h0:0<i
  ·obtain ⟨x,hx⟩:∃ x,l[i-1]?=some x:=⟨_,List.getElem?_eq_getElem (by omega)⟩
   have e1:aK (i:Int) 1=((i-1:Nat):Int):=by rw [bC (by omega) (by omega)];omega
   have d:decide ((i:Int)>0)=true:=by simp;omega
   refine ⟨x==n,by simp only [d,if_true,e1,aQ hx,Option.bind_some], ?_⟩
   rw [beq_iff_eq,hx]
   exact ⟨fun q=>⟨h0,by rw [q]⟩,fun q=>Option.some.inj q.2⟩
  ·have d:decide ((i:Int)>0)=false:=by simp;omega
   exact ⟨false,by simp only [d,Bool.false_eq_true,if_false],by simp;omega⟩
 obtain ⟨b,hj1,hj2⟩:=hj
 rw [hj1,Option.bind_some]
 cases b with
 | true =>
   obtain ⟨h0,hn⟩:=hj2.1 rfl
   refine ⟨l,rfl,h,fun x=>⟨.inl,fun q=>q.elim id fun e=>by rw [e];exact List.mem_of_getElem? hn⟩,by omega⟩
 | false =>
   have hnot:¬ (0<i∧l[i-1]?=some n):=fun q=>by have:=hj2.2 q;cases this
   rw [if_neg (by simp),jE (by simp [LIM];omega)]
   have hlen:aK ((l++[0]).length:Int) 1=(l.length:Int):=by rw [List.length_append,List.length_singleton,bC (by omega) (by omega)];omega
   obtain ⟨r,t1,z,rfl⟩:=jT (fun s:Int×List Int=>(s.1-(i:Int)).toNat)
    (fun s:Int×List Int=>∃ j:Nat,s.1=j∧i≤j∧j≤l.length∧∃ z,s.2=l.take j++z::l.drop j)
    (fun r:List Int=>∃ z,r=l.take i++z::l.drop i) (nC (i:Int)) (by
     rintro ⟨s,c⟩ ⟨j,hs,hij,hjl,z,hc⟩
     simp only at hs hc
     subst hs hc
     unfold nC
     by_cases hg:i<j
     ·left
      have d:decide ((j:Int)>(i:Int))=true:=by simp;omega
      have e1:aK (j:Int) 1=((j-1:Nat):Int):=by rw [bC (by omega) (by omega)];omega
      have ht:(l.take j).length=j:=by rw [List.length_take];omega
      have g1:(l.take j++z::l.drop j)[j-1]?=some (l[j-1]'(by omega)):=by
       rw [List.getElem?_append_left (by omega),List.getElem?_take,if_pos (by omega),List.getElem?_eq_getElem (by omega)]
      have g2:(l.take j++z::l.drop j)[j]?=some z:=by rw [List.getElem?_append_right (by omega),ht];simp
      simp only [d,if_true,e1,aQ g1,aQ g2,Option.bind_some,Int.toNat_natCast]
      refine ⟨_,rfl,⟨j-1,rfl,by omega,by omega,l[j-1]'(by omega), ?_⟩,by simp only;omega⟩
      simp only
      rw [List.set_append_right _ _ (by omega),ht]
      have e2:l.take j=l.take (j-1)++[l[j-1]'(by omega)]:=by
       conv=>lhs;rw [show j=(j-1)+1 by omega]
       rw [List.take_add_one,List.getElem?_eq_getElem (by omega)];rfl
      have e3:l.drop (j-1)=l[j-1]'(by omega)::l.drop j:=by
       rw [List.drop_eq_getElem_cons (show j-1<l.length by omega),show j-1+1=j by omega]
      rw [e2,e3,Nat.sub_self,List.set_cons_zero,List.append_assoc];rfl
     ·right
      have d:decide ((j:Int)>(i:Int))=false:=by simp;omega
      obtain rfl:j=i:=by omega
      exact ⟨l.take j++z::l.drop j,by simp only [d,Bool.false_eq_true,if_false],z,rfl⟩) (aK ((l++[0]).length:Int) 1,l++[0]) ⟨l.length,hlen,hi,Nat.le_refl _,0,by simp⟩
   have ht:(l.take i).length=i:=by rw [List.length_take];omega
   have g2:(l.take i++z::l.drop i)[i]?=some z:=by rw [List.getElem?_append_right (by omega),ht];simp
   have e4:(l.take i++z::l.drop i).set i n=l.take i++n::l.drop i:=by rw [List.set_append_right _ _ (by omega),ht];simp
   simp only [Option.bind_some,t1,aQ g2,Int.toNat_natCast,e4]
   have hlow:∀ x ∈ l.take i,x<n:=fun x hx=>by
    rcases Nat.eq_zero_or_pos i with q | q
    ·subst q;simp at hx
    ·obtain ⟨y,hy⟩:∃ y,l[i-1]?=some y:=⟨_,List.getElem?_eq_getElem (by omega)⟩
     have hyn:y<n:=by
      have h1:=hb q y hy
      have h2:y≠n:=fun e=>hnot ⟨q,by rw [hy,e]⟩
      omega
     obtain ⟨k,hk⟩:=List.mem_iff_getElem?.1 hx
     have hkl:=aV hk
     rw [List.getElem?_take,if_pos (by omega)] at hk
     by_cases e:k=i-1
     ·subst e;rw [hy] at hk;injection hk with hk;omega
     ·have:=Bg h (show k<i-1 by omega) hk hy;omega
   refine ⟨_,rfl, ?_,fun x=>?_,by rw [List.length_append,List.length_cons,List.length_take,List.length_drop];omega⟩
   ·have hp:=h
    rw [← List.take_append_drop i l,List.pairwise_append] at hp
    rw [List.pairwise_append,List.pairwise_cons]
    refine ⟨hp.1,⟨ha,hp.2.1⟩,fun x hx y hy=>?_⟩
    rcases List.mem_cons.1 hy with rfl | hy
    ·exact hlow x hx
    ·exact hp.2.2 x hx y hy
   ·conv=>rhs;rw [← List.take_append_drop i l]
    simp only [List.mem_append,List.mem_cons]
    grind
theorem LG {l:List aM} (hv:Ep l) (hl:l.length≤400):∃ xs ys,tA l=some (xs,ys)∧jB xs (xsL l)∧jB ys (ysL l):=by
 obtain ⟨⟨xs,ys⟩,q1,⟨gx1,gx2⟩,⟨gy1,gy2⟩,lx,ly⟩:=gG l (fun k (s:List Int×List Int)=>((k:Int),s.1,s.2)) (lH l) (fun s=>(s.1,s.2)) (fun k s=>jB s.1 (xsL (l.take k))∧jB s.2 (ysL (l.take k))∧s.1.length≤2*k∧s.2.length≤2*k) ([],[])
  ⟨⟨.nil,by simp [xsL]⟩,⟨.nil,by simp [ysL]⟩,by simp,by simp⟩
  (fun k r s hr hI=>by
   obtain ⟨⟨a1,a2⟩,⟨b1,b2⟩,la,lb⟩:=hI
   have h1:=aV hr
   have hd:decide ((k:Int)<(l.length:Int))=true:=by simp [h1]
   obtain ⟨e1,e2⟩:=Nk (hv r (List.mem_of_getElem? hr))
   obtain ⟨c1,i1,p1,m1,n1⟩:=Hz a1 (by omega) r.X
   obtain ⟨c2,i2,p2,m2,n2⟩:=Hz p1 (by omega) (r.X+r.W)
   obtain ⟨c3,i3,p3,m3,n3⟩:=Hz b1 (by omega) r.Y
   obtain ⟨c4,i4,p4,m4,n4⟩:=Hz p3 (by omega) (r.Y+r.H)
   unfold lH
   simp only [hd,if_true,aQ hr,Option.bind_some,e1,e2,i1,i2,i3,i4,bH k (by omega)]
   refine ⟨(c2,c4),rfl,⟨p2,fun x=>?_⟩,⟨p4,fun x=>?_⟩,by simp only;omega,by simp only;omega⟩
   ·rw [m2,m1,a2,eD hr,Fz]
    simp [xsL,or_assoc]
   ·rw [m4,m3,b2,eD hr,Ga]
    simp [ysL,or_assoc]) (fun s _=>by simp [lH])
 rw [List.take_length] at gx2 gy2
 simp only at gx1 gx2 gy1 gy2
 refine ⟨xs,ys, ?_,⟨gx1,gx2⟩,⟨gy1,gy2⟩⟩
 unfold tA
 rw [show ((0:Int),([]:List Int),([]:List Int))=(((0:Nat):Int),(([],[]):List Int×List Int).1,(([],[]):List Int×List Int).2) from rfl,q1]
 rfl
end Go.SM
namespace Go.SM
open Go Go.VI
theorem JJ {s sub:List UInt8} {i:Nat} (hne:sub≠[]) (h:Go.Lib.occAt s sub i=true):i+sub.length≤s.length:=by
 rcases Go.Lib.occAt_room h with h' | h'
 ·omega
 ·exact absurd h' hne
theorem Qk {s sub:List UInt8} (hne:sub≠[]):Go.Lib.contains s sub=(List.range (s.length+1-sub.length)).any (Go.Lib.occAt s sub):=by
 unfold Go.Lib.contains
 rcases Go.Lib.index_spec s sub with ⟨h1,h2⟩ | ⟨i,h1,h2,h3,h4⟩
 ·rw [h1]
  have:(List.range (s.length+1-sub.length)).any (Go.Lib.occAt s sub)=false:=by
   rw [List.any_eq_false];intro j hj
   rw [h2 j (by have:=List.mem_range.1 hj;omega)];simp
  rw [this];rfl
 ·rw [h1]
  have:(List.range (s.length+1-sub.length)).any (Go.Lib.occAt s sub)=true:=List.any_eq_true.2 ⟨i,List.mem_range.2 (by have:=JJ hne h3;omega),h3⟩
  rw [this];simp
theorem Pu {a b:ByteArray} (h:a.size+b.size≤9223372036854775807):Oz a b=some (a++b):=by unfold Oz;rw [if_pos h]
theorem ET (T s1:ByteArray) (hT:T.size<4294967281) (hs:s1.size≤8):pY T s1=some (Go.Lib.contains T.data.toList ((ByteArray.mk #[32]++s1)++ByteArray.mk #[32]).data.toList):=by
 have hsz:((ByteArray.mk #[32]++s1)++ByteArray.mk #[32]).size=s1.size+2:=by
  rw [ByteArray.size_append,ByteArray.size_append];show 1+s1.size+1=_;omega
 have hsub:s1.size+2=((ByteArray.mk #[32]++s1)++ByteArray.mk #[32]).data.toList.length:=by rw [← hsz];rfl
 have hne:((ByteArray.mk #[32]++s1)++ByteArray.mk #[32]).data.toList≠[]:=by
  intro h;rw [h] at hsub;simp at hsub
 have e1:Oz (ByteArray.mk #[32]) s1=some (ByteArray.mk #[32]++s1):=Pu (by show 1+s1.size≤_;omega)
 have e2:Oz (ByteArray.mk #[32]++s1) (ByteArray.mk #[32])=some ((ByteArray.mk #[32]++s1)++ByteArray.mk #[32]):=Pu (by rw [ByteArray.size_append];show 1+s1.size+1≤_;omega)
 generalize (ByteArray.mk #[32]++s1)++ByteArray.mk #[32]=W at hsz hsub hne e2 ⊢
 rw [Qk hne]
 have hTl:T.data.toList.length=T.size:=rfl
 have key:aH (gQ T s1) 0=some (if (List.range (T.data.toList.length+1-W.data.toList.length)).any (Go.Lib.occAt T.data.toList W.data.toList) then .inl () else .inr ()):=by
  refine rA _ (gQ T s1) (fun k=>(k:Int)) _ _ _ rfl (fun k hk=>?_) ?_
  ·unfold gQ
   rw [hTl,← hsub] at hk
   rw [aP (a:=(k:Int)) (by omega) (by omega),aP (b:=2) (by omega) (by omega)]
   have h1:decide ((k:Int)+(s1.size:Int)+2≤(T.size:Int))=true:=by simp;omega
   simp only [h1,if_true]
   have e3:QJ T k ((k:Int)+(s1.size:Int)+2)=some (T.extract k (k+W.size)):=by
    unfold QJ
    rw [if_pos (by omega)]
    have:((k:Int)+(s1.size:Int)+2).toNat=k+W.size:=by omega
    rw [this];simp
   rw [e3]
   simp only [Option.bind_some,e1,e2]
   rw [Go.Lib.occ_of_piece T W k (by omega),aP (a:=(k:Int)) (by omega) (by omega)]
   cases (T.extract k (k+W.size)).toList==W.toList <;> simp
  ·unfold gQ
   rw [hTl,← hsub]
   rw [aP (b:=(s1.size:Int)) (by omega) (by omega),aP (b:=2) (by omega) (by omega)]
   have h1:decide (((T.size+1-(s1.size+2):Nat):Int)+(s1.size:Int)+2≤(T.size:Int))=false:=by simp;omega
   simp only [h1];rfl
 unfold pY
 rw [key]
 cases (List.range (T.data.toList.length+1-W.data.toList.length)).any (Go.Lib.occAt T.data.toList W.data.toList) <;> rfl
def PE (x:Int):Bool:=decide (¬ (97≤x∧x≤122)∧(x<48∨x>57))
theorem Wc {s:ByteArray} {k:Nat} (h:k<s.size):Hj s (k:Int)=some ((s[k].toNat:Nat):Int):=by
 unfold Hj
 rw [if_pos (Int.natCast_nonneg k),Int.toNat_natCast]
 simp [h]
def PF (s:ByteArray):Bool:=(List.range s.size).any fun k=>if h:k<s.size then PE s[k].toNat else false
theorem FB (s:ByteArray) (hs:s.size≤8):aH (nS s) 0=some (if PF s then .inl () else .inr ()):=by
 refine rA s.size (nS s) (fun k=>(k:Int)) _ _ _ rfl (fun k hk=>?_) ?_
 ·unfold nS
  have h1:decide ((k:Int)<(s.size:Int))=true:=by simp;omega
  simp only [h1,if_true,Wc hk,Option.bind_some,dif_pos hk]
  rw [aP (a:=(k:Int)) (by omega) (by omega)]
  generalize ((s[k].toNat:Nat):Int)=x
  unfold PE
  by_cases q1:x<97
  ·have:¬ (97≤x∧x≤122):=by omega
   by_cases q2:x<48
   ·simp [q1,q2]
   ·by_cases q3:x>57 <;> simp [q1,q2,q3]
  ·by_cases q4:x>122
   ·have q5:¬ x<48:=by omega
    have q6:x>57:=by omega
    simp [q1,q4,q5,q6]
   ·simp [q1,q4]
 ·simp [nS]
theorem AY (s:ByteArray) (hs:s.size≤8):aH (fI s) 0=some (if PF s then .inl () else .inr ()):=by
 refine rA s.size (fI s) (fun k=>(k:Int)) _ _ _ rfl (fun k hk=>?_) ?_
 ·unfold fI
  have h1:decide ((k:Int)<(s.size:Int))=true:=by simp;omega
  simp only [h1,if_true,Wc hk,Option.bind_some,dif_pos hk]
  rw [aP (a:=(k:Int)) (by omega) (by omega)]
  generalize ((s[k].toNat:Nat):Int)=x
  unfold PE
  by_cases q1:x ≥ 97
  ·by_cases q4:x≤122
   ·simp [q1,q4]
   ·have q5:¬ x<48:=by omega
    have q6:x>57:=by omega
    simp [q1,q4,q5,q6]
  ·by_cases q2:x<48
   ·simp [q1,q2]
   ·by_cases q3:x>57 <;> simp [q1,q2,q3]
 ·simp [fI]
theorem rB (s:ByteArray):∃ b,jK s=some b∧fB s=some b:=by
 unfold jK fB vQ uC
 by_cases h1:(s.size:Int)<1
 ·exact ⟨false,by simp [h1],by simp [show ¬ (s.size:Int) ≥ 1 by omega]⟩
 by_cases h2:(s.size:Int)>8
 ·exact ⟨false,by simp [h1,h2],by simp [show (s.size:Int) ≥ 1 by omega,show ¬ (s.size:Int)≤8 by omega]⟩
 have g1:(s.size:Int) ≥ 1:=by omega
 have g2:(s.size:Int)≤8:=by omega
 have e0:Hj s 0=some ((s[0]'(by omega)).toNat:Int):=Wc (k:=0) (by omega)
 generalize ((s[0]'(by omega)).toNat:Int)=x at e0
 by_cases h3:x<97
 ·exact ⟨false,by simp [h1,h2,e0,h3],by simp only [g1,g2,decide_true,if_true,Option.bind_some,e0,h3]⟩
 by_cases h4:x>122
 ·exact ⟨false,by simp [h1,h2,e0,h3,h4],by simp only [g1,g2,decide_true,if_true,Option.bind_some,e0,h3,h4,decide_false,Bool.false_eq_true,if_false]⟩
 simp only [g1,g2,h1,h2,h3,h4,decide_true,decide_false,if_true,Bool.false_eq_true,if_false,Option.bind_some,e0,FB s (by omega),AY s (by omega)]
 cases PF s with
 | true=>exact ⟨false,rfl,rfl⟩
 | false =>
   have e1:Oz (ByteArray.mk #[32]) s=some (ByteArray.mk #[32]++s):=Pu (by show 1+s.size≤_;omega)
   have e2:Oz (ByteArray.mk #[32]++s) (ByteArray.mk #[32])=some ((ByteArray.mk #[32]++s)++ByteArray.mk #[32]):=Pu (by rw [ByteArray.size_append];show 1+s.size+1≤_;omega)
   simp only [Bool.false_eq_true,if_false,e1,e2,Option.bind_some]
   unfold strings_Contains
   rw [ET _ s (by decide +kernel) (by omega),if_pos (by decide +kernel)]
   exact ⟨_,rfl,rfl⟩
theorem Vj (n lo hi:Int):wN n lo hi=some (decide (lo≤n∧n≤hi)):=by
 unfold wN
 by_cases h1:lo≤n <;> simp [h1]
theorem Ha (g r:Int):Ap g r=some (decide ((1≤g∧g≤60)∧0≤r∧r≤2)):=by
 unfold Ap
 simp only [Vj,Option.bind_some]
 by_cases h1:1≤g∧g≤60
 ·simp [h1]
 ·simp only [h1,decide_false,false_and];rfl
theorem Za {n m:ByteArray} {a b:Bool} (hn:fB n=some a) (hm:fB m=some b) (g r:Int):mV n m g r=some (if a&&b then (if (1≤g∧g≤60)∧0≤r∧r≤2 then 0 else 1) else 2):=by
 unfold mV
 rw [hn,hm]
 cases a
 ·rfl
 ·cases b
  ·rfl
  ·by_cases h1:g<1
   ·have:¬ ((1≤g∧g≤60)∧0≤r∧r≤2):=by omega
    simp [h1,this]
   ·by_cases h2:g>60
    ·have:¬ ((1≤g∧g≤60)∧0≤r∧r≤2):=by omega
     simp [h1,h2,this]
    ·by_cases h3:r<0
     ·have:¬ ((1≤g∧g≤60)∧0≤r∧r≤2):=by omega
      simp [h1,h2,h3,this]
     ·by_cases h4:r>2
      ·have:¬ ((1≤g∧g≤60)∧0≤r∧r≤2):=by omega
       simp [h1,h2,h3,h4,this]
      ·have:((1≤g∧g≤60)∧0≤r∧r≤2):=by omega
       simp [h1,h2,h3,h4,this]
theorem xX (l:List aM) (hl:l.length≤9223372036854775806):sX l=some (!(l.any fun x=>!decide (vR x))):=by
 have key:aH (tY l) 0=some (if (l.any fun x=>!decide (vR x)) then .inl () else .inr ()):=by
  refine eC l (tY l) (fun k=>(k:Int)) _ _ _ rfl (fun k x hx=>?_) ?_
  ·have hk:=(List.getElem?_eq_some_iff.1 hx).1
   unfold tY
   have h1:decide ((k:Int)<(l.length:Int))=true:=by simp;omega
   simp only [h1,if_true,aQ hx,Option.bind_some,pT]
   rw [aP (a:=(k:Int)) (by omega) (by omega)]
   rfl
  ·simp [tY]
 unfold sX
 rw [key]
 cases (l.any fun x=>!decide (vR x)) <;> rfl
theorem zE (l:List aM) (hl:l.length≤9223372036854775806):dQ l=some (!(l.any fun x=>!decide (vR x))):=by
 have key:aH (gR l) 0=some (if (l.any fun x=>!decide (vR x)) then .inl () else .inr ()):=by
  refine eC l (gR l) (fun k=>(k:Int)) _ _ _ rfl (fun k x hx=>?_) ?_
  ·have hk:=(List.getElem?_eq_some_iff.1 hx).1
   unfold gR
   have h1:decide ((k:Int)<(l.length:Int))=true:=by simp;omega
   simp only [h1,if_true,aQ hx,Option.bind_some,Kf]
   rw [aP (a:=(k:Int)) (by omega) (by omega)]
   rfl
  ·simp [gR]
 unfold dQ
 rw [key]
 cases (l.any fun x=>!decide (vR x)) <;> rfl
def outs (r:aM) (l:List aM):Bool:=l.any fun x=>!decide (Ak x r)
theorem IK (r:aM×Bool) (l:List aM) (hl:l.length≤9223372036854775806):aH (kA r l) 0=some (if outs r.1 l then .inl () else .inr ()):=by
 refine eC l (kA r l) (fun k=>(k:Int)) _ _ _ rfl (fun k x hx=>?_) ?_
 ·have hk:=(List.getElem?_eq_some_iff.1 hx).1
  unfold kA
  have h1:decide ((k:Int)<(l.length:Int))=true:=by simp;omega
  simp only [h1,if_true,aQ hx,Option.bind_some,Tg]
  rw [aP (a:=(k:Int)) (by omega) (by omega)]
  rfl
 ·simp [kA]
theorem Tz (s:bA) (l:List aM) (hl:l.length≤9223372036854775806):lR s l=some (!(outs ⟨0,0,s.gY,s.dK⟩ l)):=by
 have key:aH (gS s l) 0=some (if outs ⟨0,0,s.gY,s.dK⟩ l then .inl () else .inr ()):=by
  refine eC l (gS s l) (fun k=>(k:Int)) _ _ _ rfl (fun k x hx=>?_) ?_
  ·have hk:=(List.getElem?_eq_some_iff.1 hx).1
   unfold gS
   have h1:decide ((k:Int)<(l.length:Int))=true:=by simp;omega
   simp only [h1,if_true,aQ hx,Option.bind_some,Ti]
   rw [aP (a:=(k:Int)) (by omega) (by omega)]
   rfl
  ·simp [gS]
 unfold lR
 rw [key]
 cases outs ⟨0,0,s.gY,s.dK⟩ l <;> rfl
theorem IL (s:bA) (r:aM×Bool) (h1:s.cG.length≤9223372036854775806) (h2:s.Used.length≤9223372036854775806):aH (kB s r) 0=some (if outs r.1 s.cG || outs r.1 s.Used then .inl () else .inr ()):=by
 have:=eC [s.cG,s.Used] (kB s r) (fun k=>(k:Int)) (fun l=>outs r.1 l) (.inr ()) (.inl ()) rfl (fun k x hx=>?_) ?_
 ·refine this.trans ?_;simp
 ·have hk:=(List.getElem?_eq_some_iff.1 hx).1
  unfold kB
  have hm:x=s.cG∨x=s.Used:=by have:=List.mem_of_getElem? hx;simpa using this
  have hl:x.length≤9223372036854775806:=by rcases hm with rfl | rfl <;> assumption
  have h3:decide ((k:Int)<(([s.cG,s.Used]:List (List aM)).length:Int))=true:=by rw [decide_eq_true_eq];exact Int.ofNat_lt.2 hk
  simp only [h3,if_true,aQ hx,Option.bind_some,IK r x hl]
  have hk':k<2:=hk
  rw [aP (a:=(k:Int)) (by omega) (by omega)]
  cases outs r.1 x <;> simp
 ·simp [kB]
theorem Qa (s:bA):∃ b,iR s=some b∧lA s=some b:=by
 obtain ⟨a,ha,ha'⟩:=rB s.Name
 obtain ⟨b,hb,hb'⟩:=rB s.cA
 unfold iR lA
 rw [ha,hb,Za ha' hb']
 cases a with
 | false=>exact ⟨2,rfl,rfl⟩
 | true =>
 cases b with
 | false=>exact ⟨2,rfl,rfl⟩
 | true =>
 simp only [Option.bind_some,Ha,Vj,Bool.and_self,if_true,Bool.not_true,Bool.false_eq_true,if_false]
 by_cases h1:(1≤s.iS∧s.iS≤60)∧0≤s.iT∧s.iT≤2
 ·simp only [h1,and_self,decide_true,if_true,Option.bind_some]
  by_cases h2:1≤s.gY∧s.gY≤1048576
  ·by_cases h3:1≤s.dK∧s.dK≤1048576
   ·have q1:¬ s.gY<1:=by omega
    have q2:¬ s.gY>1048576:=by omega
    have q3:¬ s.dK<1:=by omega
    have q4:¬ s.dK>1048576:=by omega
    simp only [h2,h3,q1,q2,q3,q4,and_self,decide_true,decide_false,if_true,Option.bind_some,Bool.not_true,Bool.false_eq_true,if_false,bne_self_eq_false]
    by_cases h4:(s.cG.length:Int)>4
    ·exact ⟨4,by simp [h4],by simp [h4]⟩
    by_cases h5:(s.Used.length:Int)>48
    ·exact ⟨4,by simp [h5],by simp [h5]⟩
    simp only [h4,h5,decide_false,Bool.false_eq_true,if_false,Option.bind_some,xX s.cG (by omega),xX s.Used (by omega),zE s.cG (by omega),zE s.Used (by omega),Tz s s.cG (by omega),Tz s s.Used (by omega)]
    cases (s.cG.any fun x=>!decide (vR x)) with
    | true=>exact ⟨1,rfl,rfl⟩
    | false =>
    cases (s.Used.any fun x=>!decide (vR x)) with
    | true=>exact ⟨1,rfl,rfl⟩
    | false =>
    have hi:Fj s 0=some (⟨0,0,s.gY,s.dK⟩,decide (vR ⟨0,0,s.gY,s.dK⟩)):=by
     unfold Fj
     rw [pT]
     have e0:kM 2 0=0:=by rw [Hw (by omega) (by omega)];rfl
     rw [e0,bC (by omega) (by omega),bC (by omega) (by omega),Int.sub_zero,Int.sub_zero]
     rfl
    simp only [hi,Option.bind_some,IL s _ (show s.cG.length≤_ by omega) (show s.Used.length≤_ by omega),Bool.not_false,if_true,Bool.not_true,Bool.false_eq_true,if_false]
    cases outs ⟨0,0,s.gY,s.dK⟩ s.cG with
    | true=>exact ⟨13,rfl,rfl⟩
    | false =>
    cases outs ⟨0,0,s.gY,s.dK⟩ s.Used with
    | true=>exact ⟨13,rfl,rfl⟩
    | false=>exact ⟨0,rfl,rfl⟩
   ·refine ⟨1,by simp [h2,h3], ?_⟩
    by_cases q3:s.dK<1
    ·simp [q3]
    ·have q4:s.dK>1048576:=by omega
     simp [q3,q4]
  ·refine ⟨1,by simp [h2], ?_⟩
   by_cases q3:s.gY<1
   ·simp [q3]
   ·have q4:s.gY>1048576:=by omega
    simp [q3,q4]
 ·exact ⟨1,by simp only [h1,decide_false];rfl,by simp only [h1,if_false];rfl⟩
def cnt (l:List Bool):Nat:=l.countP (·==true)
theorem BQ {l:List Bool} {k:Nat} (h:l[k]?=some false):cnt (l.set k true)=cnt l+1:=by
 unfold cnt
 have hk:=(List.getElem?_eq_some_iff.1 h).1
 have hv:=(List.getElem?_eq_some_iff.1 h).2
 rw [List.countP_set hk]
 simp [hv]
theorem LR {l:List Bool} (h:cnt l=l.length):∀ x ∈ l,x=true:=by
 have:=List.countP_eq_length.1 h
 intro x hx;simpa using this x hx
theorem Oe (a b:aM):uD a b=Aq a b:=rfl
theorem BI (a b:aM):∃ t,Aq a b=some t:=by
 unfold Aq
 split
 ·split
  ·exact ⟨_,rfl⟩
  ·split <;> exact ⟨_,rfl⟩
 ·split <;> exact ⟨_,rfl⟩
theorem DZ {l:List aM} (hl:l.length≤1000) {x:Int} {r:aM} (hx:idx l x=some r) {i:Nat} {b0:Bool×Unit} :
  ∀ (m k:Nat) (seen:List Bool) (w0 l0 ext:List Int) (s:Int×List Bool×List Int),k+m=l.length→seen.length=l.length→l0[i]?=some x→s.1=(i:Int)→w0.length+ext.length≤1000000-m→l0.length+ext.length≤1000000-m →
    ∃ seen' ext',aH (jJ l x) ((k:Int),seen,w0++ext)=some (seen',w0++ext')∧aH (cM l s) ((k:Int),seen,l0++ext)=some (seen',l0++ext')∧seen'.length=l.length∧cnt seen'+ext.length=cnt seen+ext'.length∧(∀ y ∈ ext',y ∈ ext∨(0≤y∧y<l.length)):=by
 intro m
 induction m with
 | zero =>
   intro k seen w0 l0 ext s hk hs hi hsi h1 h2
   obtain rfl:k=l.length:=by omega
   refine ⟨seen,ext,fQ ?_,fQ ?_,hs,rfl,fun y hy=>.inl hy⟩
   ·simp [jJ]
   ·simp [cM]
 | succ m ih =>
   intro k seen w0 l0 ext s hk hs hi hsi h1 h2
   have hkl:k<l.length:=by omega
   have hy:l[k]?=some l[k]:=by simp
   have hsn:seen[k]?=some seen[k]:=by simp [hs,hkl]
   have hle:i<l0.length:=(List.getElem?_eq_some_iff.1 hi).1
   have hi':∀ e:List Int,(l0++e)[i]?=some x:=fun e=>by rw [List.getElem?_append_left hle];exact hi
   have hd:decide ((k:Int)<(l.length:Int))=true:=by simp;omega
   have e1:aJ (k:Int) 1=((k+1:Nat):Int):=by rw [aP (by omega) (by omega)];rfl
   obtain ⟨t,ht⟩:=BI r l[k]
   by_cases hb:seen[k]=true
   ·obtain ⟨seen',ext',p1,p2,p3⟩:=ih (k+1) seen w0 l0 ext s (by omega) hs hi hsi (by omega) (by omega)
    refine ⟨seen',ext', ?_, ?_,p3⟩
    ·rw [jS (s':=(((k+1:Nat):Int),seen,w0++ext))]
     ·exact p1
     ·unfold jJ lC
      simp only [hd,if_true,aQ hsn,hb,Option.bind_some,Bool.false_eq_true,if_false,e1]
    ·rw [jS (s':=(((k+1:Nat):Int),seen,l0++ext))]
     ·exact p2
     ·unfold cM fJ
      simp only [hd,if_true,aQ hsn,hb,Option.bind_some,Bool.false_eq_true,if_false,e1]
   ·have hb':seen[k]=false:=by simpa using hb
    cases t with
    | false =>
      obtain ⟨seen',ext',p1,p2,p3⟩:=ih (k+1) seen w0 l0 ext s (by omega) hs hi hsi (by omega) (by omega)
      refine ⟨seen',ext', ?_, ?_,p3⟩
      ·rw [jS (s':=(((k+1:Nat):Int),seen,w0++ext))]
       ·exact p1
       ·unfold jJ lC
        simp only [hd,if_true,aQ hsn,aQ hy,hx,ht,hb',Option.bind_some,Bool.false_eq_true,if_false,e1]
      ·rw [jS (s':=(((k+1:Nat):Int),seen,l0++ext))]
       ·exact p2
       ·unfold cM fJ
        simp only [hd,if_true,aQ hsn,aQ hy,hsi,aQ (hi' ext),hx,Oe,ht,hb',Option.bind_some,Bool.false_eq_true,if_false,e1]
    | true =>
      have hset:(seen.set k true).length=l.length:=by rw [List.length_set];exact hs
      obtain ⟨seen',ext',p1,p2,p3,p4,p5⟩:=ih (k+1) (seen.set k true) w0 l0 (ext++[(k:Int)]) s (by omega) hset hi hsi (by simp;omega) (by simp;omega)
      have a1:app (w0++ext) [(k:Int)]=some (w0++(ext++[(k:Int)])):=by rw [jE (by unfold LIM;simp;omega),List.append_assoc]
      have a2:app (l0++ext) [(k:Int)]=some (l0++(ext++[(k:Int)])):=by rw [jE (by unfold LIM;simp;omega),List.append_assoc]
      refine ⟨seen',ext', ?_, ?_,p3, ?_,fun y hy'=>?_⟩
      ·rw [jS (s':=(((k+1:Nat):Int),seen.set k true,w0++(ext++[(k:Int)])))]
       ·exact p1
       ·unfold jJ lC
        simp only [hd,if_true,aQ hsn,aQ hy,hx,ht,hb',Option.bind_some,Bool.false_eq_true,if_false,e1,a1,Int.toNat_natCast]
      ·rw [jS (s':=(((k+1:Nat):Int),seen.set k true,l0++(ext++[(k:Int)])))]
       ·exact p2
       ·unfold cM fJ
        simp only [hd,if_true,aQ hsn,aQ hy,hsi,aQ (hi' ext),hx,Oe,ht,hb',Option.bind_some,Bool.false_eq_true,if_false,e1,a2,Int.toNat_natCast]
      ·rw [BQ (by rw [hsn,hb'])] at p4
       simp at p4;omega
      ·rcases p5 y hy' with h | h
       ·rcases List.mem_append.1 h with h | h
        ·exact .inl h
        ·right;rw [List.mem_singleton.1 h];omega
       ·exact .inr h
theorem EA {l:List aM} (hl:l.length≤1000):∀ (m i:Nat) (seen:List Bool) (q:List Int),i+m=l.length→i≤q.length→seen.length=l.length→cnt seen=q.length→(∀ y ∈ q,0≤y∧y<l.length) →
  ∃ seen' q',aH (lD l) (seen,q.drop i)=some seen'∧aH (dJ l) ((i:Int),seen,q)=some q'∧seen'.length=l.length∧cnt seen'=q'.length:=by
 intro m
 induction m with
 | zero =>
   intro i seen q him hiq hs hc hq
   have hcl:cnt seen≤seen.length:=List.countP_le_length
   obtain rfl:i=q.length:=by omega
   refine ⟨seen,q,fQ ?_,fQ ?_,hs,hc⟩
   ·simp [lD]
   ·simp [dJ]
 | succ m ih =>
   intro i seen q him hiq hs hc hq
   have hcl:cnt seen≤seen.length:=List.countP_le_length
   by_cases hlt:i<q.length
   ·have hx:q[i]?=some q[i]:=by simp
    have hxm:=hq q[i] (List.getElem_mem hlt)
    have ed:q.drop i=q[i]::q.drop (i+1):=List.drop_eq_getElem_cons hlt
    have hr:idx l q[i]=some (l[q[i].toNat]'(by omega)):=by
     unfold idx;rw [if_pos hxm.1];simp [show q[i].toNat<l.length by omega]
    obtain ⟨seen',ext',p1,p2,p3,p4,p5⟩:=DZ hl hr (b0:=(true,())) l.length 0 seen (q.drop (i+1)) q [] ((i:Int),seen,q) (by omega) hs hx rfl (by simp;omega) (by simp;omega)
    simp only [List.append_nil,List.length_nil,Nat.add_zero] at p1 p2 p4
    obtain ⟨seen2,q2,r1,r2,r3⟩:=ih (i+1) seen' (q++ext') (by omega) (by simp;omega) p3 (by simp;omega) (fun y hy=>by
     rcases List.mem_append.1 hy with h | h
     ·exact hq y h
     ·rcases p5 y h with h | h
      ·exact absurd h (by simp)
      ·exact h)
    refine ⟨seen2,q2, ?_, ?_,r3⟩
    ·rw [jS (s':=(seen',(q++ext').drop (i+1)))]
     ·exact r1
     ·unfold lD
      have e0:idx (q.drop i) 0=some q[i]:=by rw [ed];rfl
      have e2:List.drop 1 (q.drop i)=q.drop (i+1):=by rw [List.drop_drop]
      have h1:decide (((q.drop i).length:Int)>0)=true:=by rw [ed];simp;omega
      have h2:decide (1≤(q.drop i).length)=true:=by rw [decide_eq_true_eq,List.length_drop];omega
      simp only [h1,if_true,e0,Option.bind_some,h2,e2]
      have p1':aH (jJ l q[i]) (0,seen,List.drop (i+1) q)=some (seen',List.drop (i+1) q++ext'):=p1
      rw [p1',List.drop_append_of_le_length (by omega)]
      rfl
    ·rw [jS (s':=(((i+1:Nat):Int),seen',q++ext'))]
     ·exact r2
     ·unfold dJ
      have h1:decide ((i:Int)<(q.length:Int))=true:=by simp;omega
      have p2':aH (cM l ((i:Int),seen,q)) (0,seen,q)=some (seen',q++ext'):=p2
      simp only [h1,if_true,p2',Option.bind_some]
      rw [aP (by omega) (by omega)]
      rfl
   ·obtain rfl:i=q.length:=by omega
    refine ⟨seen,q,fQ ?_,fQ ?_,hs,hc⟩
    ·simp [lD]
    ·simp [dJ]
theorem HE (l:List Bool) (hl:l.length≤1000):aH (nR l) 0=some (if l.any (fun x=>!x) then .inl () else .inr ()):=by
 refine eC l (nR l) (fun k=>(k:Int)) _ _ _ rfl (fun k x hx=>?_) ?_
 ·have hk:=(List.getElem?_eq_some_iff.1 hx).1
  unfold nR
  have h1:decide ((k:Int)<(l.length:Int))=true:=by simp;omega
  simp only [h1,if_true,aQ hx,Option.bind_some]
  rw [aP (a:=(k:Int)) (by omega) (by omega)]
  rfl
 ·simp [nR]
theorem Qj {l:List aM} (hl:l.length≤1000) (h0:0<l.length):∃ b,vO l=some b∧nA l=some b:=by
 have hmk:mk (l.length:Int) false=some (List.replicate l.length false):=by
  unfold mk;rw [if_pos (by unfold LIM;omega)];simp
 have hf:(List.replicate l.length false)[0]?=some false:=by simp [h0]
 have hc:cnt ((List.replicate l.length false).set 0 true)=1:=by
  rw [BQ hf];unfold cnt;simp [List.countP_replicate]
 obtain ⟨seen',q',p1,p2,p3,p4⟩:=EA hl l.length 0 ((List.replicate l.length false).set 0 true) [0] (by omega) (by simp) (by simp) (by rw [hc];rfl) (by simp;omega)
 unfold vO nA
 have i0:idx (List.replicate l.length false) 0=some false:=aQ (k:=0) hf
 have p1':aH (lD l) ((List.replicate l.length false).set (Int.toNat 0) true,[0])=some seen':=p1
 have p2':aH (dJ l) (0,(List.replicate l.length false).set (Int.toNat 0) true,[0])=some q':=p2
 simp only [hmk,Option.bind_some,i0,p1',p2',HE seen' (by omega)]
 refine ⟨_, ?_,rfl⟩
 by_cases ha:seen'.any (fun x=>!x)=true
 ·have:¬ (q'.length:Int)=(l.length:Int):=by
   intro h
   obtain ⟨x,hx,hn⟩:=List.any_eq_true.1 ha
   have:=LR (l:=seen') (by omega) x hx
   subst this;simp at hn
  simp [ha,this]
 ·have:(q'.length:Int)=(l.length:Int):=by
   rw [← p4,← p3]
   congr 1
   unfold cnt
   rw [List.countP_eq_length]
   intro x hx
   by_cases h:x=true
   ·simp [h]
   ·exact absurd (List.any_eq_true.2 ⟨x,hx,by simpa using h⟩) ha
  rw [this]
  simp only [ha,Bool.false_eq_true,if_false,beq_self_eq_true,Option.bind_some]
def xN (h x:aM):Bool:=if h.X>x.X then (if h.Y>x.Y then (if aJ h.X h.W<aJ x.X x.W then decide (aJ h.Y h.H<aJ x.Y x.H) else false) else false) else false
theorem Yz (h:aM) (l:List aM) (hl:l.length≤1000):tX h l=some (l.any (xN h)):=by
 have key:aH (pP h l) 0=some (if l.any (xN h) then .inl () else .inr ()):=by
  refine eC l (pP h l) (fun k=>(k:Int)) _ _ _ rfl (fun k x hx=>?_) ?_
  ·have hk:=(List.getElem?_eq_some_iff.1 hx).1
   unfold pP
   have h1:decide ((k:Int)<(l.length:Int))=true:=by simp;omega
   simp only [h1,if_true,aQ hx,Option.bind_some]
   rw [aP (a:=(k:Int)) (by omega) (by omega)]
   unfold xN
   by_cases q1:h.X>x.X
   ·by_cases q2:h.Y>x.Y
    ·by_cases q3:aJ h.X h.W<aJ x.X x.W
     ·by_cases q4:aJ h.Y h.H<aJ x.Y x.H <;> simp [q1,q2,q3,q4]
     ·simp [q1,q2,q3]
    ·simp [q1,q2]
   ·simp [q1]
  ·simp [pP]
 unfold tX
 rw [key]
 cases l.any (xN h) <;> rfl
theorem LX (h:aM) (l:List aM) (hl:l.length≤1000):tB h l=some (l.any (xN h)):=by
 have key:aH (iW h l) 0=some (if l.any (xN h) then .inl () else .inr ()):=by
  refine eC l (iW h l) (fun k=>(k:Int)) _ _ _ rfl (fun k x hx=>?_) ?_
  ·have hk:=(List.getElem?_eq_some_iff.1 hx).1
   unfold iW
   have h1:decide ((k:Int)<(l.length:Int))=true:=by simp;omega
   simp only [h1,if_true,aQ hx,Option.bind_some]
   rw [aP (a:=(k:Int)) (by omega) (by omega)]
   unfold xN
   by_cases q1:h.X>x.X
   ·by_cases q2:h.Y>x.Y
    ·by_cases q3:aJ h.X h.W<aJ x.X x.W
     ·by_cases q4:aJ h.Y h.H<aJ x.Y x.H <;> simp [q1,q2,q3,q4]
     ·simp [q1,q2,q3]
    ·simp [q1,q2]
   ·simp [q1]
  ·simp [iW]
 unfold tB
 rw [key]
 cases l.any (xN h) <;> rfl
def Kj (x0:aW) (l:List aM) (k:Nat):Bool:=match l[k]? with
 | some x=>!(x0.aD.any (xN x)) || (decide ((k:Int)<(x0.fD.length:Int))&&((x.W==1) || (x.H==1)))
 | none=>false
theorem EP (x0:aW) (l:List aM) (hl:l.length≤1000) (hr:x0.aD.length≤1000):aH (sU x0 l) 0=some (if (List.range l.length).any (Kj x0 l) then .inl () else .inr ()):=by
 refine rA l.length (sU x0 l) (fun k=>(k:Int)) _ _ _ rfl (fun k hk=>?_) ?_
 ·have hx:l[k]?=some l[k]:=by simp
  unfold sU Kj
  have h1:decide ((k:Int)<(l.length:Int))=true:=by simp;omega
  simp only [h1,if_true,aQ hx,hx,Option.bind_some,Yz _ _ hr]
  rw [aP (a:=(k:Int)) (by omega) (by omega)]
  by_cases q1:(k:Int)<(x0.fD.length:Int)
  ·cases q2:(l[k].W==1)
   ·cases q3:(l[k].H==1)
    ·cases x0.aD.any (xN l[k]) <;> simp [q1,q2,q3]
    ·cases x0.aD.any (xN l[k]) <;> simp [q1,q2,q3]
   ·cases x0.aD.any (xN l[k]) <;> simp [q1,q2]
  ·cases x0.aD.any (xN l[k]) <;> simp [q1]
 ·simp [sU]
theorem AX (x0:aW) (l:List aM) (hl:l.length≤1000) (hr:x0.aD.length≤1000):aH (dV x0 l) 0=some (if (List.range l.length).any (Kj x0 l) then .inl () else .inr ()):=by
 refine rA l.length (dV x0 l) (fun k=>(k:Int)) _ _ _ rfl (fun k hk=>?_) ?_
 ·have hx:l[k]?=some l[k]:=by simp
  unfold dV Kj
  have h1:decide ((k:Int)<(l.length:Int))=true:=by simp;omega
  simp only [h1,if_true,aQ hx,hx,Option.bind_some,LX _ _ hr]
  rw [aP (a:=(k:Int)) (by omega) (by omega)]
  by_cases q1:(k:Int)<(x0.fD.length:Int)
  ·cases q2:(l[k].W==1)
   ·cases q3:(l[k].H==1)
    ·cases x0.aD.any (xN l[k]) <;> simp [q1,q2,q3]
    ·cases x0.aD.any (xN l[k]) <;> simp [q1,q2,q3]
   ·cases x0.aD.any (xN l[k]) <;> simp [q1,q2]
  ·cases x0.aD.any (xN l[k]) <;> simp [q1]
 ·simp [dV]
def Iz (p:aM→aM→Bool) (l:List aM) (k:Nat):Bool:=match l[k]? with
 | some x=>(l.take k).any (p x)
 | none=>false
def Sl (x y:aM):Bool:=Xe x y==0
def lE (x y:aM):Bool:=decide (ovR x y)
theorem Sf {l:List aM} {k:Nat} (h:k≤l.length):slc l 0 (k:Int)=some (l.take k):=by
 unfold slc;rw [if_pos (by omega)];simp
theorem in2 (x:aM) (l:List aM) (hl:l.length≤1000):aH (sV x l) 0=some (if l.any (Sl x) then .inl () else .inr ()):=by
 refine eC l (sV x l) (fun k=>(k:Int)) _ _ _ rfl (fun k y hy=>?_) ?_
 ·have hk:=(List.getElem?_eq_some_iff.1 hy).1
  unfold sV
  have h1:decide ((k:Int)<(l.length:Int))=true:=by simp;omega
  simp only [h1,if_true,aQ hy,Option.bind_some,Wl]
  rw [aP (a:=(k:Int)) (by omega) (by omega)]
  rfl
 ·simp [sV]
theorem in3 (l:List aM) (hl:l.length≤1000):aH (sW l) 0=some (if (List.range l.length).any (Iz Sl l) then .inl () else .inr ()):=by
 refine rA l.length (sW l) (fun k=>(k:Int)) _ _ _ rfl (fun k hk=>?_) ?_
 ·have hx:l[k]?=some l[k]:=by simp
  unfold sW Iz
  have h1:decide ((k:Int)<(l.length:Int))=true:=by simp;omega
  simp only [h1,if_true,aQ hx,hx,Option.bind_some,Sf (Nat.le_of_lt hk),in2 _ (l.take k) (by simp;omega)]
  rw [aP (a:=(k:Int)) (by omega) (by omega)]
  cases (l.take k).any (Sl l[k]) <;> simp
 ·simp [sW]
theorem RY (l:List aM) (hl:l.length≤1000):aH (dY l) 0=some (if (List.range l.length).any (Iz Sl l) then .inl () else .inr ()):=by
 have inner:∀ (k:Nat) (hk:k<l.length),aH (dW l (k:Int)) 0=some (if (l.take k).any (Sl l[k]) then .inl () else .inr ()):=by
  intro k hk
  have hx:l[k]?=some l[k]:=by simp
  refine eC (l.take k) (dW l (k:Int)) (fun k=>(k:Int)) _ _ _ rfl (fun j y hy=>?_) ?_
  ·have hj:=(List.getElem?_eq_some_iff.1 hy).1
   rw [List.length_take] at hj
   have hy':l[j]?=some y:=by rw [List.getElem?_take] at hy;simpa [show j<k by omega] using hy
   unfold dW
   have h1:decide ((j:Int)<(k:Int))=true:=by simp;omega
   simp only [h1,if_true,aQ hx,aQ hy',Option.bind_some,GD]
   rw [aP (a:=(j:Int)) (by omega) (by omega)]
   rfl
  ·have:(l.take k).length=k:=by simp;omega
   simp [dW,this]
 refine rA l.length (dY l) (fun k=>(k:Int)) _ _ _ rfl (fun k hk=>?_) ?_
 ·have hx:l[k]?=some l[k]:=by simp
  unfold dY Iz
  have h1:decide ((k:Int)<(l.length:Int))=true:=by simp;omega
  simp only [h1,if_true,hx,Option.bind_some,inner k hk]
  rw [aP (a:=(k:Int)) (by omega) (by omega)]
  cases (l.take k).any (Sl l[k]) <;> simp
 ·simp [dY]
theorem ov2 (x:aM) (l:List aM) (hl:l.length≤1000):aH (jY x l) 0=some (if l.any (lE x) then .inl () else .inr ()):=by
 refine eC l (jY x l) (fun k=>(k:Int)) _ _ _ rfl (fun k y hy=>?_) ?_
 ·have hk:=(List.getElem?_eq_some_iff.1 hy).1
  unfold jY
  have h1:decide ((k:Int)<(l.length:Int))=true:=by simp;omega
  simp only [h1,if_true,aQ hy,Option.bind_some,Jf]
  rw [aP (a:=(k:Int)) (by omega) (by omega)]
  rfl
 ·simp [jY]
theorem ov3 (x0:aW) (hl:x0.aD.length≤1000):aH (jZ x0) 0=some (if (List.range x0.aD.length).any (Iz lE x0.aD) then .inl () else .inr ()):=by
 refine rA x0.aD.length (jZ x0) (fun k=>(k:Int)) _ _ _ rfl (fun k hk=>?_) ?_
 ·have hx:x0.aD[k]?=some x0.aD[k]:=by simp
  unfold jZ Iz
  have h1:decide ((k:Int)<(x0.aD.length:Int))=true:=by simp;omega
  simp only [h1,if_true,aQ hx,hx,Option.bind_some,Sf (Nat.le_of_lt hk),ov2 _ (x0.aD.take k) (by simp;omega)]
  rw [aP (a:=(k:Int)) (by omega) (by omega)]
  cases (x0.aD.take k).any (lE x0.aD[k]) <;> simp
 ·simp [jZ]
theorem Ke (x:aM) (l:List aM) (hl:l.length≤1000):iE x l=some (l.any (lE x)):=by
 have key:aH (iH x l) 0=some (if l.any (lE x) then .inl () else .inr ()):=by
  refine eC l (iH x l) (fun k=>(k:Int)) _ _ _ rfl (fun k y hy=>?_) ?_
  ·have hk:=(List.getElem?_eq_some_iff.1 hy).1
   unfold iH
   have h1:decide ((k:Int)<(l.length:Int))=true:=by simp;omega
   simp only [h1,if_true,aQ hy,Option.bind_some,Wn]
   rw [aP (a:=(k:Int)) (by omega) (by omega)]
   rfl
  ·simp [iH]
 unfold iE
 rw [key]
 cases l.any (lE x) <;> rfl
theorem RZ (x0:aW) (hl:x0.aD.length≤1000):aH (dU x0) 0=some (if (List.range x0.aD.length).any (Iz lE x0.aD) then .inl () else .inr ()):=by
 refine rA x0.aD.length (dU x0) (fun k=>(k:Int)) _ _ _ rfl (fun k hk=>?_) ?_
 ·have hx:x0.aD[k]?=some x0.aD[k]:=by simp
  unfold dU Iz
  have h1:decide ((k:Int)<(x0.aD.length:Int))=true:=by simp;omega
  simp only [h1,if_true,aQ hx,hx,Option.bind_some,Sf (Nat.le_of_lt hk),Ke _ (x0.aD.take k) (by simp;omega)]
  rw [aP (a:=(k:Int)) (by omega) (by omega)]
  rfl
 ·simp [dU]
def Lp (l:List aM) (a:Int):Int:=l.foldl (fun s r=>min s r.X) a
def Lq (l:List aM) (a:Int):Int:=l.foldl (fun s r=>min s r.Y) a
theorem Yc (x0:aW) (hl:x0.aD.length≤1000) (a b:Int):aH (cJ x0) (a,b,0)=some (Lp x0.aD a,Lq x0.aD b):=by
 refine Ie x0.aD (cJ x0) (fun k=>(Lp (x0.aD.take k) a,Lq (x0.aD.take k) b,(k:Int))) _ (fun k r hr=>?_) ?_
 ·have hk:=(List.getElem?_eq_some_iff.1 hr).1
  unfold cJ
  have h1:decide ((k:Int)<(x0.aD.length:Int))=true:=by simp;omega
  have e:x0.aD.take (k+1)=x0.aD.take k++[r]:=by rw [List.take_add_one,hr];rfl
  simp only [h1,if_true,aQ hr,Option.bind_some,e,Bz]
  rw [aP (a:=(k:Int)) (by omega) (by omega)]
  unfold Lp Lq
  rw [List.foldl_append,List.foldl_append]
  rfl
 ·simp [cJ]
theorem AD (x0:aW):oK x0.aD=cJ x0:=by
 funext s
 unfold oK cJ
 cases idx x0.aD s.2.2 <;> rfl
theorem JD (x0:aW) (hl:x0.aD.length≤1000) {r:aM} (hr:x0.aD[0]?=some r):rK x0.aD=some (Lp x0.aD r.X,Lq x0.aD r.Y):=by
 unfold rK
 have i0:idx x0.aD 0=some r:=aQ (k:=0) hr
 have hk:=(List.getElem?_eq_some_iff.1 hr).1
 have h1:aH (cJ x0) (r.X,r.Y,0)=aH (cJ x0) (r.X,r.Y,1):=by
  refine jS ?_
  unfold cJ
  have hd:decide ((0:Int)<(x0.aD.length:Int))=true:=by simp;omega
  simp only [hd,if_true,i0,Option.bind_some,Bz,Int.min_self]
  rfl
 rw [i0,AD]
 simp only [Option.bind_some]
 rw [← h1,Yc x0 hl]
 rfl
theorem Jg (x:aW):∃ b,dZ x=some b∧dB x=some b:=by
 obtain ⟨a,ha,ha'⟩:=rB x.Name
 obtain ⟨b,hb,hb'⟩:=rB x.cA
 unfold dZ dB
 rw [ha,hb,Za ha' hb']
 cases a with
 | false=>exact ⟨2,rfl,rfl⟩
 | true =>
 cases b with
 | false=>exact ⟨2,rfl,rfl⟩
 | true =>
 simp only [Option.bind_some,Ha,Bool.and_self,if_true,Bool.not_true,Bool.false_eq_true,if_false]
 by_cases h1:(1≤x.iS∧x.iS≤60)∧0≤x.iT∧x.iT≤2
 ·simp only [h1,and_self,decide_true,if_true,Option.bind_some,Bool.not_true,Bool.false_eq_true,if_false,bne_self_eq_false]
  by_cases l1:(x.aD.length:Int)>12
  ·exact ⟨4,by simp [l1],by simp [l1]⟩
  by_cases l2:(x.fD.length:Int)>12
  ·exact ⟨4,by simp [l2],by simp [l2]⟩
  by_cases l3:(x.Forms.length:Int)>12
  ·exact ⟨4,by simp [l3],by simp [l3]⟩
  have k1:x.aD.length≤12:=by omega
  have k2:x.fD.length≤12:=by omega
  have k3:x.Forms.length≤12:=by omega
  simp only [l1,l2,l3,decide_false,Bool.false_eq_true,if_false,Option.bind_some]
  by_cases h0:(x.aD.length:Int)=0
  ·exact ⟨1,by simp [h0],by simp [h0]⟩
  have h0':((x.aD.length:Int)==0)=false:=by rw [beq_eq_false_iff_ne];exact h0
  simp only [h0',Bool.false_eq_true,if_false,xX x.aD (by omega),xX x.fD (by omega),xX x.Forms (by omega),zE x.aD (by omega),zE x.fD (by omega),zE x.Forms (by omega),Option.bind_some]
  cases (x.aD.any fun x=>!decide (vR x)) with
  | true=>exact ⟨1,rfl,rfl⟩
  | false =>
  cases (x.fD.any fun x=>!decide (vR x)) with
  | true=>exact ⟨1,rfl,rfl⟩
  | false =>
  cases (x.Forms.any fun x=>!decide (vR x)) with
  | true=>exact ⟨1,rfl,rfl⟩
  | false =>
  have hr:x.aD[0]?=some (x.aD[0]'(by omega)):=by simp [show 0<x.aD.length by omega]
  have i0:idx x.aD 0=some (x.aD[0]'(by omega)):=aQ (k:=0) hr
  obtain ⟨cn,c1,c2⟩:=Qj (l:=x.aD) (by omega) (by omega)
  have ap1:app [] x.fD=some x.fD:=by rw [jE (by unfold LIM;simp;omega)];rfl
  have ap2:app x.fD x.Forms=some (x.fD++x.Forms):=jE (by unfold LIM;omega)
  have k4:(x.fD++x.Forms).length≤1000:=by simp;omega
  simp only [Bool.not_false,Bool.not_true,if_true,Bool.false_eq_true,if_false,Option.bind_some,i0,Yc x (by omega),JD x (by omega) hr,ov3 x (by omega),RZ x (by omega),c1,c2]
  generalize x.aD[0]'(by omega)=r0
  by_cases m1:Lp x.aD r0.X=0
  ·by_cases m2:Lq x.aD r0.Y=0
   ·simp only [m1,m2,bne_self_eq_false,Bool.false_eq_true,if_false,Option.bind_some]
    cases (List.range x.aD.length).any (Iz lE x.aD) with
    | true=>exact ⟨7,rfl,rfl⟩
    | false =>
    cases cn with
    | false=>exact ⟨6,rfl,rfl⟩
    | true =>
    simp only [Bool.not_true,Bool.false_eq_true,if_false,Option.bind_some]
    unfold Gz
    simp only [ap1,ap2,Option.bind_some,EP x _ k4 (show x.aD.length≤1000 by omega),AX x _ k4 (show x.aD.length≤1000 by omega),in3 _ k4,RY _ k4]
    cases (List.range (x.fD++x.Forms).length).any (Kj x (x.fD++x.Forms)) with
    | true=>exact ⟨13,rfl,rfl⟩
    | false =>
    cases (List.range (x.fD++x.Forms).length).any (Iz Sl (x.fD++x.Forms)) with
    | true=>exact ⟨7,rfl,rfl⟩
    | false=>exact ⟨0,rfl,rfl⟩
   ·have m2':(Lq x.aD r0.Y != 0)=true:=by rw [bne_iff_ne];exact m2
    simp only [m1,m2',bne_self_eq_false,Bool.false_eq_true,if_false,Option.bind_some,if_true]
    exact ⟨1,rfl,rfl⟩
  ·have m1':(Lp x.aD r0.X != 0)=true:=by rw [bne_iff_ne];exact m1
   simp only [m1',Option.bind_some,if_true]
   exact ⟨1,rfl,rfl⟩
 ·exact ⟨1,by simp only [h1,decide_false];rfl,by simp only [h1,if_false];rfl⟩
end Go.SM
end
