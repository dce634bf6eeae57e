/- Laws. -/
import Derived.Test.YtgfjbgoehhnaeaaGreatPl1
import Derived.Lib.IndexMore
set_option linter.unusedVariables false
set_option linter.unusedSimpArgs false
set_option linter.unusedSectionVars false
noncomputable section
namespace Go.SM
open Go Go.VI
def Fe:(Int×Int)→Option (Int):=fun j3 =>
 (Kg (ByteArray.mk #[0,1,2,2,3,3,3,3,4,4,4,4,4,4,4,4,5,5,5,5,5,5,5,5,5,5,5,5,5,5,5,5,6,6,6,6,6,6,6,6,6,6,6,6,6,6,6,6,6,6,6,6,6,6,6,6,6,6,6,6,6,6,6,6,7,7,7,7,7,7,7,7,7,7,7,7,7,7,7,7,7,7,7,7,7,7,7,7,7,7,7,7,7,7,7,7,7,7,7,7,7,7,7,7,7,7,7,7,7,7,7,7,7,7,7,7,7,7,7,7,7,7,7,7,7,7,7,7,8,8,8,8,8,8,8,8,8,8,8,8,8,8,8,8,8,8,8,8,8,8,8,8,8,8,8,8,8,8,8,8,8,8,8,8,8,8,8,8,8,8,8,8,8,8,8,8,8,8,8,8,8,8,8,8,8,8,8,8,8,8,8,8,8,8,8,8,8,8,8,8,8,8,8,8,8,8,8,8,8,8,8,8,8,8,8,8,8,8,8,8,8,8,8,8,8,8,8,8,8,8,8,8,8,8,8,8,8,8,8,8,8,8,8,8,8,8,8,8,8,8,8,8,8,8,8,8]) (IntKind.wrap .u8 j3.1)).bind fun x5=>some (aL j3.2 (IntKind.wrap .i64 x5))
def Ff:(Int×Int)→Option (Int):=fun j2 =>
 if (decide (j2.1 ≥ 256)) then (Fe ((Int.fdiv j2.1 (2^(min (Int.toNat 8) 64))),(aL j2.2 8))) else (Fe (j2.1,j2.2))
def Fg:(Int×Int)→Option (Int):=fun j1 =>
 if (decide (j1.1 ≥ 65536)) then (Ff ((Int.fdiv j1.1 (2^(min (Int.toNat 16) 64))),(aL j1.2 16))) else (Ff (j1.1,j1.2))
def Sk (x0:Int):Option (Int):=
 if (decide (x0 ≥ 4294967296)) then (Fg ((Int.fdiv x0 (2^(min (Int.toNat 32) 64))),32)) else (Fg (x0,0))
def Sj (x0:Int):Option (Int):=
 (Sk x0).bind fun r2=>some r2
def Af (x0:Int):Option (Bool):=
 some (x0 != x0)
def bZ (x0:Int) (y:Int):Option (Int):=
 (Af x0).bind fun r2=>(Af y).bind fun r4=>if r2 then (if r4 then (some 0) else (some (-1))) else (if r4 then (some 1) else (if (decide (x0<y)) then (some (-1)) else (if (decide (x0>y)) then (some 1) else (some 0))))
def oQ (a:Int):Int×(List Int)→Option (Int×(List Int) ⊕ (List Int)):=fun a0 =>
 (if (decide (a0.1>a)) then ((idx a0.2 a0.1).bind fun a4=>(idx a0.2 (aJ a0.1 1)).bind fun a5=>(bZ a4 a5).bind fun a3=>some (decide (a3<0))) else (some false)).bind fun a2=>if a2 then ((idx a0.2 (aJ a0.1 1)).bind fun a1=>(idx a0.2 a0.1).bind fun a6=>(idx a0.2 a0.1).bind fun a7=>(idx (List.set a0.2 (Int.toNat a0.1) a1) (aJ a0.1 1)).bind fun a8=>some (.inl ((aJ a0.1 1),(List.set (List.set a0.2 (Int.toNat a0.1) a1) (Int.toNat (aJ a0.1 1)) a6)))) else (some (.inr a0.2))
def oT (a:Int) (b:Int):Int×(List Int)→Option (Int×(List Int) ⊕ (List Int)):=fun a0 =>
 if (decide (a0.1<b)) then ((aK (oQ a) (a0.1,a0.2)).bind fun a1=>some (.inl ((aL a0.1 1),a1))) else (some (.inr a0.2))
def iU (a:Int) (b:Int) (h0:(List Int)):Option ((List Int)):=
 (aK (oT a b) ((aL a 1),h0)).bind fun a0=>some a0
def fC (first:Int) (a0:Int×(List Int)):Int→Option (Int×(List Int) ⊕ ((List Int) ⊕ (List Int))):=fun a1 =>
 (idx a0.2 (aL first a0.1)).bind fun a4=>(idx a0.2 (aL first a1)).bind fun a5=>(bZ a4 a5).bind fun a3=>if (!(decide (a3<0))) then (some (.inr (.inr a0.2))) else ((idx a0.2 (aL first a1)).bind fun a2=>(idx a0.2 (aL first a0.1)).bind fun a6=>(idx a0.2 (aL first a0.1)).bind fun a7=>(idx (List.set a0.2 (Int.toNat (aL first a0.1)) a2) (aL first a1)).bind fun a8=>some (.inl (a1,(List.set (List.set a0.2 (Int.toNat (aL first a0.1)) a2) (Int.toNat (aL first a1)) a6))))
def sE (hi:Int) (first:Int):Int×(List Int)→Option (Int×(List Int) ⊕ ((List Int) ⊕ (List Int))):=fun a0 =>
 if (decide ((aL (lB 2 a0.1) 1) ≥ hi)) then (some (.inr (.inl a0.2))) else ((if (decide ((aL (aL (lB 2 a0.1) 1) 1)<hi)) then ((idx a0.2 (aL first (aL (lB 2 a0.1) 1))).bind fun a3=>(idx a0.2 (aL (aL first (aL (lB 2 a0.1) 1)) 1)).bind fun a4=>(bZ a3 a4).bind fun a2=>some (decide (a2<0))) else (some false)).bind fun a1=>if a1 then (fC first a0 (aL (aL (lB 2 a0.1) 1) 1)) else (fC first a0 (aL (lB 2 a0.1) 1)))
def fV (lo:Int) (hi:Int) (first:Int) (h0:(List Int)):Option ((List Int)):=
 (aK (sE hi first) (lo,h0)).bind fun a2=>match a2 with | .inl a0=>some a0 | .inr a1=>some a1
def sA (a:Int) (b:Int):Int×(List Int)→Option (Int×(List Int) ⊕ (List Int)):=fun a0 =>
 if (decide (a0.1 ≥ 0)) then ((fV a0.1 (aJ b a) a a0.2).bind fun a1=>some (.inl ((aJ a0.1 1),a1))) else (some (.inr a0.2))
def sC (a:Int):Int×(List Int)→Option (Int×(List Int) ⊕ (List Int)):=fun a0 =>
 if (decide (a0.1 ≥ 0)) then ((idx a0.2 (aL a a0.1)).bind fun a1=>(idx a0.2 a).bind fun a3=>(idx a0.2 a).bind fun a4=>(idx (List.set a0.2 (Int.toNat a) a1) (aL a a0.1)).bind fun a5=>(fV 0 a0.1 a (List.set (List.set a0.2 (Int.toNat a) a1) (Int.toNat (aL a a0.1)) a3)).bind fun a2=>some (.inl ((aJ a0.1 1),a2))) else (some (.inr a0.2))
def kH (a:Int) (b:Int) (h0:(List Int)):Option ((List Int)):=
 (aK (sA a b) ((rO (aJ (aJ b a) 1) 2),h0)).bind fun a1=>(aK (sC a) ((aJ (aJ b a) 1),a1)).bind fun a0=>some a0
def yP (length:Int):Option (Int):=
 (Sj (IntKind.wrap .u64 length)).bind fun r2=>if (decide (0≤r2)) then (some (IntKind.wrap .u64 (1*2^(min (Int.toNat r2) 64)))) else none
def Bi (h0_0:Int):Option (Int):=
 some (jP .u64 (jP .u64 (jP .u64 h0_0 (IntKind.wrap .u64 (h0_0*2^(min (Int.toNat 13) 64)))) (Int.fdiv (jP .u64 h0_0 (IntKind.wrap .u64 (h0_0*2^(min (Int.toNat 13) 64)))) (2^(min (Int.toNat 7) 64)))) (IntKind.wrap .u64 ((jP .u64 (jP .u64 h0_0 (IntKind.wrap .u64 (h0_0*2^(min (Int.toNat 13) 64)))) (Int.fdiv (jP .u64 h0_0 (IntKind.wrap .u64 (h0_0*2^(min (Int.toNat 13) 64)))) (2^(min (Int.toNat 7) 64))))*2^(min (Int.toNat 17) 64))))
def eE (a:Int) (a0:Int×Int×(List Int)):Int→Option (Int×Int×(List Int) ⊕ (List Int)):=fun a1 =>
 (idx a0.2.2 (aL a a1)).bind fun a2=>(idx a0.2.2 a0.1).bind fun a3=>(idx a0.2.2 a0.1).bind fun a4=>(idx (List.set a0.2.2 (Int.toNat a0.1) a2) (aL a a1)).bind fun a5=>some (.inl ((aL a0.1 1),(jP .u64 (jP .u64 (jP .u64 a0.2.1 (IntKind.wrap .u64 (a0.2.1*2^(min (Int.toNat 13) 64)))) (Int.fdiv (jP .u64 a0.2.1 (IntKind.wrap .u64 (a0.2.1*2^(min (Int.toNat 13) 64)))) (2^(min (Int.toNat 7) 64)))) (IntKind.wrap .u64 ((jP .u64 (jP .u64 a0.2.1 (IntKind.wrap .u64 (a0.2.1*2^(min (Int.toNat 13) 64)))) (Int.fdiv (jP .u64 a0.2.1 (IntKind.wrap .u64 (a0.2.1*2^(min (Int.toNat 13) 64)))) (2^(min (Int.toNat 7) 64))))*2^(min (Int.toNat 17) 64)))),(List.set (List.set a0.2.2 (Int.toNat a0.1) a2) (Int.toNat (aL a a1)) a3)))
def oM (a:Int) (b:Int) (r2:Int):Int×Int×(List Int)→Option (Int×Int×(List Int) ⊕ (List Int)):=fun a0 =>
 if (decide (a0.1≤(aL (aL a (lB (rO (aJ b a) 4) 2)) 1))) then ((Bi a0.2.1).bind fun a1=>if (decide ((IntKind.wrap .i64 (Nv .u64 a1 (IntKind.wrap .u64 (r2-1)))) ≥ (aJ b a))) then (eE a a0 (aJ (IntKind.wrap .i64 (Nv .u64 a1 (IntKind.wrap .u64 (r2-1)))) (aJ b a))) else (eE a a0 (IntKind.wrap .i64 (Nv .u64 a1 (IntKind.wrap .u64 (r2-1)))))) else (some (.inr a0.2.2))
def iT (a:Int) (b:Int) (h0:(List Int)):Option ((List Int)):=
 if (decide ((aJ b a) ≥ 8)) then ((yP (aJ b a)).bind fun r2=>(aK (oM a b r2) ((aJ (aL a (lB (rO (aJ b a) 4) 2)) 1),(IntKind.wrap .u64 (aJ b a)),h0)).bind fun a0=>some a0) else (some h0)
def eH (data:(List Int)) (a:Int) (b:Int) (h0_0:Int):Option (Int×Int×Int):=
 (idx data b).bind fun a1=>(idx data a).bind fun a2=>(bZ a1 a2).bind fun a0=>if (decide (a0<0)) then (some (b,a,(aL h0_0 1))) else (some (a,b,h0_0))
def gE (data:(List Int)) (a:Int) (b:Int) (c:Int) (h0_0:Int):Option (Int×Int):=
 (eH data a b h0_0).bind fun r2=>(eH data r2.2.1 c r2.2.2).bind fun r4=>(eH data r2.1 r4.1 r4.2.2).bind fun r6=>some (r6.2.1,r6.2.2)
def cV (data:(List Int)) (a:Int) (h0_0:Int):Option (Int×Int):=
 (gE data (aJ a 1) a (aL a 1) h0_0).bind fun r2=>some (r2.1,r2.2)
def eL:(Int×Int)→Option (Int×Int):=fun a0 =>
 if (a0.2==0) then (some (a0.1,1)) else (if (a0.2==12) then (some (a0.1,2)) else (some (a0.1,0)))
def eM (data:(List Int)):(Int×Int×Int×Int)→Option (Int×Int):=fun a0 =>
 (gE data a0.1 a0.2.1 a0.2.2.1 a0.2.2.2).bind fun a1=>eL (a1.1,a1.2)
def jN (data:(List Int)) (a:Int) (b:Int):Option (Int×Int):=
 if (decide ((aJ b a) ≥ 8)) then (if (decide ((aJ b a) ≥ 50)) then ((cV data (aL a (lB (rO (aJ b a) 4) 1)) 0).bind fun a0=>(cV data (aL a (lB (rO (aJ b a) 4) 2)) a0.2).bind fun a1=>(cV data (aL a (lB (rO (aJ b a) 4) 3)) a1.2).bind fun a2=>eM data (a0.1,a1.1,a2.1,a2.2)) else (eM data ((aL a (lB (rO (aJ b a) 4) 1)),(aL a (lB (rO (aJ b a) 4) 2)),(aL a (lB (rO (aJ b a) 4) 3)),0))) else (eL ((aL a (lB (rO (aJ b a) 4) 2)),0))
def pJ:Int×Int×(List Int)→Option (Int×Int×(List Int) ⊕ (List Int)):=fun a0 =>
 if (decide (a0.1<a0.2.1)) then ((idx a0.2.2 a0.2.1).bind fun a1=>(idx a0.2.2 a0.1).bind fun a2=>(idx a0.2.2 a0.1).bind fun a3=>(idx (List.set a0.2.2 (Int.toNat a0.1) a1) a0.2.1).bind fun a4=>some (.inl ((aL a0.1 1),(aJ a0.2.1 1),(List.set (List.set a0.2.2 (Int.toNat a0.1) a1) (Int.toNat a0.2.1) a2)))) else (some (.inr a0.2.2))
def jB (a:Int) (b:Int) (h0:(List Int)):Option ((List Int)):=
 (aK (pJ) (a,(aJ b 1),h0)).bind fun a0=>some a0
def dB (a1:Int×Int×(List Int)):Int×(List Int)→Option (Int×Int×(List Int) ⊕ (Bool×(List Int) ⊕ (List Int))):=fun a0 =>
 some (.inl (a0.1,(aL a1.2.1 1),a0.2))
def lV (b:Int) (a1:Int×Int×(List Int)):Int→Option (Int ⊕ Int):=fun a0 =>
 (if (decide (a0<b)) then ((idx a1.2.2 a0).bind fun a4=>(idx a1.2.2 (aJ a0 1)).bind fun a5=>(bZ a4 a5).bind fun a3=>some (!(decide (a3<0)))) else (some false)).bind fun a2=>if a2 then (some (.inl (aL a0 1))) else (some (.inr a0))
def lW (b:Int):Int×(List Int)→Option (Int×(List Int) ⊕ (List Int)):=fun a0 =>
 if (decide (a0.1<b)) then ((idx a0.2 a0.1).bind fun a3=>(idx a0.2 (aJ a0.1 1)).bind fun a4=>(bZ a3 a4).bind fun a2=>if (!(decide (a2<0))) then (some (.inr a0.2)) else ((idx a0.2 (aJ a0.1 1)).bind fun a1=>(idx a0.2 a0.1).bind fun a5=>(idx a0.2 a0.1).bind fun a6=>(idx (List.set a0.2 (Int.toNat a0.1) a1) (aJ a0.1 1)).bind fun a7=>some (.inl ((aL a0.1 1),(List.set (List.set a0.2 (Int.toNat a0.1) a1) (Int.toNat (aJ a0.1 1)) a5))))) else (some (.inr a0.2))
def dD (b:Int) (a2:Int×Int×(List Int)) (a0:Int):(List Int)→Option (Int×Int×(List Int) ⊕ (Bool×(List Int) ⊕ (List Int))):=fun a1 =>
 if (decide ((aJ b a0) ≥ 2)) then ((aK (lW b) ((aL a0 1),a1)).bind fun a3=>dB a2 (a0,a3)) else (dB a2 (a0,a1))
def lX:Int×(List Int)→Option (Int×(List Int) ⊕ (List Int)):=fun a0 =>
 if (decide (a0.1 ≥ 1)) then ((idx a0.2 a0.1).bind fun a3=>(idx a0.2 (aJ a0.1 1)).bind fun a4=>(bZ a3 a4).bind fun a2=>if (!(decide (a2<0))) then (some (.inr a0.2)) else ((idx a0.2 (aJ a0.1 1)).bind fun a1=>(idx a0.2 a0.1).bind fun a5=>(idx a0.2 a0.1).bind fun a6=>(idx (List.set a0.2 (Int.toNat a0.1) a1) (aJ a0.1 1)).bind fun a7=>some (.inl ((aJ a0.1 1),(List.set (List.set a0.2 (Int.toNat a0.1) a1) (Int.toNat (aJ a0.1 1)) a5))))) else (some (.inr a0.2))
def lY (a:Int) (b:Int):Int×Int×(List Int)→Option (Int×Int×(List Int) ⊕ (Bool×(List Int) ⊕ (List Int))):=fun a0 =>
 if (decide (a0.2.1<5)) then ((aK (lV b a0) a0.1).bind fun a1=>if (a1==b) then (some (.inr (.inl (true,a0.2.2)))) else (if (decide ((aJ b a)<50)) then (some (.inr (.inl (false,a0.2.2)))) else ((idx a0.2.2 (aJ a1 1)).bind fun a2=>(idx a0.2.2 a1).bind fun a3=>(idx a0.2.2 a1).bind fun a5=>(idx (List.set a0.2.2 (Int.toNat a1) a2) (aJ a1 1)).bind fun a6=>if (decide ((aJ a1 a) ≥ 2)) then ((aK (lX) ((aJ a1 1),(List.set (List.set a0.2.2 (Int.toNat a1) a2) (Int.toNat (aJ a1 1)) a3))).bind fun a4=>dD b a0 a1 a4) else (dD b a0 a1 (List.set (List.set a0.2.2 (Int.toNat a1) a2) (Int.toNat (aJ a1 1)) a3))))) else (some (.inr (.inr a0.2.2)))
def gC (a:Int) (b:Int) (h0:(List Int)):Option (Bool×(List Int)):=
 (aK (lY a b) ((aL a 1),0,h0)).bind fun a2=>match a2 with | .inl a0=>some (a0.1,a0.2) | .inr a1=>some (false,a1)
def oD (a:Int) (a1:Int×Int×(List Int)):Int→Option (Int ⊕ Int):=fun a0 =>
 (if (decide (a0≤a1.2.1)) then ((idx a1.2.2 a).bind fun a4=>(idx a1.2.2 a0).bind fun a5=>(bZ a4 a5).bind fun a3=>some (!(decide (a3<0)))) else (some false)).bind fun a2=>if a2 then (some (.inl (aL a0 1))) else (some (.inr a0))
def oF (a:Int) (a1:Int×Int×(List Int)) (a4:Int):Int→Option (Int ⊕ Int):=fun a0 =>
 (if (decide (a4≤a0)) then ((idx a1.2.2 a).bind fun a5=>(idx a1.2.2 a0).bind fun a6=>(bZ a5 a6).bind fun a3=>some (decide (a3<0))) else (some false)).bind fun a2=>if a2 then (some (.inl (aJ a0 1))) else (some (.inr a0))
def oG (a:Int):Int×Int×(List Int)→Option (Int×Int×(List Int) ⊕ Int×(List Int)):=fun a0 =>
 (aK (oD a a0) a0.1).bind fun a1=>(aK (oF a a0 a1) a0.2.1).bind fun a2=>if (decide (a1>a2)) then (some (.inr (a1,a0.2.2))) else ((idx a0.2.2 a2).bind fun a3=>(idx a0.2.2 a1).bind fun a4=>(idx a0.2.2 a1).bind fun a5=>(idx (List.set a0.2.2 (Int.toNat a1) a3) a2).bind fun a6=>some (.inl ((aL a1 1),(aJ a2 1),(List.set (List.set a0.2.2 (Int.toNat a1) a3) (Int.toNat a2) a4))))
def iJ (a:Int) (b:Int) (pivot:Int) (h0:(List Int)):Option (Int×(List Int)):=
 (idx h0 pivot).bind fun x9=>(idx h0 a).bind fun a1=>(idx h0 a).bind fun a2=>(idx (List.set h0 (Int.toNat a) x9) pivot).bind fun a3=>(aK (oG a) ((aL a 1),(aJ b 1),(List.set (List.set h0 (Int.toNat a) x9) (Int.toNat pivot) a1))).bind fun a0=>some (a0.1,a0.2)
def rG (a:Int) (b:Int) (pivot:Int) (h0:(List Int)) (x9:Int) (a5:Int):Int→Option (Int ⊕ Int):=fun a0 =>
 (if (decide (a0≤(aJ b 1))) then ((idx (List.set (List.set h0 (Int.toNat a) x9) (Int.toNat pivot) a5) a0).bind fun a3=>(idx (List.set (List.set h0 (Int.toNat a) x9) (Int.toNat pivot) a5) a).bind fun a4=>(bZ a3 a4).bind fun a2=>some (decide (a2<0))) else (some false)).bind fun a1=>if a1 then (some (.inl (aL a0 1))) else (some (.inr a0))
def rH (a:Int) (pivot:Int) (h0:(List Int)) (x9:Int) (a6:Int) (a3:Int):Int→Option (Int ⊕ Int):=fun a0 =>
 (if (decide (a3≤a0)) then ((idx (List.set (List.set h0 (Int.toNat a) x9) (Int.toNat pivot) a6) a0).bind fun a4=>(idx (List.set (List.set h0 (Int.toNat a) x9) (Int.toNat pivot) a6) a).bind fun a5=>(bZ a4 a5).bind fun a2=>some (!(decide (a2<0)))) else (some false)).bind fun a1=>if a1 then (some (.inl (aJ a0 1))) else (some (.inr a0))
def rI (a:Int) (a1:Int×Int×(List Int)):Int→Option (Int ⊕ Int):=fun a0 =>
 (if (decide (a0≤a1.2.1)) then ((idx a1.2.2 a0).bind fun a4=>(idx a1.2.2 a).bind fun a5=>(bZ a4 a5).bind fun a3=>some (decide (a3<0))) else (some false)).bind fun a2=>if a2 then (some (.inl (aL a0 1))) else (some (.inr a0))
def rJ (a:Int) (a1:Int×Int×(List Int)) (a4:Int):Int→Option (Int ⊕ Int):=fun a0 =>
 (if (decide (a4≤a0)) then ((idx a1.2.2 a0).bind fun a5=>(idx a1.2.2 a).bind fun a6=>(bZ a5 a6).bind fun a3=>some (!(decide (a3<0)))) else (some false)).bind fun a2=>if a2 then (some (.inl (aJ a0 1))) else (some (.inr a0))
def rK (a:Int):Int×Int×(List Int)→Option (Int×Int×(List Int) ⊕ Int×(List Int)):=fun a0 =>
 (aK (rI a a0) a0.1).bind fun a1=>(aK (rJ a a0 a1) a0.2.1).bind fun a2=>if (decide (a1>a2)) then (some (.inr (a2,a0.2.2))) else ((idx a0.2.2 a2).bind fun a3=>(idx a0.2.2 a1).bind fun a4=>(idx a0.2.2 a1).bind fun a5=>(idx (List.set a0.2.2 (Int.toNat a1) a3) a2).bind fun a6=>some (.inl ((aL a1 1),(aJ a2 1),(List.set (List.set a0.2.2 (Int.toNat a1) a3) (Int.toNat a2) a4))))
def kE (a:Int) (b:Int) (pivot:Int) (h0:(List Int)):Option (Int×Bool×(List Int)):=
 (idx h0 pivot).bind fun x9=>(idx h0 a).bind fun a3=>(idx h0 a).bind fun b6=>(idx (List.set h0 (Int.toNat a) x9) pivot).bind fun b7=>(aK (rG a b pivot h0 x9 a3) (aL a 1)).bind fun a2=>(aK (rH a pivot h0 x9 a3 a2) (aJ b 1)).bind fun a1=>if (decide (a2>a1)) then ((idx (List.set (List.set h0 (Int.toNat a) x9) (Int.toNat pivot) a3) a).bind fun a6=>(idx (List.set (List.set h0 (Int.toNat a) x9) (Int.toNat pivot) a3) a1).bind fun a8=>(idx (List.set (List.set h0 (Int.toNat a) x9) (Int.toNat pivot) a3) a1).bind fun b2=>(idx (List.set (List.set (List.set h0 (Int.toNat a) x9) (Int.toNat pivot) a3) (Int.toNat a1) a6) a).bind fun b3=>some (a1,true,(List.set (List.set (List.set (List.set h0 (Int.toNat a) x9) (Int.toNat pivot) a3) (Int.toNat a1) a6) (Int.toNat a) a8))) else ((idx (List.set (List.set h0 (Int.toNat a) x9) (Int.toNat pivot) a3) a1).bind fun a7=>(idx (List.set (List.set h0 (Int.toNat a) x9) (Int.toNat pivot) a3) a2).bind fun a9=>(idx (List.set (List.set h0 (Int.toNat a) x9) (Int.toNat pivot) a3) a2).bind fun b4=>(idx (List.set (List.set (List.set h0 (Int.toNat a) x9) (Int.toNat pivot) a3) (Int.toNat a2) a7) a1).bind fun b5=>(aK (rK a) ((aL a2 1),(aJ a1 1),(List.set (List.set (List.set (List.set h0 (Int.toNat a) x9) (Int.toNat pivot) a3) (Int.toNat a2) a7) (Int.toNat a1) a9))).bind fun a0=>(idx a0.2 a).bind fun a4=>(idx a0.2 a0.1).bind fun a5=>(idx a0.2 a0.1).bind fun b0=>(idx (List.set a0.2 (Int.toNat a0.1) a4) a).bind fun b1=>some (a0.1,false,(List.set (List.set a0.2 (Int.toNat a0.1) a4) (Int.toNat a) a5)))
def fE (self:Int→Int→Int→(List Int)→Option ((List Int))) (a1:Int×Int×Int×Bool×Bool×(List Int)) (a3:Int×(List Int)) (a4:Int×Int×(List Int)):Bool×Bool×(List Int)→Option (Int×Int×Int×Bool×Bool×(List Int) ⊕ (List Int)):=fun a2 =>
 (if (decide (a1.1>0)) then ((idx a2.2.2 (aJ a1.1 1)).bind fun b0=>(idx a2.2.2 a4.1).bind fun b1=>(bZ b0 b1).bind fun a7=>some (!(decide (a7<0)))) else (some false)).bind fun a6=>if a6 then ((iJ a1.1 a1.2.1 a4.1 a2.2.2).bind fun a5=>some (.inl (a5.1,a1.2.1,a3.1,a2.1,a2.2.1,a5.2))) else ((kE a1.1 a1.2.1 a4.1 a2.2.2).bind fun a0=>if (decide ((aJ a0.1 a1.1)<(aJ a1.2.1 a0.1))) then ((self a1.1 a0.1 a3.1 a0.2.2).bind fun a8=>some (.inl ((aL a0.1 1),a1.2.1,a3.1,(decide ((aJ a0.1 a1.1) ≥ (rO (aJ a1.2.1 a1.1) 8))),a0.2.1,a8))) else ((self (aL a0.1 1) a1.2.1 a3.1 a0.2.2).bind fun a9=>some (.inl (a1.1,a0.1,a3.1,(decide ((aJ a1.2.1 a0.1) ≥ (rO (aJ a1.2.1 a1.1) 8))),a0.2.1,a9))))
def fF (self:Int→Int→Int→(List Int)→Option ((List Int))) (a3:Int×Int×Int×Bool×Bool×(List Int)) (a4:Int×(List Int)):Int×Int×(List Int)→Option (Int×Int×Int×Bool×Bool×(List Int) ⊕ (List Int)):=fun a0 =>
 (if a3.2.2.2.1 then (if a3.2.2.2.2.1 then (some (true,true,(a0.2.1==1))) else (some (true,false,false))) else (some (false,a3.2.2.2.2.1,false))).bind fun a1=>if a1.2.2 then ((gC a3.1 a3.2.1 a0.2.2).bind fun a2=>if a2.1 then (some (.inr a2.2)) else (fE self a3 a4 a0 (a1.1,a1.2.1,a2.2))) else (fE self a3 a4 a0 (a1.1,a1.2.1,a0.2.2))
def fG (self:Int→Int→Int→(List Int)→Option ((List Int))) (a2:Int×Int×Int×Bool×Bool×(List Int)):Int×(List Int)→Option (Int×Int×Int×Bool×Bool×(List Int) ⊕ (List Int)):=fun a0 =>
 (jN a0.2 a2.1 a2.2.1).bind fun a1=>if (a1.2==2) then ((jB a2.1 a2.2.1 a0.2).bind fun a3=>fF self a2 a0 ((aJ (aJ a2.2.1 1) (aJ a1.1 a2.1)),1,a3)) else (fF self a2 a0 (a1.1,a1.2,a0.2))
def sH (self:Int→Int→Int→(List Int)→Option ((List Int))):Int×Int×Int×Bool×Bool×(List Int)→Option (Int×Int×Int×Bool×Bool×(List Int) ⊕ (List Int)):=fun a0 =>
 if (decide ((aJ a0.2.1 a0.1)≤12)) then ((iU a0.1 a0.2.1 a0.2.2.2.2.2).bind fun a1=>some (.inr a1)) else (if (a0.2.2.1==0) then ((kH a0.1 a0.2.1 a0.2.2.2.2.2).bind fun a2=>some (.inr a2)) else (if (!a0.2.2.2.1) then ((iT a0.1 a0.2.1 a0.2.2.2.2.2).bind fun a3=>fG self a0 ((aJ a0.2.2.1 1),a3)) else (fG self a0 (a0.2.2.1,a0.2.2.2.2.2))))
def iZ (self:Int→Int→Int→(List Int)→Option ((List Int))) (a:Int) (b:Int) (limit:Int) (h0:(List Int)):Option ((List Int)):=
 (aK (sH self) (a,b,limit,true,true,h0)).bind fun a0=>some a0
def cF:Nat→Int→Int→Int→(List Int)→Option ((List Int))
 | 0=>fun _ _ _ _=>none
 | n+1=>iZ (cF n)
def kU (a:Int) (b:Int) (limit:Int) (h0:(List Int)):Option ((List Int)):=cF 1000 a b limit h0
def eG (h0:(List Int)):Option ((List Int)):=
 (Sj (IntKind.wrap .u64 (h0.length:Int))).bind fun r3=>(kU 0 (h0.length:Int) r3 h0).bind fun r4=>some r4
def pG (a1:Int×Int×(List Int)):Int×(List Int)→Option (Int×Int×(List Int) ⊕ Int×(List Int)):=fun a0 =>
 some (.inl (a0.1,(aL a1.2.1 1),a0.2))
def Dq (h380:(List Int)) (a1:Int):Int×Int×(List Int)→Option (Int×Int×(List Int) ⊕ Int×(List Int)):=fun a0 =>
 if (decide (a0.2.1<((Int.toNat (h380.length:Int)-Int.toNat a1:Nat):Int))) then ((idx (List.take (Int.toNat (h380.length:Int)-Int.toNat a1) (List.drop (Int.toNat a1) a0.2.2)) a0.2.1).bind fun a2=>(idx (List.take (Int.toNat (h380.length:Int)-Int.toNat a1) (List.drop (Int.toNat a1) a0.2.2)) (aJ a0.2.1 1)).bind fun a3=>if (a2 != a3) then ((idx (List.take (Int.toNat (h380.length:Int)-Int.toNat a1) (List.drop (Int.toNat a1) a0.2.2)) a0.2.1).bind fun a4=>(idx a0.2.2 a0.1).bind fun a5=>pG a0 ((aL a0.1 1),(List.set a0.2.2 (Int.toNat a0.1) a4))) else (pG a0 (a0.1,a0.2.2))) else (some (.inr (a0.1,a0.2.2)))
def Dr (h380:(List Int)):Int→Option (Int ⊕ ((List Int) ⊕ Unit)):=fun a1 =>
 if (decide (a1<(h380.length:Int))) then ((idx h380 a1).bind fun a3=>(idx h380 (aJ a1 1)).bind fun a4=>if (a3==a4) then (if (decide ((0:Int)≤a1)&&(decide (a1≤(h380.length:Int))&&decide ((h380.length:Int)≤(h380.length:Int)))) then ((aK (Dq h380 a1) (a1,1,h380)).bind fun a0=>if (decide ((0:Int)≤a0.1)&&(decide (a0.1≤(a0.2.length:Int))&&decide ((a0.2.length:Int)≤(a0.2.length:Int)))) then ((slc (cpy a0.2 (Int.toNat a0.1) (List.replicate (Int.toNat (a0.2.length:Int)-Int.toNat a0.1) 0)) 0 a0.1).bind fun a2=>some (.inr (.inl a2))) else none) else none) else (some (.inl (aL a1 1)))) else (some (.inr (.inr (()))))
def sW (h380:(List Int)):Option ((List Int)):=
 if (decide ((h380.length:Int)<2)) then (some h380) else ((aK (Dr h380) 1).bind fun a1=>match a1 with | .inl a0=>some a0 | .inr a2=>some h380)
def Nj (h380:(List Int)):Option ((List Int)):=
 (eG h380).bind fun r2=>(sW r2).bind fun r4=>some r4
def Gk (x1:Int) (y:Int) (a2:aV):Int→Option (Int ⊕ (Unit ⊕ Unit)):=fun a1 =>
 if (decide (a1<(a2.aD.length:Int))) then ((idx a2.aD a1).bind fun a0=>(if (decide (a0.X≤x1)) then (if (decide (x1<(aL a0.X a0.W))) then (if (decide (a0.Y≤y)) then (some (decide (y<(aL a0.Y a0.H)))) else (some false)) else (some false)) else (some false)).bind fun a3=>if a3 then (some (.inr (.inl ()))) else (some (.inl (aL a1 1)))) else (some (.inr (.inr (()))))
def Kk (l:aT) (x1:Int) (y:Int):Int→Option (Int ⊕ ((Option Int) ⊕ Unit)):=fun a0 =>
 if (decide (a0<(l.aB.length:Int))) then ((idx l.aB a0).bind fun a1=>(aK (Gk x1 y a1) 0).bind fun a2=>match a2 with | .inl a3=>some (.inr (.inl (some a0))) | .inr a4=>some (.inl (aL a0 1))) else (some (.inr (.inr (()))))
def Cx (l:aT) (x1:Int) (y:Int):Option ((Option Int)):=
 (aK (Kk l x1 y) 0).bind fun a1=>match a1 with | .inl a0=>some a0 | .inr a2=>some none
def En (x0:Int) (a_0:ByteArray) (a_1:ByteArray) (a_2:Int) (a_3:Int) (a_4:Int) (a_5:Int) (a_6:(List aS)) (a_7:(List aS)) (a_8:(List aV)) (a2_0:Int):Option ((Option Int)×(Option Int)):=
 (Cx (aT.mk (bF.mk a_0 a_1 a_2 a_3 a_4 a_5 a_6 a_7) a_8) x0 a2_0).bind fun r5=>(Cx (aT.mk (bF.mk a_0 a_1 a_2 a_3 a_4 a_5 a_6 a_7) a_8) x0 (aJ a2_0 1)).bind fun r6=>some (r5,r6)
def fT (a:Int):Option (Bool):=
 some true
def fR (a:oJ):Option (Bool):=
 some false
def Eo (from0:Int) (to1:Int) (a_0:Int):Option (cT):=
 some (cT.mk from0 a_0 to1 a_0)
def uU (t:(Option Int)):Option (Int):=
 if (Option.isSome t) then (some (Option.getD t 0)) else (some (-1))
def Em (s0:cT):(Int×Int)→Option (bC×Int×Int):=fun j2 =>
 some ((bC.mk s0 j2.1 j2.2),j2.1,j2.2)
def Gm (s0:cT) (a:Int) (b:Int):Option (bC×Int×Int):=
 (if (decide (a<0)) then (some true) else (if (decide (b ≥ 0)) then (some (decide (b<a))) else (some false))).bind fun j3=>if j3 then (Em s0 (b,a)) else (Em s0 (a,b))
def gW (a1:Int×(Option Int)×(Option Int)×Int×(List bC)):(Int×(Option Int)×(Option Int)×(List bC))→Option ((Int×(Option Int)×(Option Int)×Int×(List bC)) ⊕ (List bC)):=fun a0 =>
 some (.inl (a0.1,a0.2.1,a0.2.2.1,(aL a1.2.2.2.1 1),a0.2.2.2))
def gX (a2:Int×(Option Int)×(Option Int)×Int×(List bC)) (a3:Int) (a0:(Option Int)×(Option Int)):(List bC)→Option ((Int×(Option Int)×(Option Int)×Int×(List bC)) ⊕ (List bC)):=fun a1 =>
 gW a2 (a3,a0.1,a0.2,a1)
def gY (line_0_0:Int) (a0:Int×(Option Int)×(Option Int)×Int×(List bC)) (a3:Int):((Option Int)×(Option Int))→Option ((Int×(Option Int)×(Option Int)×Int×(List bC)) ⊕ (List bC)):=fun a2 =>
 (if (a2.1==a0.2.1) then (some (a2.2==a0.2.2.1)) else (some false)).bind fun a6=>if a6 then (gW a0 (a0.1,a0.2.1,a0.2.2.1,a0.2.2.2.2)) else ((if (a0.2.1==a0.2.2.1) then (some false) else ((match a0.2.1 with | some n=>fT n | none=>fR (oJ.mk )).bind fun a4=>if a4 then (some true) else ((match a0.2.2.1 with | some n=>fT n | none=>fR (oJ.mk )).bind fun a5=>some a5))).bind fun a7=>if a7 then ((Eo a0.1 a3 line_0_0).bind fun a9=>(uU a0.2.1).bind fun b0=>(uU a0.2.2.1).bind fun b1=>(Gm a9 b0 b1).bind fun a1=>(app a0.2.2.2.2 [(bC.mk (cT.mk a1.1.Line.X1 a1.1.Line.Y1 a1.1.Line.X2 a1.1.Line.Y2) a1.1.A a1.1.B)]).bind fun a8=>gX a0 a3 a2 a8) else (gX a0 a3 a2 a0.2.2.2.2))
def uQ (ends:(List Int)) (sides_0_0:ByteArray) (sides_0_1:ByteArray) (sides_0_2:Int) (sides_0_3:Int) (sides_0_4:Int) (sides_0_5:Int) (sides_0_6:(List aS)) (sides_0_7:(List aS)) (sides_0_8:(List aV)) (sides_1_0:Int) (line_0_0:Int):(Int×(Option Int)×(Option Int)×Int×(List bC))→Option ((Int×(Option Int)×(Option Int)×Int×(List bC)) ⊕ (List bC)):=fun a0 =>
 if (decide (a0.2.2.2.1<(ends.length:Int))) then ((idx ends a0.2.2.2.1).bind fun a1=>if (decide ((aL a0.2.2.2.1 1)<(ends.length:Int))) then ((En a1 sides_0_0 sides_0_1 sides_0_2 sides_0_3 sides_0_4 sides_0_5 sides_0_6 sides_0_7 sides_0_8 sides_1_0).bind fun a2=>gY line_0_0 a0 a1 (a2.1,a2.2)) else (gY line_0_0 a0 a1 (none,none))) else (some (.inr a0.2.2.2.2))
def fP (ends:(List Int)) (sides_0_0:ByteArray) (sides_0_1:ByteArray) (sides_0_2:Int) (sides_0_3:Int) (sides_0_4:Int) (sides_0_5:Int) (sides_0_6:(List aS)) (sides_0_7:(List aS)) (sides_0_8:(List aV)) (sides_1_0:Int) (line_0_0:Int):Option ((List bC)):=
 (aK (uQ ends sides_0_0 sides_0_1 sides_0_2 sides_0_3 sides_0_4 sides_0_5 sides_0_6 sides_0_7 sides_0_8 sides_1_0 line_0_0) (0,none,none,0,[])).bind fun a0=>some a0
def Ep (y:Int) (a_0:ByteArray) (a_1:ByteArray) (a_2:Int) (a_3:Int) (a_4:Int) (a_5:Int) (a_6:(List aS)) (a_7:(List aS)) (a_8:(List aV)) (a2_0:Int):Option ((Option Int)×(Option Int)):=
 (Cx (aT.mk (bF.mk a_0 a_1 a_2 a_3 a_4 a_5 a_6 a_7) a_8) a2_0 y).bind fun r5=>(Cx (aT.mk (bF.mk a_0 a_1 a_2 a_3 a_4 a_5 a_6 a_7) a_8) (aJ a2_0 1) y).bind fun r6=>some (r5,r6)
def Er (from0:Int) (to1:Int) (a_0:Int):Option (cT):=
 some (cT.mk a_0 from0 a_0 to1)
def gZ (a1:Int×(Option Int)×(Option Int)×Int×(List bC)):(Int×(Option Int)×(Option Int)×(List bC))→Option ((Int×(Option Int)×(Option Int)×Int×(List bC)) ⊕ (List bC)):=fun a0 =>
 some (.inl (a0.1,a0.2.1,a0.2.2.1,(aL a1.2.2.2.1 1),a0.2.2.2))
def iA (a2:Int×(Option Int)×(Option Int)×Int×(List bC)) (a3:Int) (a0:(Option Int)×(Option Int)):(List bC)→Option ((Int×(Option Int)×(Option Int)×Int×(List bC)) ⊕ (List bC)):=fun a1 =>
 gZ a2 (a3,a0.1,a0.2,a1)
def iB (line_0_0:Int) (a0:Int×(Option Int)×(Option Int)×Int×(List bC)) (a3:Int):((Option Int)×(Option Int))→Option ((Int×(Option Int)×(Option Int)×Int×(List bC)) ⊕ (List bC)):=fun a2 =>
 (if (a2.1==a0.2.1) then (some (a2.2==a0.2.2.1)) else (some false)).bind fun a6=>if a6 then (gZ a0 (a0.1,a0.2.1,a0.2.2.1,a0.2.2.2.2)) else ((if (a0.2.1==a0.2.2.1) then (some false) else ((match a0.2.1 with | some n=>fT n | none=>fR (oJ.mk )).bind fun a4=>if a4 then (some true) else ((match a0.2.2.1 with | some n=>fT n | none=>fR (oJ.mk )).bind fun a5=>some a5))).bind fun a7=>if a7 then ((Er a0.1 a3 line_0_0).bind fun a9=>(uU a0.2.1).bind fun b0=>(uU a0.2.2.1).bind fun b1=>(Gm a9 b0 b1).bind fun a1=>(app a0.2.2.2.2 [(bC.mk (cT.mk a1.1.Line.X1 a1.1.Line.Y1 a1.1.Line.X2 a1.1.Line.Y2) a1.1.A a1.1.B)]).bind fun a8=>iA a0 a3 a2 a8) else (iA a0 a3 a2 a0.2.2.2.2))
def uS (ends:(List Int)) (sides_0_0:ByteArray) (sides_0_1:ByteArray) (sides_0_2:Int) (sides_0_3:Int) (sides_0_4:Int) (sides_0_5:Int) (sides_0_6:(List aS)) (sides_0_7:(List aS)) (sides_0_8:(List aV)) (sides_1_0:Int) (line_0_0:Int):(Int×(Option Int)×(Option Int)×Int×(List bC))→Option ((Int×(Option Int)×(Option Int)×Int×(List bC)) ⊕ (List bC)):=fun a0 =>
 if (decide (a0.2.2.2.1<(ends.length:Int))) then ((idx ends a0.2.2.2.1).bind fun a1=>if (decide ((aL a0.2.2.2.1 1)<(ends.length:Int))) then ((Ep a1 sides_0_0 sides_0_1 sides_0_2 sides_0_3 sides_0_4 sides_0_5 sides_0_6 sides_0_7 sides_0_8 sides_1_0).bind fun a2=>iB line_0_0 a0 a1 (a2.1,a2.2)) else (iB line_0_0 a0 a1 (none,none))) else (some (.inr a0.2.2.2.2))
def fQ (ends:(List Int)) (sides_0_0:ByteArray) (sides_0_1:ByteArray) (sides_0_2:Int) (sides_0_3:Int) (sides_0_4:Int) (sides_0_5:Int) (sides_0_6:(List aS)) (sides_0_7:(List aS)) (sides_0_8:(List aV)) (sides_1_0:Int) (line_0_0:Int):Option ((List bC)):=
 (aK (uS ends sides_0_0 sides_0_1 sides_0_2 sides_0_3 sides_0_4 sides_0_5 sides_0_6 sides_0_7 sides_0_8 sides_1_0 line_0_0) (0,none,none,0,[])).bind fun a0=>some a0
def Bu (a2:aV):(Int×(List Int)×(List Int))→Option ((Int×(List Int)×(List Int)) ⊕ ((List Int)×(List Int))):=fun a0 =>
 if (decide (a0.1<(a2.aD.length:Int))) then ((idx a2.aD a0.1).bind fun a1=>(app a0.2.1 [a1.X,(aL a1.X a1.W)]).bind fun a3=>(app a0.2.2 [a1.Y,(aL a1.Y a1.H)]).bind fun a4=>some (.inl ((aL a0.1 1),a3,a4))) else (some (.inr (a0.2.1,a0.2.2)))
def xR (l:aT):(Int×(List Int)×(List Int))→Option ((Int×(List Int)×(List Int)) ⊕ ((List Int)×(List Int))):=fun a0 =>
 if (decide (a0.1<(l.aB.length:Int))) then ((idx l.aB a0.1).bind fun a2=>(aK (Bu a2) (0,a0.2.1,a0.2.2)).bind fun a1=>some (.inl ((aL a0.1 1),a1.1,a1.2))) else (some (.inr (a0.2.1,a0.2.2)))
def Bv (l:aT) (a4:(List Int)) (a1:(List Int)):Int×(List bC)→Option (Int×(List bC) ⊕ (List bC)):=fun a0 =>
 if (decide (a0.1<(a1.length:Int))) then ((idx a1 a0.1).bind fun a2=>(fP a4 l.bF.Name l.bF.cH l.bF.gU l.bF.gV l.bF.fA l.bF.cQ l.bF.cC l.bF.Used l.aB a2 a2).bind fun a5=>(app a0.2 a5).bind fun a3=>some (.inl ((aL a0.1 1),a3))) else (some (.inr a0.2))
def Bw (l:aT) (a1:(List Int)) (a4:(List Int)):Int×(List bC)→Option (Int×(List bC) ⊕ (List bC)):=fun a0 =>
 if (decide (a0.1<(a1.length:Int))) then ((idx a1 a0.1).bind fun a2=>(fQ a4 l.bF.Name l.bF.cH l.bF.gU l.bF.gV l.bF.fA l.bF.cQ l.bF.cC l.bF.Used l.aB a2 a2).bind fun a5=>(app a0.2 a5).bind fun a3=>some (.inl ((aL a0.1 1),a3))) else (some (.inr a0.2))
def yY (l:aT):Option ((List bC)):=
 (aK (xR l) (0,[],[])).bind fun a2=>(Nj a2.1).bind fun a0=>(Nj a2.2).bind fun a1=>(aK (Bv l a0 a1) (0,[])).bind fun a3=>(aK (Bw l a0 a1) (0,a3)).bind fun a4=>some a4
def oK (l:aT):Option ((List bC)×Int):=
 (tD l).bind fun r4=>if (r4 != 0) then (some ([],r4)) else ((yY l).bind fun r6=>some (r6,0))
def pR (n:Int) (h380:(List Int)):Int→Option (Int ⊕ Int):=fun a0 =>
 (if (decide (a0>0)) then ((idx h380 (aJ a0 1)).bind fun a2=>some (decide (a2>n))) else (some false)).bind fun a1=>if a1 then (some (.inl (aJ a0 1))) else (some (.inr a0))
def pS (a3:Int):Int×(List Int)→Option (Int×(List Int) ⊕ (List Int)):=fun a0 =>
 if (decide (a0.1>a3)) then ((idx a0.2 (aJ a0.1 1)).bind fun a1=>(idx a0.2 a0.1).bind fun a2=>some (.inl ((aJ a0.1 1),(List.set a0.2 (Int.toNat a0.1) a1)))) else (some (.inr a0.2))
def fY (n:Int) (h380:(List Int)):Option ((List Int)):=
 (aK (pR n h380) (h380.length:Int)).bind fun a1=>(if (decide (a1>0)) then ((idx h380 (aJ a1 1)).bind fun a5=>some (a5==n)) else (some false)).bind fun a3=>if a3 then (some h380) else ((app h380 [0]).bind fun a2=>(aK (pS a1) ((aJ (a2.length:Int) 1),a2)).bind fun a0=>(idx a0 a1).bind fun a4=>some (List.set a0 (Int.toNat a1) n))
def nE (l:(List aS)):(Int×(List Int)×(List Int))→Option ((Int×(List Int)×(List Int)) ⊕ ((List Int)×(List Int))):=fun a0 =>
 if (decide (a0.1<(l.length:Int))) then ((idx l a0.1).bind fun a5=>(fY a5.X a0.2.1).bind fun a1=>(idx l a0.1).bind fun a6=>(idx l a0.1).bind fun a7=>(fY (aL a6.X a7.W) a1).bind fun a2=>(idx l a0.1).bind fun a8=>(fY a8.Y a0.2.2).bind fun a3=>(idx l a0.1).bind fun a9=>(idx l a0.1).bind fun b0=>(fY (aL a9.Y b0.H) a3).bind fun a4=>some (.inl ((aL a0.1 1),a2,a4))) else (some (.inr (a0.2.1,a0.2.2)))
def rA (l:(List aS)):Option ((List Int)×(List Int)):=
 (aK (nE l) (0,[],[])).bind fun a0=>some (a0.1,a0.2)
def lF (l:(List aS)) (x1:Int) (y:Int):Int→Option (Int ⊕ (Unit ⊕ Unit)):=fun a1 =>
 if (decide (a1<(l.length:Int))) then ((idx l a1).bind fun a0=>(if (decide (a0.X≤x1)) then (if (decide (x1<(aL a0.X a0.W))) then (if (decide (a0.Y≤y)) then (some (decide (y<(aL a0.Y a0.H)))) else (some false)) else (some false)) else (some false)).bind fun a2=>if a2 then (some (.inr (.inl ()))) else (some (.inl (aL a1 1)))) else (some (.inr (.inr (()))))
def nX (l:(List aS)) (x1:Int) (y:Int):Option (Bool):=
 (aK (lF l x1 y) 0).bind fun a0=>match a0 with | .inl a1=>some true | .inr a2=>some false
def mO (regions:(List (List aS))) (x1:Int) (y:Int):Int→Option (Int ⊕ (Int ⊕ Unit)):=fun a0 =>
 if (decide (a0<(regions.length:Int))) then ((idx regions a0).bind fun a2=>(nX a2 x1 y).bind fun a1=>if a1 then (some (.inr (.inl a0))) else (some (.inl (aL a0 1)))) else (some (.inr (.inr (()))))
def pM (regions:(List (List aS))) (x1:Int) (y:Int):Option (Int):=
 (aK (mO regions x1 y) 0).bind fun a1=>match a1 with | .inl a0=>some a0 | .inr a2=>some (-1)
def iQ (a1:Int×(List (List Int))):(List (List Int))→Option (Int×(List (List Int)) ⊕ (List (List Int))):=fun a0 =>
 some (.inl ((aL a1.1 1),a0))
def iR (regions:(List (List aS))) (xs:(List Int)) (ys:(List Int)) (a1:Int×(List (List Int))):Int×(List (List Int))→Option (Int×(List (List Int)) ⊕ (List (List Int))):=fun a0 =>
 if (decide (a0.1≤(ys.length:Int))) then ((idx a0.2 a1.1).bind fun a2=>(idx a2 a0.1).bind fun a8=>(if (decide (a1.1>0)) then (if (decide (a0.1>0)) then (if (decide (a1.1<(xs.length:Int))) then (some (decide (a0.1<(ys.length:Int)))) else (some false)) else (some false)) else (some false)).bind fun a4=>if a4 then ((idx (List.set a0.2 (Int.toNat a1.1) (List.set a2 (Int.toNat a0.1) (-1))) a1.1).bind fun a3=>(idx xs (aJ a1.1 1)).bind fun a6=>(idx ys (aJ a0.1 1)).bind fun a7=>(pM regions a6 a7).bind fun a5=>(idx a3 a0.1).bind fun a9=>iQ a0 (List.set (List.set a0.2 (Int.toNat a1.1) (List.set a2 (Int.toNat a0.1) (-1))) (Int.toNat a1.1) (List.set a3 (Int.toNat a0.1) a5))) else (iQ a0 (List.set a0.2 (Int.toNat a1.1) (List.set a2 (Int.toNat a0.1) (-1))))) else (some (.inr a0.2))
def lI (regions:(List (List aS))) (xs:(List Int)) (ys:(List Int)):Int×(List (List Int))→Option (Int×(List (List Int)) ⊕ (List (List Int))):=fun a0 =>
 if (decide (a0.1≤(xs.length:Int))) then ((mk (aL (ys.length:Int) 1) 0).bind fun a1=>(idx a0.2 a0.1).bind fun a3=>(aK (iR regions xs ys a0) (0,(List.set a0.2 (Int.toNat a0.1) a1))).bind fun a2=>some (.inl ((aL a0.1 1),a2))) else (some (.inr a0.2))
def nY (regions:(List (List aS))) (xs:(List Int)) (ys:(List Int)):Option ((List (List Int))):=
 (mk (aL (xs.length:Int) 1) []).bind fun l2=>(aK (lI regions xs ys) (0,l2)).bind fun a0=>some a0
def cX (x1:bB) (h380:(List bB)):Option ((List bB)):=
 if (x1.Low==x1.mC) then (some h380) else ((if (decide ((aJ (h380.length:Int) 1) ≥ 0)) then ((idx h380 (aJ (h380.length:Int) 1)).bind fun a4=>if (a4.Low==x1.Low) then ((idx h380 (aJ (h380.length:Int) 1)).bind fun a5=>if (a5.mC==x1.mC) then ((idx h380 (aJ (h380.length:Int) 1)).bind fun a6=>if (a6.At.X2==x1.At.X1) then ((idx h380 (aJ (h380.length:Int) 1)).bind fun a7=>if (a7.At.Y2==x1.At.Y1) then ((idx h380 (aJ (h380.length:Int) 1)).bind fun a8=>if (a8.At.Y1==x1.At.Y2) then (some true) else ((idx h380 (aJ (h380.length:Int) 1)).bind fun a9=>some (a9.At.X1==x1.At.X2))) else (some false)) else (some false)) else (some false)) else (some false)) else (some false)).bind fun a2=>if a2 then ((idx h380 (aJ (h380.length:Int) 1)).bind fun a0=>(idx (List.set h380 (Int.toNat (aJ (h380.length:Int) 1)) (bB.mk (cT.mk a0.At.X1 a0.At.Y1 x1.At.X2 a0.At.Y2) a0.Low a0.mC)) (aJ (h380.length:Int) 1)).bind fun a1=>some (List.set (List.set h380 (Int.toNat (aJ (h380.length:Int) 1)) (bB.mk (cT.mk a0.At.X1 a0.At.Y1 x1.At.X2 a0.At.Y2) a0.Low a0.mC)) (Int.toNat (aJ (h380.length:Int) 1)) (bB.mk (cT.mk a1.At.X1 a1.At.Y1 a1.At.X2 x1.At.Y2) a1.Low a1.mC))) else ((app h380 [x1]).bind fun a3=>some a3))
def kR (regions:(List (List aS))):Int×(List aS)→Option (Int×(List aS) ⊕ (List aS)):=fun a0 =>
 if (decide (a0.1<(regions.length:Int))) then ((idx regions a0.1).bind fun a2=>(app a0.2 a2).bind fun a1=>some (.inl ((aL a0.1 1),a1))) else (some (.inr a0.2))
def iD (a3:(List Int)×(List Int)) (b2:(List (List Int))) (a1:Int×(List bB)):Int×(List bB)→Option (Int×(List bB) ⊕ (List bB)):=fun a0 =>
 if (decide ((aL a0.1 1)<(a3.1.length:Int))) then ((idx a3.1 a0.1).bind fun a4=>(idx a3.2 a1.1).bind fun a5=>(idx a3.1 (aL a0.1 1)).bind fun a6=>(idx a3.2 a1.1).bind fun a7=>(idx b2 (aL a0.1 1)).bind fun a8=>(idx a8 a1.1).bind fun a9=>(idx b2 (aL a0.1 1)).bind fun b0=>(idx b0 (aL a1.1 1)).bind fun b1=>(cX (bB.mk (cT.mk a4 a5 a6 a7) a9 b1) a0.2).bind fun a2=>some (.inl ((aL a0.1 1),a2))) else (some (.inr a0.2))
def iE (a2:(List Int)×(List Int)) (a3:(List (List Int))):Int×(List bB)→Option (Int×(List bB) ⊕ (List bB)):=fun a0 =>
 if (decide (a0.1<(a2.2.length:Int))) then ((aK (iD a2 a3 a0) (0,a0.2)).bind fun a1=>some (.inl ((aL a0.1 1),a1))) else (some (.inr a0.2))
def iF (a3:(List Int)×(List Int)) (b2:(List (List Int))) (a1:Int×(List bB)):Int×(List bB)→Option (Int×(List bB) ⊕ (List bB)):=fun a0 =>
 if (decide ((aL a0.1 1)<(a3.2.length:Int))) then ((idx a3.1 a1.1).bind fun a4=>(idx a3.2 a0.1).bind fun a5=>(idx a3.1 a1.1).bind fun a6=>(idx a3.2 (aL a0.1 1)).bind fun a7=>(idx b2 a1.1).bind fun a8=>(idx a8 (aL a0.1 1)).bind fun a9=>(idx b2 (aL a1.1 1)).bind fun b0=>(idx b0 (aL a0.1 1)).bind fun b1=>(cX (bB.mk (cT.mk a4 a5 a6 a7) a9 b1) a0.2).bind fun a2=>some (.inl ((aL a0.1 1),a2))) else (some (.inr a0.2))
def iG (a2:(List Int)×(List Int)) (a3:(List (List Int))):Int×(List bB)→Option (Int×(List bB) ⊕ (List bB)):=fun a0 =>
 if (decide (a0.1<(a2.1.length:Int))) then ((aK (iF a2 a3 a0) (0,a0.2)).bind fun a1=>some (.inl ((aL a0.1 1),a1))) else (some (.inr a0.2))
def jW (regions:(List (List aS))):Option ((List bB)):=
 (aK (kR regions) (0,[])).bind fun a4=>(rA a4).bind fun a2=>(nY regions a2.1 a2.2).bind fun a3=>(aK (iE a2 a3) (0,[])).bind fun a0=>(aK (iG a2 a3) (0,a0)).bind fun a1=>some a1
def mV (l:aT):Int×(List (List aS))→Option (Int×(List (List aS)) ⊕ (List (List aS))):=fun a0 =>
 if (decide (a0.1<(l.aB.length:Int))) then ((idx l.aB a0.1).bind fun a2=>(app a0.2 [a2.aD]).bind fun a1=>some (.inl ((aL a0.1 1),a1))) else (some (.inr a0.2))
def mU (a4:(List bB)) (a0:Int×(List bC)):(Int×Int)→Option (Int×(List bC) ⊕ (List bC)):=fun a1 =>
 (idx a4 a0.1).bind fun a3=>(app a0.2 [(bC.mk a3.At a1.1 a1.2)]).bind fun a2=>some (.inl ((aL a0.1 1),a2))
def mW (a1:(List bB)):Int×(List bC)→Option (Int×(List bC) ⊕ (List bC)):=fun a0 =>
 if (decide (a0.1<(a1.length:Int))) then ((idx a1 a0.1).bind fun a2=>(idx a1 a0.1).bind fun a3=>(idx a1 a0.1).bind fun a4=>(idx a1 a0.1).bind fun a5=>if (decide ((mF a2.Low a3.mC)<0)) then (mU a1 a0 ((imax a4.Low a5.mC),(mF a2.Low a3.mC))) else (mU a1 a0 ((mF a2.Low a3.mC),(imax a4.Low a5.mC)))) else (some (.inr a0.2))
def cZ (l:aT):Option ((List bC)):=
 (aK (mV l) (0,[])).bind fun a2=>(jW a2).bind fun a1=>(aK (mW a1) (0,[])).bind fun a0=>some a0
def yO (l:aT):Option ((List bC)×Int):=
 (dG l).bind fun r2=>if (r2 != 0) then (some ([],r2)) else ((cZ l).bind fun r4=>some (r4,0))
set_option maxRecDepth 10000
theorem DW (h:List Int):eG h=Jv (brC bZ) h:=by kernel_rfl
theorem Vd (h:List Int):sW h=Me (fun x y=>x==y) 0 h:=by kernel_rfl
def ltI (x y:Int):Bool:=decide (x<y)
theorem RU:Qv ltI where
 asymm x y h:=by unfold ltI at *;simp at *;omega
 neg x y z h:=by unfold ltI at *;simp at *;omega
theorem UM (x y:Int):bZ x y=some (if x<y then -1 else if y<x then 1 else 0):=by
 unfold bZ Af
 have e:∀ z:Int,(z != z)=false:=fun z=>by simp
 simp only [e,Option.bind_some,Bool.false_eq_true,if_false]
 by_cases h1:x<y
 ·simp [h1]
 ·by_cases h2:x>y
  ·have:y<x:=h2
   simp [h1,h2,this]
  ·have:¬ y<x:=h2
   simp [h1,h2,this]
theorem brI (β:Type) (x y:Int) (k:Bool→Option β):brC bZ β x y k=k (ltI x y):=by
 unfold brC ltI
 rw [UM,Option.bind_some]
 congr 1
 by_cases h1:x<y
 ·simp [h1]
 ·by_cases h2:y<x <;> simp [h1,h2]
theorem DX {l:List Int} (hl:l.length≤1073741824):∃ r,eG l=some r∧r.Perm l∧r.Pairwise fun x y=>ltI y x=false:=by
 rw [DW]
 exact BS (P:=fun _=>True) (d:=0) (fun β x y k _ _=>brI β x y k) RU ⟨by omega,fun _ _ _=>trivial⟩
theorem NT {l:List Int} (hl:l.length≤1073741824):∃ r,Nj l=some r∧r.Pairwise (fun x y=>x<y)∧∀ x,x ∈ r↔x ∈ l:=by
 obtain ⟨r,h1,h2,h3⟩:=DX hl
 have hr:r.length=l.length:=h2.length_eq
 obtain ⟨q,q1,q2,q3⟩:=CG RU (fun x y a b=>by unfold ltI at a b;simp at a b;omega) (eqb:=fun x y=>x==y) (fun x y=>by simp) (0:Int) (l:=r) (by omega) h3
 refine ⟨q, ?_,q2.imp (fun h=>by unfold ltI at h;simpa using h),fun x=>by rw [q3,h2.mem_iff]⟩
 unfold Nj
 simp only [Option.bind_some,h1,Vd,q1]
end Go.SM
namespace Go.SM
open Go Go.VI Go.Cells
def Zl (a1:Int×(Option Int)×(Option Int)×Int×(List bC)):(Int×(Option Int)×(Option Int)×(List bC))→Option ((Int×(Option Int)×(Option Int)×Int×(List bC)) ⊕ (List bC)):=fun a0 =>
 some (.inl (a0.1,a0.2.1,a0.2.2.1,(aL a1.2.2.2.1 1),a0.2.2.2))
def EE (a2:Int×(Option Int)×(Option Int)×Int×(List bC)) (a3:Int) (a0:(Option Int)×(Option Int)):(List bC)→Option ((Int×(Option Int)×(Option Int)×Int×(List bC)) ⊕ (List bC)):=fun a1 =>
 Zl a2 (a3,a0.1,a0.2,a1)
def EF (line:Int→Int→Option cT) (a0:Int×(Option Int)×(Option Int)×Int×(List bC)) (a3:Int):((Option Int)×(Option Int))→Option ((Int×(Option Int)×(Option Int)×Int×(List bC)) ⊕ (List bC)):=fun a2 =>
 (if (a2.1==a0.2.1) then (some (a2.2==a0.2.2.1)) else (some false)).bind fun a6=>if a6 then (Zl a0 (a0.1,a0.2.1,a0.2.2.1,a0.2.2.2.2)) else ((if (a0.2.1==a0.2.2.1) then (some false) else ((match a0.2.1 with | some n=>fT n | none=>fR (oJ.mk )).bind fun a4=>if a4 then (some true) else ((match a0.2.2.1 with | some n=>fT n | none=>fR (oJ.mk )).bind fun a5=>some a5))).bind fun a7=>if a7 then ((line a0.1 a3).bind fun a9=>(uU a0.2.1).bind fun b0=>(uU a0.2.2.1).bind fun b1=>(Gm a9 b0 b1).bind fun a1=>(app a0.2.2.2.2 [(bC.mk (cT.mk a1.1.Line.X1 a1.1.Line.Y1 a1.1.Line.X2 a1.1.Line.Y2) a1.1.A a1.1.B)]).bind fun a8=>EE a0 a3 a2 a8) else (EE a0 a3 a2 a0.2.2.2.2))
def JQ (ends:(List Int)) (side:Int→Option (Option Int×Option Int)) (line:Int→Int→Option cT):(Int×(Option Int)×(Option Int)×Int×(List bC))→Option ((Int×(Option Int)×(Option Int)×Int×(List bC)) ⊕ (List bC)):=fun a0 =>
 if (decide (a0.2.2.2.1<(ends.length:Int))) then ((idx ends a0.2.2.2.1).bind fun a1=>if (decide ((aL a0.2.2.2.1 1)<(ends.length:Int))) then ((side a1).bind fun a2=>EF line a0 a1 (a2.1,a2.2)) else (EF line a0 a1 (none,none))) else (some (.inr a0.2.2.2.2))
def al (ends:(List Int)) (side:Int→Option (Option Int×Option Int)) (line:Int→Int→Option cT):Option ((List bC)):=
 (aK (JQ ends side line) (0,none,none,0,[])).bind fun a0=>some a0
theorem GH (ends:List Int) (n m:ByteArray) (g r w t:Int) (c u:List aS) (p:List aV) (y z:Int):fP ends n m g r w t c u p y z=al ends (fun i=>En i n m g r w t c u p y) (fun a b=>Eo a b z):=rfl
theorem GI (ends:List Int) (n m:ByteArray) (g r w t:Int) (c u:List aS) (p:List aV) (y z:Int):fQ ends n m g r w t c u p y z=al ends (fun i=>Ep i n m g r w t c u p y) (fun a b=>Er a b z):=rfl
def mkE (s:cT) (a b:Option Int):bC:=
 let p:Int:=match a with | some i=>i | none=>-1
 let q:Int:=match b with | some i=>i | none=>-1
 if p<0∨(q ≥ 0∧q<p) then ⟨s,q,p⟩ else ⟨s,p,q⟩
theorem IA (a:Option Int):uU a=some (match a with | some i=>i | none=>-1):=by cases a <;> rfl
theorem PE (s:cT) (a b:Option Int):∃ u v,Gm s (match a with | some i=>i | none=>-1) (match b with | some i=>i | none=>-1)=some (mkE s a b,u,v):=by
 unfold Gm mkE Em
 generalize (match a with | some i=>i | none=>(-1:Int))=p
 generalize (match b with | some i=>i | none=>(-1:Int))=q
 simp only
 by_cases h1:p<0
 ·simp [h1]
 ·by_cases h2:q ≥ 0
  ·by_cases h3:q<p
   ·simp [h1,h2,h3]
   ·simp [h1,h2,h3]
  ·simp [h1,h2]
theorem BR (a:Option Int):(match a with | some n=>fT n | none=>fR oJ.mk)=some a.isSome:=by cases a <;> rfl
theorem Zm {line:Int→Int→Option cT} {ln:Int→Int→cT} (hline:∀ a b,line a b=some (ln a b)) {begin_:Int} {one two:Option Int} {k:Nat} (hk:k≤1000) {out:List bC} (ho:out.length≤1000000) (x:Int) (a b:Option Int) :
  EF line (begin_,one,two,(k:Int),out) x (a,b)=some (.inl (if a=one∧b=two then (begin_,one,two,((k+1:Nat):Int),out) else (x,a,b,((k+1:Nat):Int),if one=two then out else out++[mkE (ln begin_ x) one two]))):=by
 unfold EF
 simp only
 by_cases h:a=one∧b=two
 ·obtain ⟨rfl,rfl⟩:=h
  simp only [beq_self_eq_true,if_true,Option.bind_some,Zl,and_self,bH k (by omega)]
 ·have e:(if (a==one)=true then some (b==two) else some false)=some false:=by
   by_cases h1:a=one
   ·have h2:¬ b=two:=fun q=>h ⟨h1,q⟩
    simp [h1,h2]
   ·simp [h1]
  rw [e,if_neg h]
  simp only [Option.bind_some,Bool.false_eq_true,if_false]
  by_cases h3:one=two
  ·have:(one==two)=true:=by simp [h3]
   rw [this,if_pos h3]
   simp only [if_true,Option.bind_some,Bool.false_eq_true,if_false,EE,Zl,bH k (by omega)]
  ·have h4:(one==two)=false:=by simp [h3]
   have h5:(one.isSome || two.isSome)=true:=by
    cases one with
    | some _=>rfl
    | none=>cases two with
      | some _=>rfl
      | none=>exact absurd rfl h3
   obtain ⟨u,v,e2⟩:=PE (ln begin_ x) one two
   have e3:(if one.isSome=true then some true else some two.isSome)=some true:=by
    cases hh:one.isSome with
    | true=>rfl
    | false=>rw [hh,Bool.false_or] at h5;simp [h5]
   have e4:(match one with | some n=>fT n | none=>fR oJ.mk).bind (fun b478=>if b478=true then some true else (match two with | some n=>fT n | none=>fR oJ.mk).bind fun b479=>some b479)=some true:=by
    rw [BR,BR]
    exact e3
   rw [h4]
   simp only [Bool.false_eq_true,if_false]
   rw [e4]
   simp only [Option.bind_some,if_true,hline,IA,e2,if_neg h3]
   rw [lA (by simp [LIM];omega)]
   simp only [Option.bind_some,EE,Zl,bH k (by omega)]
theorem JR {A B:Int→Option Int} {xs:List Int} (h:Al A B xs) {side:Int→Option (Option Int×Option Int)} (hside:∀ (i:Nat) x,xs[i]?=some x→i+1<xs.length→side x=some (A x,B x)) {line:Int→Int→Option cT} {ln:Int→Int→cT} (hline:∀ a b,line a b=some (ln a b)) :
  ∃ L,al xs side line=some (L.map fun p=>mkE (ln p.1 p.2) (A p.1) (B p.1))∧nR (fun z=>cod (A z) (B z)) L∧L.length≤xs.length:=by
 obtain ⟨s,hs⟩:∃ s:Int→Int,s=fun z=>cod (A z) (B z):=⟨_,rfl⟩
 have hlen:=h.len
 have s0:∀ z,s z=0↔A z=B z:=fun z=>by rw [hs];exact h.s0 z
 have sinj:∀ z w,s z≠0→s z=s w→A z=A w∧B z=B w:=fun z w q1 q2=>by subst hs;exact h.inj q1 q2
 obtain ⟨lo,hlo⟩:=h.lo
 replace hlo:∀ z,z<lo→s z=0:=fun z hz=>by rw [hs];exact hlo z hz
 have hst:Fc s xs:=by rw [hs];exact Hz (fun p:Option Int×Option Int=>cod p.1 p.2) (g:=fun z=>(A z,B z)) h.st
 rw [← hs]
 obtain ⟨mk,hmk⟩:∃ mk:Int×Int→bC,mk=fun p=>mkE (ln p.1 p.2) (A p.1) (B p.1):=⟨_,rfl⟩
 rw [← hmk]
 obtain ⟨r,q1,q2⟩:=mG (fun t:Int×Option Int×Option Int×Int×List bC=>((xs.length:Int)-t.2.2.2.1).toNat)
  (fun t:Int×Option Int×Option Int×Int×List bC=>∃ k:Nat,t.2.2.2.1=k∧k≤xs.length∧(k=xs.length→∃ L,t.2.2.2.2=L.map mk∧nR s L∧L.length≤xs.length) ∧
   (∀ e,xs[k]?=some e→∃ L,nR (cut s e) L∧L.length≤k∧t.2.1=A (e-1)∧t.2.2.1=B (e-1)∧(t.2.1=t.2.2.1→t.2.2.2.2=L.map mk)∧(t.2.1≠t.2.2.1→∃ L0,L=L0++[(t.1,e)]∧t.2.2.2.2=L0.map mk)))
  (fun r=>∃ L,r=L.map mk∧nR s L∧L.length≤xs.length) (JQ xs side line) (by
   rintro ⟨bg,one,two,k',out⟩ ⟨k,hk',hk,hend,hI⟩
   simp only at hk' hend hI ⊢
   subst hk'
   unfold JQ
   by_cases hkn:k<xs.length
   case neg =>
    right
    have hd:¬ (k:Int)<(xs.length:Int):=by omega
    exact ⟨out,by simp only [hd,decide_false,Bool.false_eq_true,if_false],hend (by omega)⟩
   left
   have hd:(k:Int)<(xs.length:Int):=by omega
   obtain ⟨e,he⟩:∃ e,xs[k]?=some e:=⟨_,List.getElem?_eq_getElem hkn⟩
   obtain ⟨L,hL,hLk,h1,h2,hzero,hopen⟩:=hI e he
   have hout:out.length≤1000000:=by
    rcases Classical.em (one=two) with q | q
    ·rw [hzero q,List.length_map];omega
    ·obtain ⟨L0,e1,e2⟩:=hopen q
     rw [e2,List.length_map]
     have:=congrArg List.length e1
     simp at this;omega
   have sone:s (e-1)=0↔one=two:=by rw [s0,h1,h2]
   -- what is closed
   have closed:one≠two→out++[mkE (ln bg e) one two]=L.map mk:=fun q=>by
    obtain ⟨L0,e1,e2⟩:=hopen q
    have hr:=tF.1 ((hL.2 bg e).1 (by rw [e1];simp))
    have hne:s (e-1)≠0:=fun z=>q (sone.1 z)
    have hb:=sinj (e-1) bg hne (hr.2.2.2.1 (e-1) (by omega) (by omega))
    rw [e1,e2,List.map_append,hmk]
    simp only [List.map_cons,List.map_nil]
    rw [h1,h2,hb.1,hb.2]
   have kk:((k:Int)+1)=((k+1:Nat):Int):=by omega
   by_cases hkl:k+1<xs.length
   ·obtain ⟨e',he'⟩:∃ e',xs[k+1]?=some e':=⟨_,List.getElem?_eq_getElem hkl⟩
    obtain ⟨hee,hst'⟩:=xF hst he he'
    obtain ⟨b1,b2⟩:=h.before he he'
    have hd2:aL (k:Int) 1<(xs.length:Int):=by rw [bH k (by omega)];omega
    simp only [hd,decide_true,if_true,aQ he,Option.bind_some,hd2,hside k e he hkl,Zm hline (show k≤1000 by omega) hout e (A e) (B e)]
    have hprev:s (e'-1)=s e:=hst' _ (by omega) (by omega)
    by_cases hc:A e=one∧B e=two
    ·refine ⟨_,rfl, ?_,by rw [if_pos hc];simp only;omega⟩
     rw [if_pos hc]
     have es:s e=s (e-1):=by rw [hs];simp only;rw [← h1,← h2,hc.1,hc.2]
     refine ⟨k+1,rfl,by omega,fun q=>by omega,fun e2 he2=>?_⟩
     rw [he'] at he2;injection he2 with he2;subst he2
     simp only
     rcases Classical.em (one=two) with q | q
     ·have e0:s e=0:=by rw [es];exact sone.2 q
      exact ⟨L,Pr hL hee hst' e0,by omega,by rw [b1,hc.1],by rw [b2,hc.2],hzero,fun q'=>absurd q q'⟩
     ·have e0:s e≠0:=by rw [es];exact fun z=>q (sone.1 z)
      obtain ⟨l0,a,hla,hrun⟩:=Xg hL hee hst' hlo e0 es.symm
      obtain ⟨L0,e1,e2⟩:=hopen q
      rw [hla] at e1
      obtain ⟨rfl,e3⟩:=List.append_inj' e1 rfl
      injection e3 with e3 _
      injection e3 with e3 _
      subst e3
      exact ⟨l0++[(a,e')],hrun,by rw [hla] at hLk;simp at hLk ⊢;omega,by rw [b1,hc.1],by rw [b2,hc.2],fun q'=>absurd q' q,fun _=>⟨l0,rfl,e2⟩⟩
    ·refine ⟨_,rfl, ?_,by rw [if_neg hc];simp only;omega⟩
     rw [if_neg hc]
     refine ⟨k+1,rfl,by omega,fun q=>by omega,fun e2 he2=>?_⟩
     rw [he'] at he2;injection he2 with he2;subst he2
     simp only
     have hout':(if one=two then out else out++[mkE (ln bg e) one two])=L.map mk:=by
      split
      ·rename_i q;exact hzero q
      ·rename_i q;exact closed q
     rcases Classical.em (A e=B e) with q | q
     ·exact ⟨L,Pr hL hee hst' ((s0 e).2 q),by omega,b1.symm,b2.symm,fun _=>hout',fun q'=>absurd q q'⟩
     ·have e0:s e≠0:=fun z=>q ((s0 e).1 z)
      have hne:s (e-1)≠s e:=fun z=>by
       have:=sinj e (e-1) e0 z.symm
       exact hc ⟨by rw [h1];exact this.1,by rw [h2];exact this.2⟩
      exact ⟨L++[(e,e')],BK hL hee hst' e0 hne,by simp;omega,b1.symm,b2.symm,fun q'=>absurd q' q,fun _=>⟨L,rfl,hout'⟩⟩
   ·have hd2:¬ aL (k:Int) 1<(xs.length:Int):=by rw [bH k (by omega)];omega
    simp only [hd,decide_true,if_true,aQ he,Option.bind_some,hd2,decide_false,Bool.false_eq_true,if_false,Zm hline (show k≤1000 by omega) hout e none none]
    have hz:∀ z,e≤z→s z=0:=fun z hz=>by
     have:=h.high e (by rw [show xs.length-1=k from by omega];exact he) z hz
     rw [s0,this.1,this.2]
    refine ⟨_,rfl,⟨k+1, ?_,by omega,fun _=>⟨L, ?_,Uk hL hz,by omega⟩,fun e2 he2=>by have:=bG he2;omega⟩, ?_⟩
    ·split <;> rfl
    ·by_cases hc:(none:Option Int)=one∧(none:Option Int)=two
     ·rw [if_pos hc];exact hzero (by rw [← hc.1,← hc.2])
     ·rw [if_neg hc]
      simp only
      split
      ·rename_i q;exact hzero q
      ·rename_i q;exact closed q
    ·split <;> simp only <;> omega) (0,none,none,0,[])
   ⟨0,rfl,by omega,fun q=>⟨[],rfl,by
    have:xs=[]:=List.eq_nil_of_length_eq_zero q.symm
    refine ⟨.nil,fun a b=>⟨fun m=>by simp at m,fun m=>absurd ((s0 a).2 ?_) m.2.1⟩⟩
    rw [(h.emp this a).1,(h.emp this a).2],by simp⟩,fun e he=>by
    have hl:=h.low e he
    exact ⟨[],Ul fun z hz=>by rw [s0,(hl z hz).1,(hl z hz).2],by simp,(hl (e-1) (by omega)).1.symm,(hl (e-1) (by omega)).2.symm,fun _=>rfl,fun q=>absurd rfl q⟩⟩
 obtain ⟨L,rfl,q3,q4⟩:=q2
 exact ⟨L,by unfold al;rw [q1];rfl,q3,q4⟩
def nm:Option Int→Int
 | some i=>i
 | none=>-1
theorem Yl {a b:Option Int} (ha:SmO a) (hb:SmO b):nm a=nm b↔a=b:=by
 constructor
 ·intro h
  cases a with
  | none=>cases b with
    | none=>rfl
    | some j=>have:=hb j rfl;simp only [nm] at h;omega
  | some i=>cases b with
    | none=>have:=ha i rfl;simp only [nm] at h;omega
    | some j=>simp only [nm] at h;rw [h]
 ·intro h;rw [h]
theorem Ym (R:List (List aS)) (x y:Int):nm (eJ R x y)=CX R x y:=by rw [SQ];rfl
theorem AF {β:Type} {R:List β} {z v:β} {j:Nat} (h:R[j]?=some v):(R.take j++List.replicate (R.length-j) z)[j]?=some z:=by
 have:=bG h
 rw [List.getElem?_append_right (by rw [List.length_take];omega),List.length_take,List.getElem?_replicate,if_pos (by omega)]
theorem Td {β:Type} {R:List β} {z v:β} {j:Nat} (h:R[j]?=some v):(R.take j++List.replicate (R.length-j) z).set j v=R.take (j+1)++List.replicate (R.length-(j+1)) z:=by
 have:=bG h
 rw [List.set_append_right _ _ (by rw [List.length_take];omega),List.length_take,show j-min j R.length=0 from by omega,nK h,show R.length-j=R.length-(j+1)+1 from by omega,List.replicate_succ,List.set_cons_zero,List.append_assoc]
 rfl
theorem NU {β:Type} {l:List β} {i:Nat} {v:β} (h:l[i]?=some v):l.set i v=l:=by
 refine List.ext_getElem? fun n=>?_
 rw [List.getElem?_set]
 split
 ·rename_i e;subst e
  rw [if_pos (bG h),h]
 ·rfl
section
variable {R:List (List aS)} (hv:Uy R.flatten) (hm:R.length≤900) (hn:∀ l ∈ R,l.length≤1000)
include hv hm hn
theorem GD {l:List aS} (hl:l ∈ R) (x y:Int):nX l x y=some (cov l x y):=by
 unfold nX cov
 have:=hn l hl
 rw [Ts l (lF l x y) (fun r=>inC r x y) (.inr ()) (.inl ()) (fun k r hr=>?s) ?f]
 ·cases l.any (fun r=>inC r x y) <;> rfl
 case s =>
  have h1:=bG hr
  obtain ⟨e1,e2⟩:=Yz (hv r (List.mem_flatten.2 ⟨l,hl,List.mem_of_getElem? hr⟩))
  unfold lF
  simp only [h1,Int.ofNat_lt,decide_true,if_true,aQ hr,Option.bind_some,e1,e2]
  have hb':(if decide (r.X≤x) then (if decide (x<r.X+r.W) then (if decide (r.Y≤y) then some (decide (y<r.Y+r.H)) else some false) else some false) else some false)=some (inC r x y):=by
   unfold inC
   cases decide (r.X≤x) <;> cases decide (x<r.X+r.W) <;> cases decide (r.Y≤y) <;> simp
  rw [hb',Option.bind_some,bH k (by omega)]
 case f=>simp [lF]
theorem MD (x y:Int):pM R x y=some (CX R x y):=by
 unfold pM
 rw [Ky R (mO R x y) (fun l=>cov l x y) (fun k=>.inl (k:Int)) (.inr ()) (fun k l hl=>?s) ?f]
 ·unfold CX lK
  cases R.findIdx? (fun l=>cov l x y) <;> rfl
 case s =>
  have h1:=bG hl
  unfold mO
  simp only [h1,Int.ofNat_lt,decide_true,if_true,aQ hl,Option.bind_some,GD hv hm hn (List.mem_of_getElem? hl),bH k (by omega)]
 case f=>simp [mO]
def Cv (R:List (List aS)) (xs ys:List Int) (i j:Nat):Int:=if 0<i∧0<j∧i<xs.length∧j<ys.length then CX R (xs.getD (i-1) 0) (ys.getD (j-1) 0) else -1
def Qb (R:List (List aS)) (xs ys:List Int) (i:Nat):List Int:=(List.range (ys.length+1)).map fun j=>Cv R xs ys i j
def Gf (R:List (List aS)) (xs ys:List Int):List (List Int):=(List.range (xs.length+1)).map fun i=>Qb R xs ys i
omit hv hm hn in
theorem Gg (xs ys:List Int) (i j:Nat) (hj:j≤ys.length):(Qb R xs ys i)[j]?=some (Cv R xs ys i j):=by
 unfold Qb;rw [List.getElem?_map,List.getElem?_range (by omega)];rfl
omit hv hm hn in
theorem Kj (xs ys:List Int) (i:Nat) (hi:i≤xs.length):(Gf R xs ys)[i]?=some (Qb R xs ys i):=by
 unfold Gf;rw [List.getElem?_map,List.getElem?_range (by omega)];rfl
theorem HT {xs ys:List Int} (hx:xs.length≤1000) (hy:ys.length≤1000):nY R xs ys=some (Gf R xs ys):=by
 have inner:∀ (i:Nat) (M0:List (List Int)) (base:List (List Int)),i≤xs.length→base[i]?=some (List.replicate (ys.length+1) 0) →
   aK (iR R xs ys ((i:Int),M0)) (0,base)=some (base.set i (Qb R xs ys i)):=fun i M0 base hi hb=>by
  obtain ⟨C,hC⟩:∃ C,Qb R xs ys i=C:=⟨_,rfl⟩
  have hCl:C.length=ys.length+1:=by rw [← hC];simp [Qb]
  have hil:=bG hb
  obtain ⟨r,q1,q2⟩:=tU (List.range (ys.length+1)) (fun k (s:List (List Int))=>((k:Int),s)) (iR R xs ys ((i:Int),M0)) (fun s=>s) (fun k s=>s=base.set i (C.take k++List.replicate (C.length-k) 0)) base (by
    rw [List.take_zero,List.nil_append,Nat.sub_zero,hCl,NU hb])
   (fun k y s hy' hI=>by
    have hk:=bG hy'
    rw [List.length_range] at hk
    have hd:decide ((k:Int)≤(ys.length:Int))=true:=by simp;omega
    have hCk:C[k]?=some (Cv R xs ys i k):=by rw [← hC];exact Gg xs ys i k (by omega)
    have gb:s[i]?=some (C.take k++List.replicate (C.length-k) 0):=by rw [hI,List.getElem?_set,if_pos rfl,if_pos hil]
    have gz:(C.take k++List.replicate (C.length-k) 0)[k]?=some (0:Int):=AF hCk
    have hlk:=bG gz
    have hsl:s.length=base.length:=by rw [hI,List.length_set]
    unfold iR
    simp only [hd,if_true,aQ gb,aQ gz,Option.bind_some,Int.toNat_natCast]
    by_cases hc:0<i∧0<k∧i<xs.length∧k<ys.length
    ·obtain ⟨c1,c2,c3,c4⟩:=hc
     have e1:aJ (i:Int) 1=((i-1:Nat):Int):=by rw [bK (by omega) (by omega)];omega
     have e2:aJ (k:Int) 1=((k-1:Nat):Int):=by rw [bK (by omega) (by omega)];omega
     have g1:xs[i-1]?=some (xs.getD (i-1) 0):=by rw [List.getD_eq_getElem?_getD,List.getElem?_eq_getElem (by omega)];rfl
     have g2:ys[k-1]?=some (ys.getD (k-1) 0):=by rw [List.getD_eq_getElem?_getD,List.getElem?_eq_getElem (by omega)];rfl
     have g3:(s.set i ((C.take k++List.replicate (C.length-k) 0).set k (-1)))[i]?=some ((C.take k++List.replicate (C.length-k) 0).set k (-1)):=by rw [List.getElem?_set,if_pos rfl,if_pos (by omega)]
     have g4:((C.take k++List.replicate (C.length-k) 0).set k (-1))[k]?=some (-1:Int):=by rw [List.getElem?_set,if_pos rfl,if_pos hlk]
     have d1:decide ((i:Int)>0)=true:=by simp;omega
     have d2:decide ((k:Int)>0)=true:=by simp;omega
     have d3:decide ((i:Int)<(xs.length:Int))=true:=by simp;omega
     have d4:decide ((k:Int)<(ys.length:Int))=true:=by simp;omega
     simp only [d1,d2,d3,d4,if_true,Option.bind_some,aQ g3,e1,e2,aQ g1,aQ g2,MD hv hm hn,aQ g4,iQ,bH k (by omega)]
     refine ⟨_,rfl, ?_⟩
     rw [List.set_set,List.set_set,hI,List.set_set]
     have:Cv R xs ys i k=CX R (xs.getD (i-1) 0) (ys.getD (k-1) 0):=by unfold Cv;rw [if_pos ⟨c1,c2,c3,c4⟩]
     rw [← this,Td hCk]
    ·have hcv:Cv R xs ys i k=-1:=by unfold Cv;rw [if_neg hc]
     have hb':(if decide ((i:Int)>0) then (if decide ((k:Int)>0) then (if decide ((i:Int)<(xs.length:Int)) then some (decide ((k:Int)<(ys.length:Int))) else some false) else some false) else some false)=some false:=by
      by_cases c1:0<i
      ·by_cases c2:0<k
       ·by_cases c3:i<xs.length
        ·have c4:¬ k<ys.length:=fun q=>hc ⟨c1,c2,c3,q⟩
         simp [c1,c2,c3,c4]
        ·simp [c1,c2,c3]
       ·simp [c1,c2]
      ·simp [c1]
     rw [hb']
     simp only [Option.bind_some,Bool.false_eq_true,if_false,iQ,bH k (by omega)]
     refine ⟨_,rfl, ?_⟩
     rw [hI,List.set_set,← hcv,Td hCk]) (fun s _=>by
    have:¬ ((List.range (ys.length+1)).length:Int)≤(ys.length:Int):=by rw [List.length_range];omega
    unfold iR
    simp only [this,decide_false,Bool.false_eq_true,if_false])
  rw [List.length_range,← hCl,List.take_length,Nat.sub_self,List.replicate_zero,List.append_nil] at q2
  rw [show ((0:Int),base)=(((0:Nat):Int),base) from rfl,q1,q2,hC]
 obtain ⟨C,hC⟩:∃ C,Gf R xs ys=C:=⟨_,rfl⟩
 have hCl:C.length=xs.length+1:=by rw [← hC];simp [Gf]
 have mk1:∀ {β:Type} (n:Nat) (z:β),n≤1000→mk (aL (n:Int) 1) z=some (List.replicate (n+1) z):=fun {β} n z hn'=>by
  rw [bH n (by omega)]
  unfold mk
  rw [if_pos ⟨by omega,by simp [LIM];omega⟩,Int.toNat_natCast]
 obtain ⟨r,q1,q2⟩:=tU (List.range (xs.length+1)) (fun k (s:List (List Int))=>((k:Int),s)) (lI R xs ys) (fun s=>s) (fun k s=>s=C.take k++List.replicate (C.length-k) []) (List.replicate (xs.length+1) []) (by
   rw [List.take_zero,List.nil_append,Nat.sub_zero,hCl])
  (fun k x s hx' hI=>by
   have hk:=bG hx'
   rw [List.length_range] at hk
   have hd:decide ((k:Int)≤(xs.length:Int))=true:=by simp;omega
   have hCk:C[k]?=some (Qb R xs ys k):=by rw [← hC];exact Kj xs ys k (by omega)
   have g0:s[k]?=some []:=by rw [hI];exact AF hCk
   have hks:=bG g0
   have g1:(s.set k (List.replicate (ys.length+1) 0))[k]?=some (List.replicate (ys.length+1) 0):=by rw [List.getElem?_set,if_pos rfl,if_pos hks]
   unfold lI
   simp only [hd,if_true,mk1 ys.length (0:Int) hy,Option.bind_some,aQ g0,Int.toNat_natCast,inner k s _ (by omega) g1,bH k (by omega)]
   refine ⟨_,rfl, ?_⟩
   rw [List.set_set,hI,Td hCk]) (fun s _=>by
   have:¬ ((List.range (xs.length+1)).length:Int)≤(xs.length:Int):=by rw [List.length_range];omega
   unfold lI
   simp only [this,decide_false,Bool.false_eq_true,if_false])
 rw [List.length_range,← hCl,List.take_length,Nat.sub_self,List.replicate_zero,List.append_nil] at q2
 unfold nY
 rw [mk1 xs.length ([]:List Int) hx]
 simp only [Option.bind_some]
 rw [show ((0:Int),List.replicate (xs.length+1) ([]:List Int))=(((0:Nat):Int),List.replicate (xs.length+1) []) from rfl,q1,q2,hC]
 rfl
end
def cS (q x:cT):Prop:=q.X2=x.X1∧q.Y2=x.Y1∧(q.Y1=x.Y2∨q.X1=x.X2)
instance (q x:cT):Decidable (cS q x):=by unfold cS;infer_instance
abbrev Ln:=bB
def jn (q x:Ln):Prop:=q.Low=x.Low∧q.mC=x.mC∧cS q.At x.At
instance (q x:Ln):Decidable (jn q x):=by unfold jn;infer_instance
theorem join_nil (x:Ln) (h:x.Low≠x.mC):cX x []=some [x]:=by
 unfold cX
 have e1:(x.Low==x.mC)=false:=by simp [h]
 have e2:aJ (([]:List Ln).length:Int) 1=-1:=bK (by simp) (by simp)
 rw [e2]
 simp only [e1,Bool.false_eq_true,if_false,show decide ((-1:Int) ≥ 0)=false from rfl,Option.bind_some]
 rw [lA (by simp [LIM])]
 rfl
theorem HS (x:Ln) (l:List Ln) (h:x.Low=x.mC):cX x l=some l:=by
 unfold cX
 simp [h]
theorem Pj (x q:Ln) (o:List Ln) (ho:o.length≤10000000) (h:x.Low≠x.mC):cX x (o++[q])=some (if jn q x then o++[⟨⟨q.At.X1,q.At.Y1,x.At.X2,x.At.Y2⟩,q.Low,q.mC⟩] else o++[q]++[x]):=by
 unfold cX
 have e1:(x.Low==x.mC)=false:=by simp [h]
 have hlen:((o++[q]).length:Int)=(o.length:Int)+1:=by simp
 have e2:aJ ((o++[q]).length:Int) 1=(o.length:Int):=by rw [hlen,bK (by omega) (by omega)];omega
 have g:(o++[q])[o.length]?=some q:=by simp
 have d:decide ((o.length:Int) ≥ 0)=true:=by simp
 rw [e2]
 simp only [e1,Bool.false_eq_true,if_false,d,if_true,aQ g,Option.bind_some,Int.toNat_natCast]
 have hj : (if (q.Low==x.Low)=true then (if (q.mC==x.mC)=true then (if (q.At.X2==x.At.X1)=true then (if (q.At.Y2==x.At.Y1)=true then (if (q.At.Y1==x.At.Y2)=true then some true else some (q.At.X1==x.At.X2)) else some false) else some false) else some false) else some false)=some (decide (jn q x)):=by
  unfold jn cS
  by_cases h1:q.Low=x.Low
  ·by_cases h2:q.mC=x.mC
   ·by_cases h3:q.At.X2=x.At.X1
    ·by_cases h4:q.At.Y2=x.At.Y1
     ·by_cases h5:q.At.Y1=x.At.Y2
      ·simp [h1,h2,h3,h4,h5]
      ·by_cases h6:q.At.X1=x.At.X2
       ·simp [h1,h2,h3,h4,h5,h6]
       ·simp [h1,h2,h3,h4,h5,h6]
     ·simp [h1,h2,h3,h4]
    ·simp [h1,h2,h3]
   ·simp [h1,h2]
  ·simp [h1]
 rw [hj,Option.bind_some]
 by_cases hc:jn q x
 ·have s1:(o++[q]).set o.length (⟨⟨q.At.X1,q.At.Y1,x.At.X2,q.At.Y2⟩,q.Low,q.mC⟩:Ln)=o++[⟨⟨q.At.X1,q.At.Y1,x.At.X2,q.At.Y2⟩,q.Low,q.mC⟩]:=by rw [List.set_append_right _ _ (Nat.le_refl _)];simp
  have g2:(o++[(⟨⟨q.At.X1,q.At.Y1,x.At.X2,q.At.Y2⟩,q.Low,q.mC⟩:Ln)])[o.length]?=some ⟨⟨q.At.X1,q.At.Y1,x.At.X2,q.At.Y2⟩,q.Low,q.mC⟩:=by simp
  simp only [hc,decide_true,if_true,s1,aQ g2,Option.bind_some]
  rw [List.set_append_right _ _ (Nat.le_refl _)]
  simp
 ·simp only [hc,decide_false,Bool.false_eq_true,if_false]
  rw [lA (by simp [LIM];omega)]
  simp
theorem NI {A B:Int→Option Int} {xs:List Int} (h:Al A B xs) {ln:Int→Int→cT} {body:Int×List Ln→Option (Int×List Ln ⊕ List Ln)}
  (hb:∀ (k:Nat) x x' (out:List Ln),xs[k]?=some x→xs[k+1]?=some x'→body ((k:Int),out)=(cX ⟨ln x x',nm (B x),nm (A x)⟩ out).bind fun r=>some (.inl (((k+1:Nat):Int),r)))
  (hend:∀ (k:Nat) (out:List Ln),k<100000→xs.length≤k+1→body ((k:Int),out)=some (.inr out)) (hcs:∀ a b e e',cS (ln a b) (ln e e')↔b=e) (hmg:∀ a e e',(⟨(ln a e).X1,(ln a e).Y1,(ln e e').X2,(ln e e').Y2⟩:cT)=ln a e')
  {out0:List Ln} (h0:out0.length≤5000000) (hout:∀ q ∈ out0,∀ x x',x<x'→¬ cS q.At (ln x x')) :
  ∃ L,aK body (0,out0)=some (out0++L.map fun p=>⟨ln p.1 p.2,nm (B p.1),nm (A p.1)⟩)∧nR (fun z=>cod (A z) (B z)) L∧L.length≤xs.length:=by
 obtain ⟨s,hs⟩:∃ s:Int→Int,s=fun z=>cod (A z) (B z):=⟨_,rfl⟩
 have hlen:=h.len
 have s0:∀ z,s z=0↔A z=B z:=fun z=>by rw [hs];exact h.s0 z
 have sinj:∀ z w,s z≠0→s z=s w→A z=A w∧B z=B w:=fun z w q1 q2=>by subst hs;exact h.inj q1 q2
 obtain ⟨lo,hlo⟩:=h.lo
 replace hlo:∀ z,z<lo→s z=0:=fun z hz=>by rw [hs];exact hlo z hz
 have hst:Fc s xs:=by rw [hs];exact Hz (fun p:Option Int×Option Int=>cod p.1 p.2) (g:=fun z=>(A z,B z)) h.st
 rw [← hs]
 obtain ⟨mk,hmk⟩:∃ mk:Int×Int→Ln,mk=fun p=>⟨ln p.1 p.2,nm (B p.1),nm (A p.1)⟩:=⟨_,rfl⟩
 rw [← hmk]
 obtain ⟨r,q1,q2⟩:=mG (fun t:Int×List Ln=>((xs.length:Int)-t.1).toNat)
  (fun t:Int×List Ln=>∃ k:Nat,t.1=k∧(k<xs.length∨k=0)∧(xs=[]→t.2=out0)∧(∀ e,xs[k]?=some e→∃ L,nR (cut s e) L∧L.length≤k∧t.2=out0++L.map mk))
  (fun r=>∃ L,r=out0++L.map mk∧nR s L∧L.length≤xs.length) body (by
   rintro ⟨k',out⟩ ⟨k,hk',hk,hnil,hI⟩
   simp only at hk' hnil hI ⊢
   subst hk'
   by_cases hkl:k+1<xs.length
   case neg =>
    right
    refine ⟨out,hend k out (by omega) (by omega), ?_⟩
    rcases hk with hk | rfl
    ·obtain ⟨e,he⟩:∃ e,xs[k]?=some e:=⟨_,List.getElem?_eq_getElem hk⟩
     obtain ⟨L,hL,hLk,ho⟩:=hI e he
     refine ⟨L,ho,Uk hL fun z hz=>?_,by omega⟩
     have:=h.high e (by rw [show xs.length-1=k from by omega];exact he) z hz
     rw [s0,this.1,this.2]
    ·rcases Classical.em (xs=[]) with q | q
     ·refine ⟨[],by rw [hnil q];simp,⟨.nil,fun a b=>⟨fun m=>by simp at m,fun m=>absurd ((s0 a).2 ?_) m.2.1⟩⟩,by simp⟩
      rw [(h.emp q a).1,(h.emp q a).2]
     ·have hp:=List.length_pos_iff.2 q
      obtain ⟨e,he⟩:∃ e,xs[0]?=some e:=⟨_,List.getElem?_eq_getElem hp⟩
      obtain ⟨L,hL,hLk,ho⟩:=hI e he
      refine ⟨L,ho,Uk hL fun z hz=>?_,by omega⟩
      have:=h.high e (by rw [show xs.length-1=0 from by omega];exact he) z hz
      rw [s0,this.1,this.2]
   left
   obtain ⟨e,he⟩:∃ e,xs[k]?=some e:=⟨_,List.getElem?_eq_getElem (by omega)⟩
   obtain ⟨e',he'⟩:∃ e',xs[k+1]?=some e':=⟨_,List.getElem?_eq_getElem hkl⟩
   obtain ⟨hee,hst'⟩:=xF hst he he'
   obtain ⟨L,hL,hLk,ho⟩:=hI e he
   rw [hb k e e' out he he']
   have fin:∀ L',nR (cut s e') L'→L'.length≤k+1→cX ⟨ln e e',nm (B e),nm (A e)⟩ out=some (out0++L'.map mk) →
     ∃ s',(cX ⟨ln e e',nm (B e),nm (A e)⟩ out).bind (fun r=>some (.inl (((k+1:Nat):Int),r)))=some (.inl s':Int×List Ln ⊕ List Ln)∧(∃ k:Nat,s'.1=k∧(k<xs.length∨k=0)∧(xs=[]→s'.2=out0)∧(∀ e,xs[k]?=some e→∃ L,nR (cut s e) L∧L.length≤k∧s'.2=out0++L.map mk))∧((xs.length:Int)-s'.1).toNat<((xs.length:Int)-(k:Int)).toNat:=fun L' h1 h2 h3=>by
    rw [h3]
    refine ⟨(((k+1:Nat):Int),out0++L'.map mk),rfl,⟨k+1,rfl,.inl hkl,fun q=>by rw [q] at hkl;simp at hkl,fun e2 he2=>?_⟩,by simp only;omega⟩
    rw [he'] at he2;injection he2 with he2;subst he2
    exact ⟨L',h1,h2,rfl⟩
   have hne_iff:nm (B e)=nm (A e)↔s e=0:=by rw [s0,Yl (h.sb e) (h.sa e)];exact eq_comm
   rcases Classical.em (s e=0) with e0 | e0
   ·refine fin L (Pr hL hee hst' e0) (by omega) ?_
    rw [HS _ _ (hne_iff.2 e0),ho]
   ·have hlh:(⟨ln e e',nm (B e),nm (A e)⟩:Ln).Low≠(⟨ln e e',nm (B e),nm (A e)⟩:Ln).mC:=fun q=>e0 (hne_iff.1 q)
    rcases Classical.em (s (e-1)=s e) with e1 | e1
    ·obtain ⟨l0,a,hla,hrun⟩:=Xg hL hee hst' hlo e0 e1
     have hr:=tF.1 ((hL.2 a e).1 (by rw [hla];simp))
     have hb2:=sinj (e-1) a (by rw [e1];exact e0) (hr.2.2.2.1 (e-1) (by omega) (by omega))
     have hb3:=sinj (e-1) e (by rw [e1];exact e0) e1
     refine fin (l0++[(a,e')]) hrun (by rw [hla] at hLk;simp at hLk ⊢;omega) ?_
     have hout':out=(out0++l0.map mk)++[mk (a,e)]:=by rw [ho,hla];simp
     rw [hout',Pj _ _ _ (by rw [hla] at hLk;simp at hLk ⊢;omega) hlh,if_pos,List.map_append,← List.append_assoc]
     ·rw [hmk]
      simp only [List.map_cons,List.map_nil]
      rw [hmg]
     ·rw [hmk]
      refine ⟨?_, ?_,(hcs _ _ _ _).2 rfl⟩
      ·show nm (B a)=nm (B e);rw [← hb2.2,hb3.2]
      ·show nm (A a)=nm (A e);rw [← hb2.1,hb3.1]
    ·refine fin (L++[(e,e')]) (BK hL hee hst' e0 e1) (by simp;omega) ?_
     have hres:(out0++L.map mk)++[(⟨ln e e',nm (B e),nm (A e)⟩:Ln)]=out0++(L++[(e,e')]).map mk:=by rw [List.map_append,← List.append_assoc,hmk];rfl
     rw [← hres,ho]
     rcases List.eq_nil_or_concat L with rfl | ⟨l0,p,hLp⟩
     ·rcases List.eq_nil_or_concat out0 with rfl | ⟨o,q,hoq⟩
      ·simp only [List.map_nil,List.append_nil,List.nil_append]
       exact join_nil _ hlh
      ·have hoq':out0=o++[q]:=by rw [hoq];exact List.concat_eq_append
       simp only [List.map_nil,List.append_nil]
       rw [hoq',Pj _ _ _ (by rw [hoq'] at h0;simp at h0;omega) hlh,if_neg]
       exact fun z=>hout q (by rw [hoq'];simp) e e' hee z.2.2
     ·have hLp':L=l0++[p]:=by rw [hLp];exact List.concat_eq_append
      have hout':out0++L.map mk=(out0++l0.map mk)++[mk p]:=by rw [hLp'];simp
      rw [hout',Pj _ _ _ (by rw [hLp'] at hLk;simp at hLk ⊢;omega) hlh,if_neg]
      intro z
      have hr:=tF.1 ((hL.2 p.1 p.2).1 (by rw [hLp'];simp))
      rw [hmk] at z
      obtain ⟨z1,z2,z3⟩:=z
      have z3':=(hcs p.1 p.2 e e').1 z3
      have z1':nm (B p.1)=nm (B e):=z1
      have z2':nm (A p.1)=nm (A e):=z2
      have y1:=(Yl (h.sb _) (h.sb _)).1 z1'
      have y2:=(Yl (h.sa _) (h.sa _)).1 z2'
      refine e1 ?_
      have:=hr.2.2.2.1 (e-1) (by omega) (by omega)
      rw [this,hs]
      simp only
      rw [y1,y2]) (0,out0)
   ⟨0,rfl,by omega,fun _=>rfl,fun e he=>by
    have hl:=h.low e he
    exact ⟨[],Ul fun z hz=>by rw [s0,(hl z hz).1,(hl z hz).2],by simp,by simp⟩⟩
 obtain ⟨L,rfl,q3,q4⟩:=q2
 exact ⟨L,q1,q3,q4⟩
end Go.SM
namespace Go.SM
open Go Go.VI
def xS (l:aT):Int×(List (List Bool))→Option (Int×(List (List Bool)) ⊕ (List (List Bool))):=fun a0 =>
 if (decide (a0.1<(l.aB.length:Int))) then ((idx l.aB a0.1).bind fun a3=>(mk (a3.bO.length:Int) false).bind fun a1=>(app a0.2 [a1]).bind fun a2=>some (.inl ((aL a0.1 1),a2))) else (some (.inr a0.2))
def xJ (l:aT) (edges:Int):Option (bQ):=
 (mk edges false).bind fun l9=>(mk (l.aB.length:Int) false).bind fun a1=>(mk (l.aB.length:Int) 0).bind fun a2=>(mk (l.aB.length:Int) false).bind fun a3=>(aK (xS l) (0,[])).bind fun a0=>some (bQ.mk l9 a0 a1 a2 a3)
def jM (l:aT):Int×(List (List Bool))→Option (Int×(List (List Bool)) ⊕ (List (List Bool))):=fun a0 =>
 if (decide (a0.1<(l.aB.length:Int))) then ((idx l.aB a0.1).bind fun a3=>(mk (a3.bO.length:Int) false).bind fun a1=>(app a0.2 [a1]).bind fun a2=>some (.inl ((aL a0.1 1),a2))) else (some (.inr a0.2))
def jD (l:aT):Option (aW):=
 (cZ l).bind fun a5=>(mk (a5.length:Int) false).bind fun a1=>(mk (l.aB.length:Int) false).bind fun a2=>(mk (l.aB.length:Int) 0).bind fun a3=>(mk (l.aB.length:Int) false).bind fun a4=>(aK (jM l) (0,[])).bind fun a0=>some (aW.mk a1 a0 a2 a3 a4)
def Cj (a:(List Int)) (b:(List Int)):Int→Option (Int ⊕ (Unit ⊕ Unit)):=fun a0 =>
 if (decide (a0<(a.length:Int))) then ((idx a a0).bind fun a1=>(idx b a0).bind fun a2=>if (a1 != a2) then (some (.inr (.inl ()))) else (some (.inl (aL a0 1)))) else (some (.inr (.inr (()))))
def rS (a:(List Int)) (b:(List Int)):Option (Bool):=
 if ((a.length:Int) != (b.length:Int)) then (some false) else ((aK (Cj a b) 0).bind fun a0=>match a0 with | .inl a1=>some false | .inr a2=>some true)
def pW (st:bQ) (l:aT):Int→Option (Int ⊕ (Unit ⊕ Unit)):=fun a0 =>
 if (decide (a0<(l.aB.length:Int))) then ((idx l.aB a0).bind fun a1=>(idx st.bD a0).bind fun a2=>if ((a2.length:Int) != (a1.bO.length:Int)) then (some (.inr (.inl ()))) else (some (.inl (aL a0 1)))) else (some (.inr (.inr (()))))
def kI (st:bQ) (l:aT) (edges:Int):Option (Bool):=
 (if ((st.Cut.length:Int) != edges) then (some true) else (if ((st.bD.length:Int) != (l.aB.length:Int)) then (some true) else (if ((st.cG.length:Int) != (l.aB.length:Int)) then (some true) else (if ((st.aX.length:Int) != (l.aB.length:Int)) then (some true) else (some ((st.bJ.length:Int) != (l.aB.length:Int))))))).bind fun j2=>if j2 then (some false) else ((aK (pW st l) 0).bind fun a0=>match a0 with | .inl a1=>some false | .inr a2=>some true)
def kT (s0:(List Bool)) (v:Bool):Int→Option (Int ⊕ (Int ⊕ Unit)):=fun a0 =>
 if (decide (a0<(s0.length:Int))) then ((idx s0 a0).bind fun a1=>if (v==a1) then (some (.inr (.inl a0))) else (some (.inl (aL a0 1)))) else (some (.inr (.inr (()))))
def sX (s0:(List Bool)) (v:Bool):Option (Int):=
 (aK (kT s0 v) 0).bind fun a1=>match a1 with | .inl a0=>some a0 | .inr a2=>some (-1)
def dJ (s0:(List Bool)) (v:Bool):Option (Bool):=
 (sX s0 v).bind fun r2=>some (decide (r2 ≥ 0))
def Js (e:bC) (piece:Int):Option (Bool):=
 (if (e.A==piece) then (some true) else (some (e.B==piece))).bind fun j1=>some j1
def pX (st:bQ) (all:(List bC)) (piece:Int):Int→Option (Int ⊕ (Unit ⊕ Unit)):=fun a0 =>
 if (decide (a0<(all.length:Int))) then ((idx all a0).bind fun a3=>((Js a3 piece).bind fun a2=>if a2 then ((idx st.Cut a0).bind fun a4=>some (!a4)) else (some false)).bind fun a1=>if a1 then (some (.inr (.inl ()))) else (some (.inl (aL a0 1)))) else (some (.inr (.inr (()))))
def sN (st:bQ) (all:(List bC)) (piece:Int):Option (Bool):=
 (aK (pX st all piece) 0).bind fun a0=>match a0 with | .inl a1=>some false | .inr a2=>some true
def wW (st:bQ) (all:(List bC)) (x2:bU):Option (Bool):=
 (idx st.bJ x2.aV).bind fun a3=>if a3 then (some false) else (if (decide (x2.jU ≥ 0)) then ((idx st.bD x2.aV).bind fun a4=>(idx a4 x2.jU).bind fun a5=>some (!a5)) else (((idx st.cG x2.aV).bind fun a6=>if a6 then (some false) else ((idx st.bD x2.aV).bind fun a7=>(dJ a7 false).bind fun a1=>if a1 then (some false) else ((sN st all x2.aV).bind fun a2=>some (!a2)))).bind fun a0=>some a0))
def xP (a1:Int×Int×Int×Int×Int):(Int×Int×Int×Int)→Option ((Int×Int×Int×Int×Int) ⊕ (Int×Int×Int×Int)):=fun a0 =>
 some (.inl ((aL a1.1 1),a0.1,a0.2.1,a0.2.2.1,a0.2.2.2))
def xQ (x0:aV):(Int×Int×Int×Int×Int)→Option ((Int×Int×Int×Int×Int) ⊕ (Int×Int×Int×Int)):=fun a0 =>
 if (decide (a0.1<(x0.aD.length:Int))) then ((idx x0.aD a0.1).bind fun a1=>(fJ a1).bind fun a2=>if (!a2) then (xP a0 (a0.2.1,a0.2.2.1,a0.2.2.2.1,a0.2.2.2.2)) else (if (a0.2.2.2.1==0) then (xP a0 (a1.X,a1.Y,a1.W,a1.H)) else (xP a0 ((mF a0.2.1 a1.X),(mF a0.2.2.1 a1.Y),(aJ (imax (aL a0.2.1 a0.2.2.2.1) (aL a1.X a1.W)) (mF a0.2.1 a1.X)),(aJ (imax (aL a0.2.2.1 a0.2.2.2.2) (aL a1.Y a1.H)) (mF a0.2.2.1 a1.Y)))))) else (some (.inr (a0.2.1,a0.2.2.1,a0.2.2.2.1,a0.2.2.2.2)))
def yU (x0:aV):Option (Bool):=
 (aK (xQ x0) (0,0,0,0,0)).bind fun a0=>some (decide ((mF a0.2.2.1 a0.2.2.2)<7200))
def Cw (r0:aS) (a_0:Int) (a_1:Int) (a_2:Int) (a_3:Int):Option (Bool):=
 (xK (aS.mk a_0 a_1 a_2 a_3) r0).bind fun r2=>some r2
def bS (s0:(List aS)) (f_0_0:Int) (f_0_1:Int) (f_0_2:Int) (f_0_3:Int):Int→Option (Int ⊕ (Int ⊕ Unit)):=fun a0 =>
 if (decide (a0<(s0.length:Int))) then ((idx s0 a0).bind fun a2=>(Cw a2 f_0_0 f_0_1 f_0_2 f_0_3).bind fun a1=>if a1 then (some (.inr (.inl a0))) else (some (.inl (aL a0 1)))) else (some (.inr (.inr (()))))
def eD (s0:(List aS)) (f_0_0:Int) (f_0_1:Int) (f_0_2:Int) (f_0_3:Int):Option (Int):=
 (aK (bS s0 f_0_0 f_0_1 f_0_2 f_0_3) 0).bind fun a1=>match a1 with | .inl a0=>some a0 | .inr a2=>some (-1)
def cA (s0:(List aS)) (f_0_0:Int) (f_0_1:Int) (f_0_2:Int) (f_0_3:Int):Option (Bool):=
 (eD s0 f_0_0 f_0_1 f_0_2 f_0_3).bind fun r2=>some (decide (r2 ≥ 0))
def tL (l:(List aS)) (s1:Ar):Int→Option (Int ⊕ (Unit ⊕ Unit)):=fun a1 =>
 if (decide (a1<([(aS.mk (aJ s1.X 1) (aJ s1.Y 1) 1 1),(aS.mk s1.X (aJ s1.Y 1) 1 1),(aS.mk (aJ s1.X 1) s1.Y 1 1),(aS.mk s1.X s1.Y 1 1)].length:Int))) then ((idx [(aS.mk (aJ s1.X 1) (aJ s1.Y 1) 1 1),(aS.mk s1.X (aJ s1.Y 1) 1 1),(aS.mk (aJ s1.X 1) s1.Y 1 1),(aS.mk s1.X s1.Y 1 1)] a1).bind fun a0=>(cA l a0.X a0.Y a0.W a0.H).bind fun a2=>if (!a2) then (some (.inr (.inl ()))) else (some (.inl (aL a1 1)))) else (some (.inr (.inr (()))))
def eT (l:(List aS)) (s1:Ar):Option (Bool):=
 (if (decide (s1.X<(-4194304))) then (some true) else (if (decide (s1.X>4194304)) then (some true) else (if (decide (s1.Y<(-4194304))) then (some true) else (some (decide (s1.Y>4194304)))))).bind fun j2=>if j2 then (some false) else ((aK (tL l s1) 0).bind fun a0=>match a0 with | .inl a1=>some false | .inr a2=>some true)
def Xx (s0:Ar) (l:cT):Option (Int):=
 some (imax (imax (imax (imax 0 (aJ l.X1 s0.X)) (aJ s0.X l.X2)) (aJ l.Y1 s0.Y)) (aJ s0.Y l.Y2))
def fO (l:aT) (x3:bU):Int→Option (Int ⊕ (Unit ⊕ Unit)):=fun a0 =>
 if (decide (a0<(l.aB.length:Int))) then ((idx l.aB a0).bind fun a2=>(eT a2.aD (Ar.mk x3.cW.X x3.cW.Y)).bind fun a1=>if a1 then (some (.inr (.inl ()))) else (some (.inl (aL a0 1)))) else (some (.inr (.inr (()))))
def pY (st:bQ) (all:(List bC)) (x3:bU):Int→Option (Int ⊕ (Unit ⊕ Unit)):=fun a0 =>
 if (decide (a0<(all.length:Int))) then ((idx all a0).bind fun a1=>((Js a1 x3.aV).bind fun a3=>if a3 then ((idx st.Cut a0).bind fun a5=>if a5 then (some false) else ((Xx (Ar.mk x3.cW.X x3.cW.Y) a1.Line).bind fun a4=>some (decide (a4≤7200)))) else (some false)).bind fun a2=>if a2 then (some (.inr (.inl ()))) else (some (.inl (aL a0 1)))) else (some (.inr (.inr (()))))
def oW (st:bQ) (l:aT) (all:(List bC)) (x3:bU):Option (Bool):=
 if (decide (x3.jU ≥ 0)) then ((idx l.aB x3.aV).bind fun a7=>(idx a7.bO x3.jU).bind fun a0=>(if (decide (x3.cW.X>a0.X)) then (if (decide (x3.cW.X<(aL a0.X a0.W))) then (if (decide (x3.cW.Y>a0.Y)) then (some (decide (x3.cW.Y<(aL a0.Y a0.H)))) else (some false)) else (some false)) else (some false)).bind fun a2=>some a2) else ((if (decide (x3.cW.X<0)) then (some true) else (if (decide (x3.cW.X>l.bF.fA)) then (some true) else (if (decide (x3.cW.Y<0)) then (some true) else (if (decide (x3.cW.Y>l.bF.cQ)) then (some true) else ((eT l.bF.cC (Ar.mk x3.cW.X x3.cW.Y)).bind fun a6=>some a6))))).bind fun a3=>if a3 then (some false) else ((aK (fO l x3) 0).bind fun a8=>match a8 with | .inl a9=>some false | .inr b0=>(aK (pY st all x3) 0).bind fun a1=>match a1 with | .inl a4=>some true | .inr a5=>some false))
def iI (s:(List Bool)):Option (List Bool):=app [] s
def wT (s:(List Int)):Option (List Int):=app [] s
def lT (st:bQ):Int×(List (List Bool))→Option (Int×(List (List Bool)) ⊕ (List (List Bool))):=fun a0 =>
 if (decide (a0.1<(st.bD.length:Int))) then ((idx st.bD a0.1).bind fun a3=>(iI a3).bind fun a2=>(app a0.2 [a2]).bind fun a1=>some (.inl ((aL a0.1 1),a1))) else (some (.inr a0.2))
def tM (st:bQ):Option (bQ):=
 (iI st.Cut).bind fun r9=>(iI st.cG).bind fun a1=>(wT st.aX).bind fun a2=>(iI st.bJ).bind fun a3=>(aK (lT st) (0,[])).bind fun a0=>some (bQ.mk r9 a0 a1 a2 a3)
def Km (a1:Int×(List Bool)):(List Bool)→Option (Int×(List Bool) ⊕ (List Bool)):=fun a0 =>
 some (.inl ((aL a1.1 1),a0))
def yX (l:aT) (all:(List bC)) (a1:(List Bool)×(List (List Bool))×(List Bool)×(List Int)):Int×(List Bool)→Option (Int×(List Bool) ⊕ (List Bool)):=fun a0 =>
 if (decide (a0.1<(l.aB.length:Int))) then (((sN (bQ.mk a1.1 a1.2.1 a1.2.2.1 a1.2.2.2 a0.2) all a0.1).bind fun a3=>if a3 then ((idx a1.2.2.1 a0.1).bind fun a4=>if a4 then ((idx a1.2.2.2 a0.1).bind fun a5=>some (!(decide (a5>0)))) else (some true)) else (some false)).bind fun a2=>if a2 then ((idx a0.2 a0.1).bind fun a6=>Km a0 (List.set a0.2 (Int.toNat a0.1) true)) else (Km a0 a0.2)) else (some (.inr a0.2))
def yV (l:aT) (all:(List bC)) (a2:bQ):((List Bool)×(List (List Bool))×(List Bool)×(List Int))→Option (bQ×Int):=fun a0 =>
 (aK (yX l all a0) (0,a2.bJ)).bind fun a1=>some ((bQ.mk a0.1 a0.2.1 a0.2.2.1 a0.2.2.2 a1),0)
def Kn (a1:Int×(List Bool)):(List Bool)→Option (Int×(List Bool) ⊕ (List Bool)):=fun a0 =>
 some (.inl ((aL a1.1 1),a0))
def Cn (all:(List bC)) (x3:bU):Int×(List Bool)→Option (Int×(List Bool) ⊕ (List Bool)):=fun a0 =>
 if (decide (a0.1<(all.length:Int))) then ((idx all a0.1).bind fun a2=>(Js a2 x3.aV).bind fun a1=>if a1 then ((idx a0.2 a0.1).bind fun a3=>Kn a0 (List.set a0.2 (Int.toNat a0.1) true)) else (Kn a0 a0.2)) else (some (.inr a0.2))
def Fh (l:aT) (all:(List bC)) (st:bQ) (x3:bU):Option (bQ×Int):=
 ((kI st l (all.length:Int)).bind fun a6=>if a6 then (if (decide (x3.aV<0)) then (some true) else (some (decide (x3.aV ≥ (l.aB.length:Int))))) else (some true)).bind fun a3=>if a3 then (some ((bQ.mk [] [] [] [] []),1)) else ((if (decide (x3.jU<(-1))) then (some true) else ((idx l.aB x3.aV).bind fun b3=>if (decide (x3.jU ≥ (b3.bO.length:Int))) then (some true) else (if (decide (x3.aX<0)) then (some true) else (if (decide (x3.aX>4)) then (some true) else (if (decide (x3.jU ≥ 0)) then (some (x3.aX != 0)) else (some false)))))).bind fun a4=>if a4 then (some ((bQ.mk [] [] [] [] []),1)) else ((wW st all x3).bind fun a7=>if (!a7) then (some ((bQ.mk [] [] [] [] []),12)) else ((if (decide (x3.jU<0)) then (if (x3.aX==0) then ((idx l.aB x3.aV).bind fun b4=>(yU b4).bind fun a8=>some a8) else (some false)) else (some false)).bind fun a5=>if a5 then (some ((bQ.mk [] [] [] [] []),15)) else ((oW st l all x3).bind fun a9=>if (!a9) then (some ((bQ.mk [] [] [] [] []),14)) else ((tM st).bind fun a0=>if (decide (x3.jU ≥ 0)) then ((idx a0.bD x3.aV).bind fun a1=>(idx a1 x3.jU).bind fun b0=>yV l all a0 (a0.Cut,(List.set a0.bD (Int.toNat x3.aV) (List.set a1 (Int.toNat x3.jU) true)),a0.cG,a0.aX)) else ((idx a0.cG x3.aV).bind fun b1=>(idx a0.aX x3.aV).bind fun b2=>(aK (Cn all x3) (0,a0.Cut)).bind fun a2=>yV l all a0 (a2,a0.bD,(List.set a0.cG (Int.toNat x3.aV) true),(List.set a0.aX (Int.toNat x3.aV) x3.aX))))))))
def kC (l:aT) (st:aW):Int→Option (Int ⊕ (Unit ⊕ Unit)):=fun a0 =>
 if (decide (a0<(l.aB.length:Int))) then ((idx st.bD a0).bind fun a1=>(idx l.aB a0).bind fun a2=>if ((a1.length:Int) != (a2.bO.length:Int)) then (some (.inr (.inl ()))) else (some (.inl (aL a0 1)))) else (some (.inr (.inr (()))))
def eY (l:aT) (st:aW) (edges:Int):Option (Bool):=
 (if ((st.Cut.length:Int) != edges) then (some true) else (if ((st.bD.length:Int) != (l.aB.length:Int)) then (some true) else (if ((st.cG.length:Int) != (l.aB.length:Int)) then (some true) else (if ((st.aX.length:Int) != (l.aB.length:Int)) then (some true) else (some ((st.bJ.length:Int) != (l.aB.length:Int))))))).bind fun j2=>if j2 then (some false) else ((aK (kC l st) 0).bind fun a0=>match a0 with | .inl a1=>some false | .inr a2=>some true)
def nZ (l:(List Bool)):Int→Option (Int ⊕ (Unit ⊕ Unit)):=fun a0 =>
 if (decide (a0<(l.length:Int))) then ((idx l a0).bind fun a1=>if (!a1) then (some (.inr (.inl ()))) else (some (.inl (aL a0 1)))) else (some (.inr (.inr (()))))
def kY (l:(List Bool)):Option (Bool):=
 (aK (nZ l) 0).bind fun a0=>match a0 with | .inl a1=>some false | .inr a2=>some true
def jL (l:(List bC)) (st:aW) (piece:Int):Int→Option (Int ⊕ (Unit ⊕ Unit)):=fun a0 =>
 if (decide (a0<(l.length:Int))) then (((idx l a0).bind fun a2=>if (a2.A==piece) then ((idx st.Cut a0).bind fun a3=>some (!a3)) else ((idx l a0).bind fun a4=>if (a4.B==piece) then ((idx st.Cut a0).bind fun a5=>some (!a5)) else (some false))).bind fun a1=>if a1 then (some (.inr (.inl ()))) else (some (.inl (aL a0 1)))) else (some (.inr (.inr (()))))
def gL (l:(List bC)) (st:aW) (piece:Int):Option (Bool):=
 (aK (jL l st piece) 0).bind fun a0=>match a0 with | .inl a1=>some false | .inr a2=>some true
def mP (a1:Bool×Int×Int×Int×Int×Int):(Bool×Int×Int×Int×Int)→Option ((Bool×Int×Int×Int×Int×Int) ⊕ (Bool×Int×Int×Int×Int)):=fun a0 =>
 some (.inl (a0.1,a0.2.1,a0.2.2.1,a0.2.2.2.1,a0.2.2.2.2,(aL a1.2.2.2.2.2 1)))
def mQ (a2:Bool×Int×Int×Int×Int×Int) (a0:aS):(Bool×Int×Int×Int×Int)→Option ((Bool×Int×Int×Int×Int×Int) ⊕ (Bool×Int×Int×Int×Int)):=fun a1 =>
 mP a2 (a1.1,(mF a1.2.1 a0.X),(mF a1.2.2.1 a0.Y),(imax a1.2.2.2.1 (aL a0.X a0.W)),(imax a1.2.2.2.2 (aL a0.Y a0.H)))
def jI (x0:aV):(Bool×Int×Int×Int×Int×Int)→Option ((Bool×Int×Int×Int×Int×Int) ⊕ (Bool×Int×Int×Int×Int)):=fun a0 =>
 if (decide (a0.2.2.2.2.2<(x0.aD.length:Int))) then ((idx x0.aD a0.2.2.2.2.2).bind fun a1=>(cY a1).bind fun a2=>if (!a2) then (mP a0 (a0.1,a0.2.1,a0.2.2.1,a0.2.2.2.1,a0.2.2.2.2.1)) else (if (!a0.1) then (mQ a0 a1 (true,a1.X,a1.Y,(aL a1.X a1.W),(aL a1.Y a1.H))) else (mQ a0 a1 (a0.1,a0.2.1,a0.2.2.1,a0.2.2.2.1,a0.2.2.2.2.1)))) else (some (.inr (a0.1,a0.2.1,a0.2.2.1,a0.2.2.2.1,a0.2.2.2.2.1)))
def fH (x0:aV):Option (Bool):=
 (aK (jI x0) (false,0,0,0,0,0)).bind fun a0=>(if a0.1 then (some (decide ((mF (aJ a0.2.2.2.1 a0.2.1) (aJ a0.2.2.2.2 a0.2.2.1))<7200))) else (some true)).bind fun a1=>some a1
def iS (l:(List aS)) (x1:Int) (y:Int):Int→Option (Int ⊕ (Unit ⊕ Unit)):=fun a0 =>
 if (decide (a0<(l.length:Int))) then ((idx l a0).bind fun a2=>(iK (aS.mk x1 y 1 1) a2).bind fun a1=>if a1 then (some (.inr (.inl ()))) else (some (.inl (aL a0 1)))) else (some (.inr (.inr (()))))
def fZ (l:(List aS)) (x1:Int) (y:Int):Option (Bool):=
 (aK (iS l x1 y) 0).bind fun a0=>match a0 with | .inl a1=>some true | .inr a2=>some false
def fB (l:(List aS)) (s1:Ar):Option (Bool):=
 (if (decide (s1.X≤(-1048576))) then (some true) else (if (decide (s1.X ≥ 1048576)) then (some true) else (if (decide (s1.Y≤(-1048576))) then (some true) else (some (decide (s1.Y ≥ 1048576)))))).bind fun j2=>if j2 then (some false) else (((fZ l s1.X s1.Y).bind fun r8=>if r8 then ((fZ l (aJ s1.X 1) s1.Y).bind fun r9=>if r9 then ((fZ l s1.X (aJ s1.Y 1)).bind fun a0=>if a0 then ((fZ l (aJ s1.X 1) (aJ s1.Y 1)).bind fun a1=>some a1) else (some false)) else (some false)) else (some false)).bind fun j7=>some j7)
def rE (s0:Ar) (g:cT):Option (Int):=
 some (imax (imax (imax (imax 0 (aJ g.X1 s0.X)) (aJ s0.X g.X2)) (aJ g.Y1 s0.Y)) (aJ s0.Y g.Y2))
def jJ (l:aT) (s4:Ar):Int→Option (Int ⊕ (Unit ⊕ Unit)):=fun a0 =>
 if (decide (a0<(l.aB.length:Int))) then ((idx l.aB a0).bind fun a2=>(fB a2.aD s4).bind fun a1=>if a1 then (some (.inr (.inl ()))) else (some (.inl (aL a0 1)))) else (some (.inr (.inr (()))))
def jK (es:(List bC)) (st:aW) (piece:Int) (s4:Ar):Int→Option (Int ⊕ (Unit ⊕ Unit)):=fun a0 =>
 if (decide (a0<(es.length:Int))) then (((idx es a0).bind fun a4=>if (a4.A==piece) then ((idx st.Cut a0).bind fun a5=>if a5 then (some false) else ((idx es a0).bind fun a6=>(rE s4 a6.Line).bind fun a2=>some (decide (a2≤7200)))) else ((idx es a0).bind fun a7=>if (a7.B==piece) then ((idx st.Cut a0).bind fun a8=>if a8 then (some false) else ((idx es a0).bind fun a9=>(rE s4 a9.Line).bind fun a3=>some (decide (a3≤7200)))) else (some false))).bind fun a1=>if a1 then (some (.inr (.inl ()))) else (some (.inl (aL a0 1)))) else (some (.inr (.inr (()))))
def lS (l:aT) (es:(List bC)) (st:aW) (piece:Int) (s4:Ar):Option (Bool):=
 (if (decide (s4.X<0)) then (some true) else (if (decide (s4.Y<0)) then (some true) else (if (decide (s4.X>l.bF.fA)) then (some true) else (if (decide (s4.Y>l.bF.cQ)) then (some true) else ((fB l.bF.cC s4).bind fun r6=>some r6))))).bind fun j5=>if j5 then (some false) else ((aK (jJ l s4) 0).bind fun a3=>match a3 with | .inl a4=>some false | .inr a5=>(aK (jK es st piece s4) 0).bind fun a0=>match a0 with | .inl a1=>some true | .inr a2=>some false)
def bT (l:aT) (es:(List bC)) (st:aW) (x3:bU):Option (Int):=
 ((eY l st (es.length:Int)).bind fun a7=>if a7 then (if (decide (x3.aV<0)) then (some true) else (if (decide (x3.aV ≥ (l.aB.length:Int))) then (some true) else (if (decide (x3.jU<(-1))) then (some true) else ((idx l.aB x3.aV).bind fun b2=>if (decide (x3.jU ≥ (b2.bO.length:Int))) then (some true) else (if (decide (x3.aX<0)) then (some true) else (if (decide (x3.aX>4)) then (some true) else (if (decide (x3.jU ≥ 0)) then (some (x3.aX != 0)) else (some false)))))))) else (some true)).bind fun a2=>if a2 then (some 1) else ((idx l.aB x3.aV).bind fun a1=>if (decide (x3.jU ≥ 0)) then (((idx st.bJ x3.aV).bind fun b3=>if b3 then (some true) else ((idx st.bD x3.aV).bind fun b4=>(idx b4 x3.jU).bind fun b5=>some b5)).bind fun a3=>if a3 then (some 12) else ((idx a1.bO x3.jU).bind fun a0=>(if (decide (x3.cW.X≤a0.X)) then (some true) else (if (decide (x3.cW.X ≥ (aL a0.X a0.W))) then (some true) else (if (decide (x3.cW.Y≤a0.Y)) then (some true) else (some (decide (x3.cW.Y ≥ (aL a0.Y a0.H))))))).bind fun a4=>if a4 then (some 14) else (some 0))) else (((idx st.bJ x3.aV).bind fun b6=>if b6 then (some true) else ((idx st.cG x3.aV).bind fun b7=>if b7 then (some true) else ((idx st.bD x3.aV).bind fun b8=>(kY b8).bind fun a8=>if a8 then ((gL es st x3.aV).bind fun a9=>some a9) else (some true)))).bind fun a5=>if a5 then (some 12) else ((if (x3.aX==0) then ((fH a1).bind fun b0=>some b0) else (some false)).bind fun a6=>if a6 then (some 15) else ((lS l es st x3.aV x3.cW).bind fun b1=>if (!b1) then (some 14) else (some 0)))))
def jY (st:aW):Int×(List (List Bool))→Option (Int×(List (List Bool)) ⊕ (List (List Bool))):=fun a0 =>
 if (decide (a0.1<(st.bD.length:Int))) then ((idx st.bD a0.1).bind fun a3=>(app [] a3).bind fun a1=>(app a0.2 [a1]).bind fun a2=>some (.inl ((aL a0.1 1),a2))) else (some (.inr a0.2))
def rD (st:aW):Option (aW):=
 (app [] st.Cut).bind fun l9=>(app [] st.cG).bind fun a1=>(app [] st.aX).bind fun a2=>(app [] st.bJ).bind fun a3=>(aK (jY st) (0,[])).bind fun a0=>some (aW.mk l9 a0 a1 a2 a3)
def nH (a1:Int×(List Bool)):(List Bool)→Option (Int×(List Bool) ⊕ (List Bool)):=fun a0 =>
 some (.inl ((aL a1.1 1),a0))
def kA (es:(List bC)) (a1:(List Bool)×(List (List Bool))×(List Bool)×(List Int)):Int×(List Bool)→Option (Int×(List Bool) ⊕ (List Bool)):=fun a0 =>
 if (decide (a0.1<(a0.2.length:Int))) then (((gL es (aW.mk a1.1 a1.2.1 a1.2.2.1 a1.2.2.2 a0.2) a0.1).bind fun a3=>if a3 then ((idx a1.2.2.1 a0.1).bind fun a4=>if a4 then ((idx a1.2.2.2 a0.1).bind fun a5=>some (!(decide (a5>0)))) else (some true)) else (some false)).bind fun a2=>if a2 then ((idx a0.2 a0.1).bind fun a6=>nH a0 (List.set a0.2 (Int.toNat a0.1) true)) else (nH a0 a0.2)) else (some (.inr a0.2))
def jZ (es:(List bC)) (r2:aW):((List Bool)×(List (List Bool))×(List Bool)×(List Int))→Option (aW):=fun a0 =>
 (aK (kA es a0) (0,r2.bJ)).bind fun a1=>some (aW.mk a0.1 a0.2.1 a0.2.2.1 a0.2.2.2 a1)
def nI (a1:Int×(List Bool)):(List Bool)→Option (Int×(List Bool) ⊕ (List Bool)):=fun a0 =>
 some (.inl ((aL a1.1 1),a0))
def kB (es:(List bC)) (x2:bU):Int×(List Bool)→Option (Int×(List Bool) ⊕ (List Bool)):=fun a0 =>
 if (decide (a0.1<(es.length:Int))) then (((idx es a0.1).bind fun a2=>if (a2.A==x2.aV) then (some true) else ((idx es a0.1).bind fun a3=>some (a3.B==x2.aV))).bind fun a1=>if a1 then ((idx a0.2 a0.1).bind fun a4=>nI a0 (List.set a0.2 (Int.toNat a0.1) true)) else (nI a0 a0.2)) else (some (.inr a0.2))
def fW (es:(List bC)) (st:aW) (x2:bU):Option (aW):=
 (rD st).bind fun r2=>if (decide (x2.jU ≥ 0)) then ((idx r2.bD x2.aV).bind fun a0=>(idx a0 x2.jU).bind fun a2=>jZ es r2 (r2.Cut,(List.set r2.bD (Int.toNat x2.aV) (List.set a0 (Int.toNat x2.jU) true)),r2.cG,r2.aX)) else ((idx r2.cG x2.aV).bind fun a3=>(idx r2.aX x2.aV).bind fun a4=>(aK (kB es x2) (0,r2.Cut)).bind fun a1=>jZ es r2 (a1,r2.bD,(List.set r2.cG (Int.toNat x2.aV) true),(List.set r2.aX (Int.toNat x2.aV) x2.aX)))
def Mw (l:List aS):Int×Int×Int×Int:=l.foldl (fun s r=>if vR r then (if s.2.2.1=0 then (r.X,r.Y,r.W,r.H) else (min s.1 r.X,min s.2.1 r.Y,max (s.1+s.2.2.1) (r.X+r.W)-min s.1 r.X,max (s.2.1+s.2.2.2) (r.Y+r.H)-min s.2.1 r.Y)) else s) (0,0,0,0)
def Oy (l:List aS):Bool×Int×Int×Int×Int:=l.foldl (fun s r=>if vR r then (if s.1 then (true,min s.2.1 r.X,min s.2.2.1 r.Y,max s.2.2.2.1 (r.X+r.W),max s.2.2.2.2 (r.Y+r.H)) else (true,r.X,r.Y,r.X+r.W,r.Y+r.H)) else s) (false,0,0,0,0)
def JN (p:Int×Int×Int×Int) (d:Bool×Int×Int×Int×Int):Prop:=
 (d.1=false∧p=(0,0,0,0))∨(d.1=true∧p=(d.2.1,d.2.2.1,d.2.2.2.1-d.2.1,d.2.2.2.2-d.2.2.1)∧-1048576≤d.2.1∧d.2.1<d.2.2.2.1∧d.2.2.2.1≤1048576∧-1048576≤d.2.2.1∧d.2.2.1<d.2.2.2.2∧d.2.2.2.2≤1048576)
theorem Ut {α:Type} {l:List α} {k:Nat} {x:α} (h:l[k]?=some x):l.take (k+1)=l.take k++[x]:=by
 rw [List.take_add_one,h];rfl
def stP (s:Int×Int×Int×Int) (r:aS):Int×Int×Int×Int:=if vR r then (if s.2.2.1=0 then (r.X,r.Y,r.W,r.H) else (min s.1 r.X,min s.2.1 r.Y,max (s.1+s.2.2.1) (r.X+r.W)-min s.1 r.X,max (s.2.1+s.2.2.2) (r.Y+r.H)-min s.2.1 r.Y)) else s
def stD (s:Bool×Int×Int×Int×Int) (r:aS):Bool×Int×Int×Int×Int:=if vR r then (if s.1 then (true,min s.2.1 r.X,min s.2.2.1 r.Y,max s.2.2.2.1 (r.X+r.W),max s.2.2.2.2 (r.Y+r.H)) else (true,r.X,r.Y,r.X+r.W,r.Y+r.H)) else s
theorem OV {p:Int×Int×Int×Int} {d:Bool×Int×Int×Int×Int} (ih:JN p d) (r:aS):JN (stP p r) (stD d r):=by
 unfold stP stD
 by_cases hv:vR r
 ·rw [if_pos hv,if_pos hv]
  unfold vR at hv
  rcases ih with ⟨h1,rfl⟩ | ⟨h1,rfl,hb⟩
  ·rw [h1]
   refine .inr ⟨by simp, ?_, ?_⟩
   ·simp
    omega
   ·simp;omega
  ·rw [h1]
   simp only [if_true]
   rw [if_neg (by omega)]
   refine .inr ⟨rfl, ?_, ?_⟩
   ·simp only [Prod.mk.injEq,true_and]
    omega
   ·simp only;omega
 ·rw [if_neg hv,if_neg hv];exact ih
theorem RA:∀ (l:List aS) {p:Int×Int×Int×Int} {d:Bool×Int×Int×Int×Int},JN p d→JN (l.foldl stP p) (l.foldl stD d)
 | [],_,_,h=>h
 | r::l,_,_,h=>RA l (OV h r)
theorem TS (l:List aS):JN (Mw l) (Oy l):=RA l (.inl ⟨rfl,rfl⟩)
theorem GP {l:List aS} {k:Nat} {r:aS} (h:l[k]?=some r):Mw (l.take (k+1))=stP (Mw (l.take k)) r:=by
 rw [Ut h];unfold Mw;rw [List.foldl_append];rfl
theorem GN {l:List aS} {k:Nat} {r:aS} (h:l[k]?=some r):Oy (l.take (k+1))=stD (Oy (l.take k)) r:=by
 rw [Ut h];unfold Oy;rw [List.foldl_append];rfl
theorem CD (x:aV) (h:x.aD.length≤9223372036854775806):aK (xQ x) (0,0,0,0,0)=some (Mw x.aD):=by
 refine sU x.aD (xQ x) (fun k=>((k:Int),Mw (x.aD.take k))) _ (fun k r hr=>?_) ?_
 ·have hk:=(List.getElem?_eq_some_iff.1 hr).1
  have hb:=TS (x.aD.take k)
  rw [GP hr]
  unfold xQ
  have h1:decide ((k:Int)<(x.aD.length:Int))=true:=by simp;omega
  generalize Mw (x.aD.take k)=p at hb ⊢
  generalize Oy (x.aD.take k)=d at hb
  simp only [h1,if_true,aQ hr,Option.bind_some,tC,xP,stP]
  rw [aY (a:=(k:Int)) (by omega) (by omega)]
  by_cases hv:vR r
  ·have hv':=hv
   unfold vR at hv'
   simp only [hv,decide_true,Bool.not_true,Bool.false_eq_true,if_false,if_true]
   by_cases h0:p.2.2.1=0
   ·simp [h0]
   ·rcases hb with ⟨_,rfl⟩ | ⟨_,rfl,hb⟩
    ·exact absurd rfl h0
    ·simp only at h0 ⊢
     have h0':(d.2.2.2.1-d.2.1==0)=false:=by rw [beq_eq_false_iff_ne];exact h0
     simp only [h0',h0,Bool.false_eq_true,if_false,Ca,Ks]
     rw [aY (a:=d.2.1) (by omega) (by omega),aY (a:=d.2.2.1) (by omega) (by omega),aY (a:=r.X) (by omega) (by omega),aY (a:=r.Y) (by omega) (by omega),bK (by omega) (by omega),bK (by omega) (by omega)]
     rfl
  ·simp [hv]
 ·simp [xQ]
theorem Zj (x:aV) (h:x.aD.length≤9223372036854775806):yU x=some (decide (min (Mw x.aD).2.2.1 (Mw x.aD).2.2.2<7200)):=by
 unfold yU
 rw [CD x h]
 simp [Ca]
theorem BH (x:aV) (h:x.aD.length≤9223372036854775806):aK (jI x) (false,0,0,0,0,0)=some (Oy x.aD):=by
 refine sU x.aD (jI x) (fun k=>((Oy (x.aD.take k)).1,(Oy (x.aD.take k)).2.1,(Oy (x.aD.take k)).2.2.1,(Oy (x.aD.take k)).2.2.2.1,(Oy (x.aD.take k)).2.2.2.2,(k:Int))) _ (fun k r hr=>?_) ?_
 ·have hk:=(List.getElem?_eq_some_iff.1 hr).1
  rw [GN hr]
  unfold jI
  have h1:decide ((k:Int)<(x.aD.length:Int))=true:=by simp;omega
  generalize Oy (x.aD.take k)=d
  obtain ⟨d1,d2,d3,d4,d5⟩:=d
  simp only [h1,if_true,aQ hr,Option.bind_some,Jm,mP,mQ,stD]
  rw [aY (a:=(k:Int)) (by omega) (by omega)]
  by_cases hv:vR r
  ·have hv':=hv
   unfold vR at hv'
   simp only [hv,decide_true,Bool.not_true,Bool.false_eq_true,if_false,if_true,Ca,Ks]
   rw [aY (a:=r.X) (by omega) (by omega),aY (a:=r.Y) (by omega) (by omega)]
   cases d1 with
   | false =>
     simp
   | true=>simp
  ·simp [hv]
 ·simp [jI]
theorem Xd (x:aV) (h:x.aD.length≤9223372036854775806):fH x=some (decide (min (Mw x.aD).2.2.1 (Mw x.aD).2.2.2<7200)):=by
 unfold fH
 rw [BH x h]
 have hb:=TS x.aD
 simp only [Option.bind_some]
 generalize Mw x.aD=p at hb ⊢
 generalize Oy x.aD=d at hb ⊢
 rcases hb with ⟨h1,rfl⟩ | ⟨h1,rfl,hb⟩
 ·simp [h1]
 ·simp only [h1,if_true,Option.bind_some,Ca]
  rw [bK (by omega) (by omega),bK (by omega) (by omega)]
def sF (l:List aS) (x y:Int):Bool:=l.any fun r=>decide (tZ ⟨x,y,1,1⟩ r)
theorem JD (l:List aS) (x y:Int) (h:l.length≤9223372036854775806):fZ l x y=some (sF l x y):=by
 unfold fZ
 have hL:aK (iS l x y) 0=some (if l.any (fun r=>decide (tZ ⟨x,y,1,1⟩ r)) then .inl () else .inr ()):=by
  refine Ts l (iS l x y) (fun r=>decide (tZ ⟨x,y,1,1⟩ r)) (.inr ()) (.inl ()) (fun k r hr=>?_) ?_
  ·have hk:=(List.getElem?_eq_some_iff.1 hr).1
   have h1:decide ((k:Int)<(l.length:Int))=true:=by simp;omega
   unfold iS
   simp only [h1,if_true,aQ hr,Option.bind_some,Ou]
   rw [aY (by omega) (by omega)]
   rfl
  ·simp [iS]
 rw [hL]
 unfold sF
 cases l.any fun r=>decide (tZ ⟨x,y,1,1⟩ r) <;> rfl
theorem contains_eq (l:List aS) (x y:Int) (h:l.length≤9223372036854775806):cA l x y 1 1=some (sF l x y):=by
 unfold cA eD
 have key:∀ n k,k+n=l.length→∃ r:Int ⊕ Unit,aK (bS l x y 1 1) (k:Int)=some r∧(match r with | .inl j=>0≤j∧sF (l.drop k) x y=true | .inr _=>sF (l.drop k) x y=false):=by
  intro n
  induction n with
  | zero =>
    intro k hk
    obtain rfl:k=l.length:=by omega
    exact ⟨.inr (),eA (by simp [bS]),by simp [sF]⟩
  | succ n ih =>
    intro k hk
    have hlt:k<l.length:=by omega
    have hr:l[k]?=some l[k]:=by simp
    have h1:decide ((k:Int)<(l.length:Int))=true:=by simp;omega
    have hb:bS l x y 1 1 (k:Int)=if decide (tZ ⟨x,y,1,1⟩ l[k]) then some (.inr (.inl (k:Int))) else some (.inl ((k+1:Nat):Int)):=by
     unfold bS Cw
     simp only [h1,if_true,aQ hr,Option.bind_some,Ot]
     rw [aY (by omega) (by omega)]
     rfl
    have e:sF (l.drop k) x y=(decide (tZ ⟨x,y,1,1⟩ l[k]) || sF (l.drop (k+1)) x y):=by
     unfold sF;rw [List.drop_eq_getElem_cons hlt,List.any_cons]
    by_cases hq:tZ ⟨x,y,1,1⟩ l[k]
    ·rw [if_pos (by simpa using hq)] at hb
     exact ⟨.inl k,eA hb,by omega,by rw [e];simp [hq]⟩
    ·rw [if_neg (by simpa using hq)] at hb
     obtain ⟨r,q1,q2⟩:=ih (k+1) (by omega)
     refine ⟨r,(gT hb).trans q1, ?_⟩
     cases r with
     | inl j=>exact ⟨q2.1,by rw [e,q2.2];simp⟩
     | inr u=>simp only at q2 ⊢;rw [e,q2];simp [hq]
 obtain ⟨r,q1,q2⟩:=key l.length 0 (by omega)
 rw [show (0:Int)=((0:Nat):Int) from rfl,q1]
 cases r with
 | inl j=>simp only [List.drop_zero] at q2;simp [q2.1,q2.2]
 | inr u=>simp only [List.drop_zero] at q2;simp [q2]
theorem AQ (l:List aS) (s:Ar) (h:l.length≤9223372036854775806) (hb : -4194304≤s.X∧s.X≤4194304∧-4194304≤s.Y∧s.Y≤4194304):eT l s=some (sF l (s.X-1) (s.Y-1)&&(sF l s.X (s.Y-1)&&(sF l (s.X-1) s.Y&&sF l s.X s.Y))):=by
 unfold eT
 have b1:¬ s.X < -4194304:=by omega
 have b2:¬ s.X>4194304:=by omega
 have b3:¬ s.Y < -4194304:=by omega
 have b4:¬ s.Y>4194304:=by omega
 simp only [b1,b2,b3,b4,decide_false,Bool.false_eq_true,if_false,Option.bind_some]
 have hL:aK (tL l s) 0=some (if [(⟨s.X-1,s.Y-1,1,1⟩:aS),⟨s.X,s.Y-1,1,1⟩,⟨s.X-1,s.Y,1,1⟩,⟨s.X,s.Y,1,1⟩].all (fun q=>sF l q.X q.Y) then .inr () else .inl ()):=by
  refine He [(⟨s.X-1,s.Y-1,1,1⟩:aS),⟨s.X,s.Y-1,1,1⟩,⟨s.X-1,s.Y,1,1⟩,⟨s.X,s.Y,1,1⟩] (tL l s) (fun q=>sF l q.X q.Y) (.inl ()) (.inr ()) (fun k q hq=>?_) ?_
  ·have hk:=(List.getElem?_eq_some_iff.1 hq).1
   have h1:decide ((k:Int)<4)=true:=by simp at hk ⊢;omega
   have hwh:q.W=1∧q.H=1:=by
    have:=List.mem_of_getElem? hq
    simp only [List.mem_cons,List.not_mem_nil,or_false] at this
    rcases this with rfl | rfl | rfl | rfl <;> exact ⟨rfl,rfl⟩
   unfold tL
   rw [bK (by omega) (by omega),bK (by omega) (by omega)]
   simp only [List.length_cons,List.length_nil,Int.reduceAdd,Int.natCast_add,Int.cast_ofNat_Int,h1,if_true,aQ hq,Option.bind_some,hwh.1,hwh.2,contains_eq l _ _ h]
   rw [aY (by simp at hk;omega) (by simp at hk;omega)]
   cases sF l q.X q.Y <;> rfl
  ·unfold tL
   simp
 rw [hL]
 simp only [List.all_cons,List.all_nil,Bool.and_true,Option.bind_some]
 cases sF l (s.X-1) (s.Y-1)&&(sF l s.X (s.Y-1)&&(sF l (s.X-1) s.Y&&sF l s.X s.Y)) <;> rfl
theorem OB (l:List aS) (x y:Int) (h:¬ (-1048576≤x∧x<1048576∧-1048576≤y∧y<1048576)):sF l x y=false:=by
 unfold sF
 rw [List.any_eq_false]
 intro r _
 simp only [decide_eq_true_eq]
 rintro ⟨hv,_⟩
 unfold vR at hv
 simp only at hv
 omega
theorem Li (l:List aS) (s:Ar) (h:l.length≤9223372036854775806):∃ b,eT l s=some b∧fB l s=some b:=by
 by_cases hb : -4194304≤s.X∧s.X≤4194304∧-4194304≤s.Y∧s.Y≤4194304
 ·refine ⟨_,AQ l s h hb, ?_⟩
  unfold fB
  by_cases hn : -1048576<s.X∧s.X<1048576∧-1048576<s.Y∧s.Y<1048576
  ·have b1:¬ s.X≤-1048576:=by omega
   have b2:¬ s.X ≥ 1048576:=by omega
   have b3:¬ s.Y≤-1048576:=by omega
   have b4:¬ s.Y ≥ 1048576:=by omega
   rw [bK (by omega) (by omega),bK (by omega) (by omega)]
   simp only [b1,b2,b3,b4,decide_false,Bool.false_eq_true,if_false,Option.bind_some,JD l _ _ h]
   cases sF l s.X s.Y <;> cases sF l (s.X-1) s.Y <;> cases sF l s.X (s.Y-1) <;> cases sF l (s.X-1) (s.Y-1) <;> rfl
  ·have hf:(sF l (s.X-1) (s.Y-1)&&(sF l s.X (s.Y-1)&&(sF l (s.X-1) s.Y&&sF l s.X s.Y)))=false:=by
    by_cases q:s.X≤-1048576∨s.Y≤-1048576
    ·rw [OB l (s.X-1) (s.Y-1) (by omega)];rfl
    ·rw [OB l s.X s.Y (by omega)];simp
   rw [hf]
   by_cases q1:s.X≤-1048576
   ·simp [q1]
   ·by_cases q2:s.X ≥ 1048576
    ·simp [q1,q2]
    ·by_cases q3:s.Y≤-1048576
     ·simp [q1,q2,q3]
     ·have q4:s.Y ≥ 1048576:=by omega
      simp [q1,q2,q3,q4]
 ·refine ⟨false, ?_, ?_⟩
  ·unfold eT
   by_cases q1:s.X < -4194304
   ·simp [q1]
   ·by_cases q2:s.X>4194304
    ·simp [q1,q2]
    ·by_cases q3:s.Y < -4194304
     ·simp [q1,q2,q3]
     ·have q4:s.Y>4194304:=by omega
      simp [q1,q2,q3,q4]
  ·unfold fB
   by_cases q1:s.X≤-1048576
   ·simp [q1]
   ·by_cases q2:s.X ≥ 1048576
    ·simp [q1,q2]
    ·by_cases q3:s.Y≤-1048576
     ·simp [q1,q2,q3]
     ·have q4:s.Y ≥ 1048576:=by omega
      simp [q1,q2,q3,q4]
end Go.SM
namespace Go.SM
open Go Go.VI Go.Cells
theorem Kv {l:List Int} (h:l.Pairwise fun x y=>x<y) (hl:l.length≤10000) (n:Int) :
  ∃ r,fY n l=some r∧r.Pairwise (fun x y=>x<y)∧(∀ x,x ∈ r↔x ∈ l∨x=n)∧r.length≤l.length+1:=by
 obtain ⟨i',q1,i,rfl,hi,ha,hb⟩:=mG (fun s:Int=>s.toNat)
  (fun s:Int=>∃ k:Nat,s=k∧k≤l.length∧∀ x ∈ l.drop k,n<x)
  (fun r:Int=>∃ k:Nat,r=k∧k≤l.length∧(∀ x ∈ l.drop k,n<x)∧(0<k→∀ y,l[k-1]?=some y→y≤n)) (pR n l) (by
   rintro s ⟨k,rfl,hk,hI⟩
   unfold pR
   by_cases h0:0<k
   ·obtain ⟨x,hx⟩:∃ x,l[k-1]?=some x:=⟨_,List.getElem?_eq_getElem (by omega)⟩
    have e1:aJ (k:Int) 1=((k-1:Nat):Int):=by rw [bK (by omega) (by omega)];omega
    have d:decide ((k:Int)>0)=true:=by simp;omega
    simp only [d,if_true,e1,aQ hx,Option.bind_some]
    by_cases hg:x>n
    ·left
     refine ⟨((k-1:Nat):Int),by simp [hg],⟨k-1,rfl,by omega,fun y hy=>?_⟩,by omega⟩
     rw [List.drop_eq_getElem_cons (show k-1<l.length by omega),show k-1+1=k by omega] at hy
     rcases List.mem_cons.1 hy with rfl | hy
     ·rw [List.getElem?_eq_getElem (by omega)] at hx;injection hx with hx;rw [hx];exact hg
     ·exact hI y hy
    ·right
     refine ⟨(k:Int),by simp [hg],k,rfl,hk,hI,fun _ y hy=>?_⟩
     rw [hx] at hy;injection hy with hy;omega
   ·right
    have d:decide ((k:Int)>0)=false:=by simp;omega
    exact ⟨(k:Int),by simp only [d,Bool.false_eq_true,if_false,Option.bind_some],k,rfl,hk,hI,fun q=>absurd q h0⟩) (l.length:Int) ⟨l.length,rfl,Nat.le_refl _,by simp⟩
 unfold fY
 rw [q1,Option.bind_some]
 have hj:∃ b:Bool,(if decide ((i:Int)>0) then (idx l (aJ (i:Int) 1)).bind (fun x48=>some (x48==n)) else some false)=some b∧(b=true↔0<i∧l[i-1]?=some n):=by
  by_cases h0:0<i
  ·obtain ⟨x,hx⟩:∃ x,l[i-1]?=some x:=⟨_,List.getElem?_eq_getElem (by omega)⟩
   have e1:aJ (i:Int) 1=((i-1:Nat):Int):=by rw [bK (by omega) (by omega)];omega
   have d:decide ((i:Int)>0)=true:=by simp;omega
   refine ⟨x==n,by simp only [d,if_true,e1,aQ hx,Option.bind_some], ?_⟩
   rw [beq_iff_eq,hx]
   exact ⟨fun q=>⟨h0,by rw [q]⟩,fun q=>Option.some.inj q.2⟩
  ·have d:decide ((i:Int)>0)=false:=by simp;omega
   exact ⟨false,by simp only [d,Bool.false_eq_true,if_false],by simp;omega⟩
 obtain ⟨b,hj1,hj2⟩:=hj
 rw [hj1,Option.bind_some]
 cases b with
 | true =>
   obtain ⟨h0,hn⟩:=hj2.1 rfl
   refine ⟨l,rfl,h,fun x=>⟨.inl,fun q=>q.elim id fun e=>by rw [e];exact List.mem_of_getElem? hn⟩,by omega⟩
 | false =>
   have hnot:¬ (0<i∧l[i-1]?=some n):=fun q=>by have:=hj2.2 q;cases this
   rw [if_neg (by simp),lA (by simp [LIM];omega)]
   have hlen:aJ ((l++[0]).length:Int) 1=(l.length:Int):=by rw [List.length_append,List.length_singleton,bK (by omega) (by omega)];omega
   obtain ⟨r,t1,z,rfl⟩:=mG (fun s:Int×List Int=>(s.1-(i:Int)).toNat)
    (fun s:Int×List Int=>∃ j:Nat,s.1=j∧i≤j∧j≤l.length∧∃ z,s.2=l.take j++z::l.drop j)
    (fun r:List Int=>∃ z,r=l.take i++z::l.drop i) (pS (i:Int)) (by
     rintro ⟨s,c⟩ ⟨j,hs,hij,hjl,z,hc⟩
     simp only at hs hc
     subst hs hc
     unfold pS
     by_cases hg:i<j
     ·left
      have d:decide ((j:Int)>(i:Int))=true:=by simp;omega
      have e1:aJ (j:Int) 1=((j-1:Nat):Int):=by rw [bK (by omega) (by omega)];omega
      have ht:(l.take j).length=j:=by rw [List.length_take];omega
      have g1:(l.take j++z::l.drop j)[j-1]?=some (l[j-1]'(by omega)):=by
       rw [List.getElem?_append_left (by omega),List.getElem?_take,if_pos (by omega),List.getElem?_eq_getElem (by omega)]
      have g2:(l.take j++z::l.drop j)[j]?=some z:=by rw [List.getElem?_append_right (by omega),ht];simp
      simp only [d,if_true,e1,aQ g1,aQ g2,Option.bind_some,Int.toNat_natCast]
      refine ⟨_,rfl,⟨j-1,rfl,by omega,by omega,l[j-1]'(by omega), ?_⟩,by simp only;omega⟩
      simp only
      rw [List.set_append_right _ _ (by omega),ht]
      have e2:l.take j=l.take (j-1)++[l[j-1]'(by omega)]:=by
       conv=>lhs;rw [show j=(j-1)+1 by omega]
       rw [List.take_add_one,List.getElem?_eq_getElem (by omega)];rfl
      have e3:l.drop (j-1)=l[j-1]'(by omega)::l.drop j:=by
       rw [List.drop_eq_getElem_cons (show j-1<l.length by omega),show j-1+1=j by omega]
      rw [e2,e3,Nat.sub_self,List.set_cons_zero,List.append_assoc];rfl
     ·right
      have d:decide ((j:Int)>(i:Int))=false:=by simp;omega
      obtain rfl:j=i:=by omega
      exact ⟨l.take j++z::l.drop j,by simp only [d,Bool.false_eq_true,if_false],z,rfl⟩) (aJ ((l++[0]).length:Int) 1,l++[0]) ⟨l.length,hlen,hi,Nat.le_refl _,0,by simp⟩
   have ht:(l.take i).length=i:=by rw [List.length_take];omega
   have g2:(l.take i++z::l.drop i)[i]?=some z:=by rw [List.getElem?_append_right (by omega),ht];simp
   have e4:(l.take i++z::l.drop i).set i n=l.take i++n::l.drop i:=by rw [List.set_append_right _ _ (by omega),ht];simp
   simp only [Option.bind_some,t1,aQ g2,Int.toNat_natCast,e4]
   have hlow:∀ x ∈ l.take i,x<n:=fun x hx=>by
    rcases Nat.eq_zero_or_pos i with q | q
    ·subst q;simp at hx
    ·obtain ⟨y,hy⟩:∃ y,l[i-1]?=some y:=⟨_,List.getElem?_eq_getElem (by omega)⟩
     have hyn:y<n:=by
      have h1:=hb q y hy
      have h2:y≠n:=fun e=>hnot ⟨q,by rw [hy,e]⟩
      omega
     obtain ⟨k,hk⟩:=List.mem_iff_getElem?.1 hx
     have hkl:=bG hk
     rw [List.getElem?_take,if_pos (by omega)] at hk
     by_cases e:k=i-1
     ·subst e;rw [hy] at hk;injection hk with hk;omega
     ·have:=Mu h (show k<i-1 by omega) hk hy;omega
   refine ⟨_,rfl, ?_,fun x=>?_,by rw [List.length_append,List.length_cons,List.length_take,List.length_drop];omega⟩
   ·have hp:=h
    rw [← List.take_append_drop i l,List.pairwise_append] at hp
    rw [List.pairwise_append,List.pairwise_cons]
    refine ⟨hp.1,⟨ha,hp.2.1⟩,fun x hx y hy=>?_⟩
    rcases List.mem_cons.1 hy with rfl | hy
    ·exact hlow x hx
    ·exact hp.2.2 x hx y hy
   ·conv=>rhs;rw [← List.take_append_drop i l]
    simp only [List.mem_append,List.mem_cons]
    grind
theorem OK {l:List aS} (hv:Uy l) (hl:l.length≤400):∃ xs ys,rA l=some (xs,ys)∧Bj xs (xsL l)∧Bj ys (ysL l):=by
 obtain ⟨⟨xs,ys⟩,q1,⟨gx1,gx2⟩,⟨gy1,gy2⟩,lx,ly⟩:=tU l (fun k (s:List Int×List Int)=>((k:Int),s.1,s.2)) (nE l) (fun s=>(s.1,s.2)) (fun k s=>Bj s.1 (xsL (l.take k))∧Bj s.2 (ysL (l.take k))∧s.1.length≤2*k∧s.2.length≤2*k) ([],[])
  ⟨⟨.nil,by simp [xsL]⟩,⟨.nil,by simp [ysL]⟩,by simp,by simp⟩
  (fun k r s hr hI=>by
   obtain ⟨⟨a1,a2⟩,⟨b1,b2⟩,la,lb⟩:=hI
   have h1:=bG hr
   have hd:decide ((k:Int)<(l.length:Int))=true:=by simp [h1]
   obtain ⟨e1,e2⟩:=Yz (hv r (List.mem_of_getElem? hr))
   obtain ⟨c1,i1,p1,m1,n1⟩:=Kv a1 (by omega) r.X
   obtain ⟨c2,i2,p2,m2,n2⟩:=Kv p1 (by omega) (r.X+r.W)
   obtain ⟨c3,i3,p3,m3,n3⟩:=Kv b1 (by omega) r.Y
   obtain ⟨c4,i4,p4,m4,n4⟩:=Kv p3 (by omega) (r.Y+r.H)
   unfold nE
   simp only [hd,if_true,aQ hr,Option.bind_some,e1,e2,i1,i2,i3,i4,bH k (by omega)]
   refine ⟨(c2,c4),rfl,⟨p2,fun x=>?_⟩,⟨p4,fun x=>?_⟩,by simp only;omega,by simp only;omega⟩
   ·rw [m2,m1,a2,nK hr,Mo]
    simp [xsL,or_assoc]
   ·rw [m4,m3,b2,nK hr,Mp]
    simp [ysL,or_assoc]) (fun s _=>by simp [nE])
 rw [List.take_length] at gx2 gy2
 simp only at gx1 gx2 gy1 gy2
 refine ⟨xs,ys, ?_,⟨gx1,gx2⟩,⟨gy1,gy2⟩⟩
 unfold rA
 rw [show ((0:Int),([]:List Int),([]:List Int))=(((0:Nat):Int),(([],[]):List Int×List Int).1,(([],[]):List Int×List Int).2) from rfl,q1]
 rfl
end Go.SM
namespace Go.SM
open Go Go.VI
theorem ML {s sub:List UInt8} {i:Nat} (hne:sub≠[]) (h:Go.Lib.occAt s sub i=true):i+sub.length≤s.length:=by
 rcases Go.Lib.occAt_room h with h' | h'
 ·omega
 ·exact absurd h' hne
theorem So {s sub:List UInt8} (hne:sub≠[]):Go.Lib.contains s sub=(List.range (s.length+1-sub.length)).any (Go.Lib.occAt s sub):=by
 unfold Go.Lib.contains
 rcases Go.Lib.index_spec s sub with ⟨h1,h2⟩ | ⟨i,h1,h2,h3,h4⟩
 ·rw [h1]
  have:(List.range (s.length+1-sub.length)).any (Go.Lib.occAt s sub)=false:=by
   rw [List.any_eq_false];intro j hj
   rw [h2 j (by have:=List.mem_range.1 hj;omega)];simp
  rw [this];rfl
 ·rw [h1]
  have:(List.range (s.length+1-sub.length)).any (Go.Lib.occAt s sub)=true:=List.any_eq_true.2 ⟨i,List.mem_range.2 (by have:=ML hne h3;omega),h3⟩
  rw [this];simp
theorem Rz {a b:ByteArray} (h:a.size+b.size≤9223372036854775807):Rg a b=some (a++b):=by unfold Rg;rw [if_pos h]
theorem HN (T s1:ByteArray) (hT:T.size<4294967281) (hs:s1.size≤8):nW T s1=some (Go.Lib.contains T.data.toList ((ByteArray.mk #[32]++s1)++ByteArray.mk #[32]).data.toList):=by
 have hsz:((ByteArray.mk #[32]++s1)++ByteArray.mk #[32]).size=s1.size+2:=by
  rw [ByteArray.size_append,ByteArray.size_append];show 1+s1.size+1=_;omega
 have hsub:s1.size+2=((ByteArray.mk #[32]++s1)++ByteArray.mk #[32]).data.toList.length:=by rw [← hsz];rfl
 have hne:((ByteArray.mk #[32]++s1)++ByteArray.mk #[32]).data.toList≠[]:=by
  intro h;rw [h] at hsub;simp at hsub
 have e1:Rg (ByteArray.mk #[32]) s1=some (ByteArray.mk #[32]++s1):=Rz (by show 1+s1.size≤_;omega)
 have e2:Rg (ByteArray.mk #[32]++s1) (ByteArray.mk #[32])=some ((ByteArray.mk #[32]++s1)++ByteArray.mk #[32]):=Rz (by rw [ByteArray.size_append];show 1+s1.size+1≤_;omega)
 generalize (ByteArray.mk #[32]++s1)++ByteArray.mk #[32]=W at hsz hsub hne e2 ⊢
 rw [So hne]
 have hTl:T.data.toList.length=T.size:=rfl
 have key:aK (iN T s1) 0=some (if (List.range (T.data.toList.length+1-W.data.toList.length)).any (Go.Lib.occAt T.data.toList W.data.toList) then .inl () else .inr ()):=by
  refine jF _ (iN T s1) (fun k=>(k:Int)) _ _ _ rfl (fun k hk=>?_) ?_
  ·unfold iN
   rw [hTl,← hsub] at hk
   rw [aY (a:=(k:Int)) (by omega) (by omega),aY (b:=2) (by omega) (by omega)]
   have h1:decide ((k:Int)+(s1.size:Int)+2≤(T.size:Int))=true:=by simp;omega
   simp only [h1,if_true]
   have e3:OC T k ((k:Int)+(s1.size:Int)+2)=some (T.extract k (k+W.size)):=by
    unfold OC
    rw [if_pos (by omega)]
    have:((k:Int)+(s1.size:Int)+2).toNat=k+W.size:=by omega
    rw [this];simp
   rw [e3]
   simp only [Option.bind_some,e1,e2]
   rw [Go.Lib.occ_of_piece T W k (by omega),aY (a:=(k:Int)) (by omega) (by omega)]
   cases (T.extract k (k+W.size)).toList==W.toList <;> simp
  ·unfold iN
   rw [hTl,← hsub]
   rw [aY (b:=(s1.size:Int)) (by omega) (by omega),aY (b:=2) (by omega) (by omega)]
   have h1:decide (((T.size+1-(s1.size+2):Nat):Int)+(s1.size:Int)+2≤(T.size:Int))=false:=by simp;omega
   simp only [h1];rfl
 unfold nW
 rw [key]
 cases (List.range (T.data.toList.length+1-W.data.toList.length)).any (Go.Lib.occAt T.data.toList W.data.toList) <;> rfl
def SG (x:Int):Bool:=decide (¬ (97≤x∧x≤122)∧(x<48∨x>57))
theorem Yt {s:ByteArray} {k:Nat} (h:k<s.size):Kg s (k:Int)=some ((s[k].toNat:Nat):Int):=by
 unfold Kg
 rw [if_pos (Int.natCast_nonneg k),Int.toNat_natCast]
 simp [h]
def SH (s:ByteArray):Bool:=(List.range s.size).any fun k=>if h:k<s.size then SG s[k].toNat else false
theorem HZ (s:ByteArray) (hs:s.size≤8):aK (qY s) 0=some (if SH s then .inl () else .inr ()):=by
 refine jF s.size (qY s) (fun k=>(k:Int)) _ _ _ rfl (fun k hk=>?_) ?_
 ·unfold qY
  have h1:decide ((k:Int)<(s.size:Int))=true:=by simp;omega
  simp only [h1,if_true,Yt hk,Option.bind_some,dif_pos hk]
  rw [aY (a:=(k:Int)) (by omega) (by omega)]
  generalize ((s[k].toNat:Nat):Int)=x
  unfold SG
  by_cases q1:x<97
  ·have:¬ (97≤x∧x≤122):=by omega
   by_cases q2:x<48
   ·simp [q1,q2]
   ·by_cases q3:x>57 <;> simp [q1,q2,q3]
  ·by_cases q4:x>122
   ·have q5:¬ x<48:=by omega
    have q6:x>57:=by omega
    simp [q1,q4,q5,q6]
   ·simp [q1,q4]
 ·simp [qY]
theorem DR (s:ByteArray) (hs:s.size≤8):aK (gD s) 0=some (if SH s then .inl () else .inr ()):=by
 refine jF s.size (gD s) (fun k=>(k:Int)) _ _ _ rfl (fun k hk=>?_) ?_
 ·unfold gD
  have h1:decide ((k:Int)<(s.size:Int))=true:=by simp;omega
  simp only [h1,if_true,Yt hk,Option.bind_some,dif_pos hk]
  rw [aY (a:=(k:Int)) (by omega) (by omega)]
  generalize ((s[k].toNat:Nat):Int)=x
  unfold SG
  by_cases q1:x ≥ 97
  ·by_cases q4:x≤122
   ·simp [q1,q4]
   ·have q5:¬ x<48:=by omega
    have q6:x>57:=by omega
    simp [q1,q4,q5,q6]
  ·by_cases q2:x<48
   ·simp [q1,q2]
   ·by_cases q3:x>57 <;> simp [q1,q2,q3]
 ·simp [gD]
theorem pT (s:ByteArray):∃ b,kQ s=some b∧eN s=some b:=by
 unfold kQ eN tG rQ
 by_cases h1:(s.size:Int)<1
 ·exact ⟨false,by simp [h1],by simp [show ¬ (s.size:Int) ≥ 1 by omega]⟩
 by_cases h2:(s.size:Int)>8
 ·exact ⟨false,by simp [h1,h2],by simp [show (s.size:Int) ≥ 1 by omega,show ¬ (s.size:Int)≤8 by omega]⟩
 have g1:(s.size:Int) ≥ 1:=by omega
 have g2:(s.size:Int)≤8:=by omega
 have e0:Kg s 0=some ((s[0]'(by omega)).toNat:Int):=Yt (k:=0) (by omega)
 generalize ((s[0]'(by omega)).toNat:Int)=x at e0
 by_cases h3:x<97
 ·exact ⟨false,by simp [h1,h2,e0,h3],by simp only [g1,g2,decide_true,if_true,Option.bind_some,e0,h3]⟩
 by_cases h4:x>122
 ·exact ⟨false,by simp [h1,h2,e0,h3,h4],by simp only [g1,g2,decide_true,if_true,Option.bind_some,e0,h3,h4,decide_false,Bool.false_eq_true,if_false]⟩
 simp only [g1,g2,h1,h2,h3,h4,decide_true,decide_false,if_true,Bool.false_eq_true,if_false,Option.bind_some,e0,HZ s (by omega),DR s (by omega)]
 cases SH s with
 | true=>exact ⟨false,rfl,rfl⟩
 | false =>
   have e1:Rg (ByteArray.mk #[32]) s=some (ByteArray.mk #[32]++s):=Rz (by show 1+s.size≤_;omega)
   have e2:Rg (ByteArray.mk #[32]++s) (ByteArray.mk #[32])=some ((ByteArray.mk #[32]++s)++ByteArray.mk #[32]):=Rz (by rw [ByteArray.size_append];show 1+s.size+1≤_;omega)
   simp only [Bool.false_eq_true,if_false,e1,e2,Option.bind_some]
   unfold strings_Contains
   rw [HN _ s (by decide +kernel) (by omega),if_pos (by decide +kernel)]
   exact ⟨_,rfl,rfl⟩
theorem Ya (n lo hi:Int):zK n lo hi=some (decide (lo≤n∧n≤hi)):=by
 unfold zK
 by_cases h1:lo≤n <;> simp [h1]
theorem Hm (g r:Int):Dj g r=some (decide ((1≤g∧g≤60)∧0≤r∧r≤2)):=by
 unfold Dj
 simp only [Ya,Option.bind_some]
 by_cases h1:1≤g∧g≤60
 ·simp [h1]
 ·simp only [h1,decide_false,false_and];rfl
theorem Ur {n m:ByteArray} {a b:Bool} (hn:eN n=some a) (hm:eN m=some b) (g r:Int):lQ n m g r=some (if a&&b then (if (1≤g∧g≤60)∧0≤r∧r≤2 then 0 else 1) else 2):=by
 unfold lQ
 rw [hn,hm]
 cases a
 ·rfl
 ·cases b
  ·rfl
  ·by_cases h1:g<1
   ·have:¬ ((1≤g∧g≤60)∧0≤r∧r≤2):=by omega
    simp [h1,this]
   ·by_cases h2:g>60
    ·have:¬ ((1≤g∧g≤60)∧0≤r∧r≤2):=by omega
     simp [h1,h2,this]
    ·by_cases h3:r<0
     ·have:¬ ((1≤g∧g≤60)∧0≤r∧r≤2):=by omega
      simp [h1,h2,h3,this]
     ·by_cases h4:r>2
      ·have:¬ ((1≤g∧g≤60)∧0≤r∧r≤2):=by omega
       simp [h1,h2,h3,h4,this]
      ·have:((1≤g∧g≤60)∧0≤r∧r≤2):=by omega
       simp [h1,h2,h3,h4,this]
theorem vP (l:List aS) (hl:l.length≤9223372036854775806):vJ l=some (!(l.any fun x=>!decide (vR x))):=by
 have key:aK (wN l) 0=some (if (l.any fun x=>!decide (vR x)) then .inl () else .inr ()):=by
  refine gF l (wN l) (fun k=>(k:Int)) _ _ _ rfl (fun k x hx=>?_) ?_
  ·have hk:=(List.getElem?_eq_some_iff.1 hx).1
   unfold wN
   have h1:decide ((k:Int)<(l.length:Int))=true:=by simp;omega
   simp only [h1,if_true,aQ hx,Option.bind_some,tC]
   rw [aY (a:=(k:Int)) (by omega) (by omega)]
   rfl
  ·simp [wN]
 unfold vJ
 rw [key]
 cases (l.any fun x=>!decide (vR x)) <;> rfl
theorem vT (l:List aS) (hl:l.length≤9223372036854775806):dY l=some (!(l.any fun x=>!decide (vR x))):=by
 have key:aK (iO l) 0=some (if (l.any fun x=>!decide (vR x)) then .inl () else .inr ()):=by
  refine gF l (iO l) (fun k=>(k:Int)) _ _ _ rfl (fun k x hx=>?_) ?_
  ·have hk:=(List.getElem?_eq_some_iff.1 hx).1
   unfold iO
   have h1:decide ((k:Int)<(l.length:Int))=true:=by simp;omega
   simp only [h1,if_true,aQ hx,Option.bind_some,Jm]
   rw [aY (a:=(k:Int)) (by omega) (by omega)]
   rfl
  ·simp [iO]
 unfold dY
 rw [key]
 cases (l.any fun x=>!decide (vR x)) <;> rfl
def outs (r:aS) (l:List aS):Bool:=l.any fun x=>!decide (tZ x r)
theorem LS (r:aS×Bool) (l:List aS) (hl:l.length≤9223372036854775806):aK (lN r l) 0=some (if outs r.1 l then .inl () else .inr ()):=by
 refine gF l (lN r l) (fun k=>(k:Int)) _ _ _ rfl (fun k x hx=>?_) ?_
 ·have hk:=(List.getElem?_eq_some_iff.1 hx).1
  unfold lN
  have h1:decide ((k:Int)<(l.length:Int))=true:=by simp;omega
  simp only [h1,if_true,aQ hx,Option.bind_some,Ot]
  rw [aY (a:=(k:Int)) (by omega) (by omega)]
  rfl
 ·simp [lN]
theorem Wm (s:bF) (l:List aS) (hl:l.length≤9223372036854775806):kS s l=some (!(outs ⟨0,0,s.fA,s.cQ⟩ l)):=by
 have key:aK (iP s l) 0=some (if outs ⟨0,0,s.fA,s.cQ⟩ l then .inl () else .inr ()):=by
  refine gF l (iP s l) (fun k=>(k:Int)) _ _ _ rfl (fun k x hx=>?_) ?_
  ·have hk:=(List.getElem?_eq_some_iff.1 hx).1
   unfold iP
   have h1:decide ((k:Int)<(l.length:Int))=true:=by simp;omega
   simp only [h1,if_true,aQ hx,Option.bind_some,Ou]
   rw [aY (a:=(k:Int)) (by omega) (by omega)]
   rfl
  ·simp [iP]
 unfold kS
 rw [key]
 cases outs ⟨0,0,s.fA,s.cQ⟩ l <;> rfl
theorem LU (s:bF) (r:aS×Bool) (h1:s.cC.length≤9223372036854775806) (h2:s.Used.length≤9223372036854775806):aK (lO s r) 0=some (if outs r.1 s.cC || outs r.1 s.Used then .inl () else .inr ()):=by
 have:=gF [s.cC,s.Used] (lO s r) (fun k=>(k:Int)) (fun l=>outs r.1 l) (.inr ()) (.inl ()) rfl (fun k x hx=>?_) ?_
 ·refine this.trans ?_;simp
 ·have hk:=(List.getElem?_eq_some_iff.1 hx).1
  unfold lO
  have hm:x=s.cC∨x=s.Used:=by have:=List.mem_of_getElem? hx;simpa using this
  have hl:x.length≤9223372036854775806:=by rcases hm with rfl | rfl <;> assumption
  have h3:decide ((k:Int)<(([s.cC,s.Used]:List (List aS)).length:Int))=true:=by rw [decide_eq_true_eq];exact Int.ofNat_lt.2 hk
  simp only [h3,if_true,aQ hx,Option.bind_some,LS r x hl]
  have hk':k<2:=hk
  rw [aY (a:=(k:Int)) (by omega) (by omega)]
  cases outs r.1 x <;> simp
 ·simp [lO]
theorem Sf (s:bF):∃ b,jS s=some b∧iX s=some b:=by
 obtain ⟨a,ha,ha'⟩:=pT s.Name
 obtain ⟨b,hb,hb'⟩:=pT s.cH
 unfold jS iX
 rw [ha,hb,Ur ha' hb']
 cases a with
 | false=>exact ⟨2,rfl,rfl⟩
 | true =>
 cases b with
 | false=>exact ⟨2,rfl,rfl⟩
 | true =>
 simp only [Option.bind_some,Hm,Ya,Bool.and_self,if_true,Bool.not_true,Bool.false_eq_true,if_false]
 by_cases h1:(1≤s.gU∧s.gU≤60)∧0≤s.gV∧s.gV≤2
 ·simp only [h1,and_self,decide_true,if_true,Option.bind_some]
  by_cases h2:1≤s.fA∧s.fA≤1048576
  ·by_cases h3:1≤s.cQ∧s.cQ≤1048576
   ·have q1:¬ s.fA<1:=by omega
    have q2:¬ s.fA>1048576:=by omega
    have q3:¬ s.cQ<1:=by omega
    have q4:¬ s.cQ>1048576:=by omega
    simp only [h2,h3,q1,q2,q3,q4,and_self,decide_true,decide_false,if_true,Option.bind_some,Bool.not_true,Bool.false_eq_true,if_false,bne_self_eq_false]
    by_cases h4:(s.cC.length:Int)>4
    ·exact ⟨4,by simp [h4],by simp [h4]⟩
    by_cases h5:(s.Used.length:Int)>48
    ·exact ⟨4,by simp [h5],by simp [h5]⟩
    simp only [h4,h5,decide_false,Bool.false_eq_true,if_false,Option.bind_some,vP s.cC (by omega),vP s.Used (by omega),vT s.cC (by omega),vT s.Used (by omega),Wm s s.cC (by omega),Wm s s.Used (by omega)]
    cases (s.cC.any fun x=>!decide (vR x)) with
    | true=>exact ⟨1,rfl,rfl⟩
    | false =>
    cases (s.Used.any fun x=>!decide (vR x)) with
    | true=>exact ⟨1,rfl,rfl⟩
    | false =>
    have hi:Ir s 0=some (⟨0,0,s.fA,s.cQ⟩,decide (vR ⟨0,0,s.fA,s.cQ⟩)):=by
     unfold Ir
     rw [tC]
     have e0:lB 2 0=0:=by rw [Kt (by omega) (by omega)];rfl
     rw [e0,bK (by omega) (by omega),bK (by omega) (by omega),Int.sub_zero,Int.sub_zero]
     rfl
    simp only [hi,Option.bind_some,LU s _ (show s.cC.length≤_ by omega) (show s.Used.length≤_ by omega),Bool.not_false,if_true,Bool.not_true,Bool.false_eq_true,if_false]
    cases outs ⟨0,0,s.fA,s.cQ⟩ s.cC with
    | true=>exact ⟨13,rfl,rfl⟩
    | false =>
    cases outs ⟨0,0,s.fA,s.cQ⟩ s.Used with
    | true=>exact ⟨13,rfl,rfl⟩
    | false=>exact ⟨0,rfl,rfl⟩
   ·refine ⟨1,by simp [h2,h3], ?_⟩
    by_cases q3:s.cQ<1
    ·simp [q3]
    ·have q4:s.cQ>1048576:=by omega
     simp [q3,q4]
  ·refine ⟨1,by simp [h2], ?_⟩
   by_cases q3:s.fA<1
   ·simp [q3]
   ·have q4:s.fA>1048576:=by omega
    simp [q3,q4]
 ·exact ⟨1,by simp only [h1,decide_false];rfl,by simp only [h1,if_false];rfl⟩
def cnt (l:List Bool):Nat:=l.countP (·==true)
theorem EL {l:List Bool} {k:Nat} (h:l[k]?=some false):cnt (l.set k true)=cnt l+1:=by
 unfold cnt
 have hk:=(List.getElem?_eq_some_iff.1 h).1
 have hv:=(List.getElem?_eq_some_iff.1 h).2
 rw [List.countP_set hk]
 simp [hv]
theorem OX {l:List Bool} (h:cnt l=l.length):∀ x ∈ l,x=true:=by
 have:=List.countP_eq_length.1 h
 intro x hx;simpa using this x hx
theorem Qs (a b:aS):rY a b=Dl a b:=rfl
theorem EB (a b:aS):∃ t,Dl a b=some t:=by
 unfold Dl
 split
 ·split
  ·exact ⟨_,rfl⟩
  ·split <;> exact ⟨_,rfl⟩
 ·split <;> exact ⟨_,rfl⟩
theorem GV {l:List aS} (hl:l.length≤1000) {x:Int} {r:aS} (hx:idx l x=some r) {i:Nat} {b0:Bool×Unit} :
  ∀ (m k:Nat) (seen:List Bool) (w0 l0 ext:List Int) (s:Int×List Bool×List Int),k+m=l.length→seen.length=l.length→l0[i]?=some x→s.1=(i:Int)→w0.length+ext.length≤1000000-m→l0.length+ext.length≤1000000-m →
    ∃ seen' ext',aK (kP l x) ((k:Int),seen,w0++ext)=some (seen',w0++ext')∧aK (dW l s) ((k:Int),seen,l0++ext)=some (seen',l0++ext')∧seen'.length=l.length∧cnt seen'+ext.length=cnt seen+ext'.length∧(∀ y ∈ ext',y ∈ ext∨(0≤y∧y<l.length)):=by
 intro m
 induction m with
 | zero =>
   intro k seen w0 l0 ext s hk hs hi hsi h1 h2
   obtain rfl:k=l.length:=by omega
   refine ⟨seen,ext,eA ?_,eA ?_,hs,rfl,fun y hy=>.inl hy⟩
   ·simp [kP]
   ·simp [dW]
 | succ m ih =>
   intro k seen w0 l0 ext s hk hs hi hsi h1 h2
   have hkl:k<l.length:=by omega
   have hy:l[k]?=some l[k]:=by simp
   have hsn:seen[k]?=some seen[k]:=by simp [hs,hkl]
   have hle:i<l0.length:=(List.getElem?_eq_some_iff.1 hi).1
   have hi':∀ e:List Int,(l0++e)[i]?=some x:=fun e=>by rw [List.getElem?_append_left hle];exact hi
   have hd:decide ((k:Int)<(l.length:Int))=true:=by simp;omega
   have e1:aL (k:Int) 1=((k+1:Nat):Int):=by rw [aY (by omega) (by omega)];rfl
   obtain ⟨t,ht⟩:=EB r l[k]
   by_cases hb:seen[k]=true
   ·obtain ⟨seen',ext',p1,p2,p3⟩:=ih (k+1) seen w0 l0 ext s (by omega) hs hi hsi (by omega) (by omega)
    refine ⟨seen',ext', ?_, ?_,p3⟩
    ·rw [gT (s':=(((k+1:Nat):Int),seen,w0++ext))]
     ·exact p1
     ·unfold kP nC
      simp only [hd,if_true,aQ hsn,hb,Option.bind_some,Bool.false_eq_true,if_false,e1]
    ·rw [gT (s':=(((k+1:Nat):Int),seen,l0++ext))]
     ·exact p2
     ·unfold dW eQ
      simp only [hd,if_true,aQ hsn,hb,Option.bind_some,Bool.false_eq_true,if_false,e1]
   ·have hb':seen[k]=false:=by simpa using hb
    cases t with
    | false =>
      obtain ⟨seen',ext',p1,p2,p3⟩:=ih (k+1) seen w0 l0 ext s (by omega) hs hi hsi (by omega) (by omega)
      refine ⟨seen',ext', ?_, ?_,p3⟩
      ·rw [gT (s':=(((k+1:Nat):Int),seen,w0++ext))]
       ·exact p1
       ·unfold kP nC
        simp only [hd,if_true,aQ hsn,aQ hy,hx,ht,hb',Option.bind_some,Bool.false_eq_true,if_false,e1]
      ·rw [gT (s':=(((k+1:Nat):Int),seen,l0++ext))]
       ·exact p2
       ·unfold dW eQ
        simp only [hd,if_true,aQ hsn,aQ hy,hsi,aQ (hi' ext),hx,Qs,ht,hb',Option.bind_some,Bool.false_eq_true,if_false,e1]
    | true =>
      have hset:(seen.set k true).length=l.length:=by rw [List.length_set];exact hs
      obtain ⟨seen',ext',p1,p2,p3,p4,p5⟩:=ih (k+1) (seen.set k true) w0 l0 (ext++[(k:Int)]) s (by omega) hset hi hsi (by simp;omega) (by simp;omega)
      have a1:app (w0++ext) [(k:Int)]=some (w0++(ext++[(k:Int)])):=by rw [lA (by unfold LIM;simp;omega),List.append_assoc]
      have a2:app (l0++ext) [(k:Int)]=some (l0++(ext++[(k:Int)])):=by rw [lA (by unfold LIM;simp;omega),List.append_assoc]
      refine ⟨seen',ext', ?_, ?_,p3, ?_,fun y hy'=>?_⟩
      ·rw [gT (s':=(((k+1:Nat):Int),seen.set k true,w0++(ext++[(k:Int)])))]
       ·exact p1
       ·unfold kP nC
        simp only [hd,if_true,aQ hsn,aQ hy,hx,ht,hb',Option.bind_some,Bool.false_eq_true,if_false,e1,a1,Int.toNat_natCast]
      ·rw [gT (s':=(((k+1:Nat):Int),seen.set k true,l0++(ext++[(k:Int)])))]
       ·exact p2
       ·unfold dW eQ
        simp only [hd,if_true,aQ hsn,aQ hy,hsi,aQ (hi' ext),hx,Qs,ht,hb',Option.bind_some,Bool.false_eq_true,if_false,e1,a2,Int.toNat_natCast]
      ·rw [EL (by rw [hsn,hb'])] at p4
       simp at p4;omega
      ·rcases p5 y hy' with h | h
       ·rcases List.mem_append.1 h with h | h
        ·exact .inl h
        ·right;rw [List.mem_singleton.1 h];omega
       ·exact .inr h
theorem GW {l:List aS} (hl:l.length≤1000):∀ (m i:Nat) (seen:List Bool) (q:List Int),i+m=l.length→i≤q.length→seen.length=l.length→cnt seen=q.length→(∀ y ∈ q,0≤y∧y<l.length) →
  ∃ seen' q',aK (nD l) (seen,q.drop i)=some seen'∧aK (eS l) ((i:Int),seen,q)=some q'∧seen'.length=l.length∧cnt seen'=q'.length:=by
 intro m
 induction m with
 | zero =>
   intro i seen q him hiq hs hc hq
   have hcl:cnt seen≤seen.length:=List.countP_le_length
   obtain rfl:i=q.length:=by omega
   refine ⟨seen,q,eA ?_,eA ?_,hs,hc⟩
   ·simp [nD]
   ·simp [eS]
 | succ m ih =>
   intro i seen q him hiq hs hc hq
   have hcl:cnt seen≤seen.length:=List.countP_le_length
   by_cases hlt:i<q.length
   ·have hx:q[i]?=some q[i]:=by simp
    have hxm:=hq q[i] (List.getElem_mem hlt)
    have ed:q.drop i=q[i]::q.drop (i+1):=List.drop_eq_getElem_cons hlt
    have hr:idx l q[i]=some (l[q[i].toNat]'(by omega)):=by
     unfold idx;rw [if_pos hxm.1];simp [show q[i].toNat<l.length by omega]
    obtain ⟨seen',ext',p1,p2,p3,p4,p5⟩:=GV hl hr (b0:=(true,())) l.length 0 seen (q.drop (i+1)) q [] ((i:Int),seen,q) (by omega) hs hx rfl (by simp;omega) (by simp;omega)
    simp only [List.append_nil,List.length_nil,Nat.add_zero] at p1 p2 p4
    obtain ⟨seen2,q2,r1,r2,r3⟩:=ih (i+1) seen' (q++ext') (by omega) (by simp;omega) p3 (by simp;omega) (fun y hy=>by
     rcases List.mem_append.1 hy with h | h
     ·exact hq y h
     ·rcases p5 y h with h | h
      ·exact absurd h (by simp)
      ·exact h)
    refine ⟨seen2,q2, ?_, ?_,r3⟩
    ·rw [gT (s':=(seen',(q++ext').drop (i+1)))]
     ·exact r1
     ·unfold nD
      have e0:idx (q.drop i) 0=some q[i]:=by rw [ed];rfl
      have e2:List.drop 1 (q.drop i)=q.drop (i+1):=by rw [List.drop_drop]
      have h1:decide (((q.drop i).length:Int)>0)=true:=by rw [ed];simp;omega
      have h2:decide (1≤(q.drop i).length)=true:=by rw [decide_eq_true_eq,List.length_drop];omega
      simp only [h1,if_true,e0,Option.bind_some,h2,e2]
      have p1':aK (kP l q[i]) (0,seen,List.drop (i+1) q)=some (seen',List.drop (i+1) q++ext'):=p1
      rw [p1',List.drop_append_of_le_length (by omega)]
      rfl
    ·rw [gT (s':=(((i+1:Nat):Int),seen',q++ext'))]
     ·exact r2
     ·unfold eS
      have h1:decide ((i:Int)<(q.length:Int))=true:=by simp;omega
      have p2':aK (dW l ((i:Int),seen,q)) (0,seen,q)=some (seen',q++ext'):=p2
      simp only [h1,if_true,p2',Option.bind_some]
      rw [aY (by omega) (by omega)]
      rfl
   ·obtain rfl:i=q.length:=by omega
    refine ⟨seen,q,eA ?_,eA ?_,hs,hc⟩
    ·simp [nD]
    ·simp [eS]
theorem KM (l:List Bool) (hl:l.length≤1000):aK (qT l) 0=some (if l.any (fun x=>!x) then .inl () else .inr ()):=by
 refine gF l (qT l) (fun k=>(k:Int)) _ _ _ rfl (fun k x hx=>?_) ?_
 ·have hk:=(List.getElem?_eq_some_iff.1 hx).1
  unfold qT
  have h1:decide ((k:Int)<(l.length:Int))=true:=by simp;omega
  simp only [h1,if_true,aQ hx,Option.bind_some]
  rw [aY (a:=(k:Int)) (by omega) (by omega)]
  rfl
 ·simp [qT]
theorem Jq {l:List aS} (hl:l.length≤1000) (h0:0<l.length):∃ b,yA l=some b∧lG l=some b:=by
 have hmk:mk (l.length:Int) false=some (List.replicate l.length false):=by
  unfold mk;rw [if_pos (by unfold LIM;omega)];simp
 have hf:(List.replicate l.length false)[0]?=some false:=by simp [h0]
 have hc:cnt ((List.replicate l.length false).set 0 true)=1:=by
  rw [EL hf];unfold cnt;simp [List.countP_replicate]
 obtain ⟨seen',q',p1,p2,p3,p4⟩:=GW hl l.length 0 ((List.replicate l.length false).set 0 true) [0] (by omega) (by simp) (by simp) (by rw [hc];rfl) (by simp;omega)
 unfold yA lG
 have i0:idx (List.replicate l.length false) 0=some false:=aQ (k:=0) hf
 have p1':aK (nD l) ((List.replicate l.length false).set (Int.toNat 0) true,[0])=some seen':=p1
 have p2':aK (eS l) (0,(List.replicate l.length false).set (Int.toNat 0) true,[0])=some q':=p2
 simp only [hmk,Option.bind_some,i0,p1',p2',KM seen' (by omega)]
 refine ⟨_, ?_,rfl⟩
 by_cases ha:seen'.any (fun x=>!x)=true
 ·have:¬ (q'.length:Int)=(l.length:Int):=by
   intro h
   obtain ⟨x,hx,hn⟩:=List.any_eq_true.1 ha
   have:=OX (l:=seen') (by omega) x hx
   subst this;simp at hn
  simp [ha,this]
 ·have:(q'.length:Int)=(l.length:Int):=by
   rw [← p4,← p3]
   congr 1
   unfold cnt
   rw [List.countP_eq_length]
   intro x hx
   by_cases h:x=true
   ·simp [h]
   ·exact absurd (List.any_eq_true.2 ⟨x,hx,by simpa using h⟩) ha
  rw [this]
  simp only [ha,Bool.false_eq_true,if_false,beq_self_eq_true,Option.bind_some]
def Be (h x:aS):Bool:=if h.X>x.X then (if h.Y>x.Y then (if aL h.X h.W<aL x.X x.W then decide (aL h.Y h.H<aL x.Y x.H) else false) else false) else false
theorem BV (h:aS) (l:List aS) (hl:l.length≤1000):wM h l=some (l.any (Be h)):=by
 have key:aK (sV h l) 0=some (if l.any (Be h) then .inl () else .inr ()):=by
  refine gF l (sV h l) (fun k=>(k:Int)) _ _ _ rfl (fun k x hx=>?_) ?_
  ·have hk:=(List.getElem?_eq_some_iff.1 hx).1
   unfold sV
   have h1:decide ((k:Int)<(l.length:Int))=true:=by simp;omega
   simp only [h1,if_true,aQ hx,Option.bind_some]
   rw [aY (a:=(k:Int)) (by omega) (by omega)]
   unfold Be
   by_cases q1:h.X>x.X
   ·by_cases q2:h.Y>x.Y
    ·by_cases q3:aL h.X h.W<aL x.X x.W
     ·by_cases q4:aL h.Y h.H<aL x.Y x.H <;> simp [q1,q2,q3,q4]
     ·simp [q1,q2,q3]
    ·simp [q1,q2]
   ·simp [q1]
  ·simp [sV]
 unfold wM
 rw [key]
 cases l.any (Be h) <;> rfl
theorem PB (h:aS) (l:List aS) (hl:l.length≤1000):rB h l=some (l.any (Be h)):=by
 have key:aK (jX h l) 0=some (if l.any (Be h) then .inl () else .inr ()):=by
  refine gF l (jX h l) (fun k=>(k:Int)) _ _ _ rfl (fun k x hx=>?_) ?_
  ·have hk:=(List.getElem?_eq_some_iff.1 hx).1
   unfold jX
   have h1:decide ((k:Int)<(l.length:Int))=true:=by simp;omega
   simp only [h1,if_true,aQ hx,Option.bind_some]
   rw [aY (a:=(k:Int)) (by omega) (by omega)]
   unfold Be
   by_cases q1:h.X>x.X
   ·by_cases q2:h.Y>x.Y
    ·by_cases q3:aL h.X h.W<aL x.X x.W
     ·by_cases q4:aL h.Y h.H<aL x.Y x.H <;> simp [q1,q2,q3,q4]
     ·simp [q1,q2,q3]
    ·simp [q1,q2]
   ·simp [q1]
  ·simp [jX]
 unfold rB
 rw [key]
 cases l.any (Be h) <;> rfl
def Eh (x0:aV) (l:List aS) (k:Nat):Bool:=match l[k]? with
 | some x=>!(x0.aD.any (Be x)) || (decide ((k:Int)<(x0.bO.length:Int))&&((x.W==1) || (x.H==1)))
 | none=>false
theorem Wk (x0:aV) (l:List aS) (hl:l.length≤1000) (hr:x0.aD.length≤1000):aK (vE x0 l) 0=some (if (List.range l.length).any (Eh x0 l) then .inl () else .inr ()):=by
 refine jF l.length (vE x0 l) (fun k=>(k:Int)) _ _ _ rfl (fun k hk=>?_) ?_
 ·have hx:l[k]?=some l[k]:=by simp
  unfold vE Eh
  have h1:decide ((k:Int)<(l.length:Int))=true:=by simp;omega
  simp only [h1,if_true,aQ hx,hx,Option.bind_some,BV _ _ hr]
  rw [aY (a:=(k:Int)) (by omega) (by omega)]
  by_cases q1:(k:Int)<(x0.bO.length:Int)
  ·cases q2:(l[k].W==1)
   ·cases q3:(l[k].H==1)
    ·cases x0.aD.any (Be l[k]) <;> simp [q1,q2,q3]
    ·cases x0.aD.any (Be l[k]) <;> simp [q1,q2,q3]
   ·cases x0.aD.any (Be l[k]) <;> simp [q1,q2]
  ·cases x0.aD.any (Be l[k]) <;> simp [q1]
 ·simp [vE]
theorem Ui (x0:aV) (l:List aS) (hl:l.length≤1000) (hr:x0.aD.length≤1000):aK (eV x0 l) 0=some (if (List.range l.length).any (Eh x0 l) then .inl () else .inr ()):=by
 refine jF l.length (eV x0 l) (fun k=>(k:Int)) _ _ _ rfl (fun k hk=>?_) ?_
 ·have hx:l[k]?=some l[k]:=by simp
  unfold eV Eh
  have h1:decide ((k:Int)<(l.length:Int))=true:=by simp;omega
  simp only [h1,if_true,aQ hx,hx,Option.bind_some,PB _ _ hr]
  rw [aY (a:=(k:Int)) (by omega) (by omega)]
  by_cases q1:(k:Int)<(x0.bO.length:Int)
  ·cases q2:(l[k].W==1)
   ·cases q3:(l[k].H==1)
    ·cases x0.aD.any (Be l[k]) <;> simp [q1,q2,q3]
    ·cases x0.aD.any (Be l[k]) <;> simp [q1,q2,q3]
   ·cases x0.aD.any (Be l[k]) <;> simp [q1,q2]
  ·cases x0.aD.any (Be l[k]) <;> simp [q1]
 ·simp [eV]
def Jj (p:aS→aS→Bool) (l:List aS) (k:Nat):Bool:=match l[k]? with
 | some x=>(l.take k).any (p x)
 | none=>false
def Qt (x y:aS):Bool:=Zz x y==0
def qU (x y:aS):Bool:=decide (ovR x y)
theorem Uq {l:List aS} {k:Nat} (h:k≤l.length):slc l 0 (k:Int)=some (l.take k):=by
 unfold slc;rw [if_pos (by omega)];simp
theorem in2 (x:aS) (l:List aS) (hl:l.length≤1000):aK (vG x l) 0=some (if l.any (Qt x) then .inl () else .inr ()):=by
 refine gF l (vG x l) (fun k=>(k:Int)) _ _ _ rfl (fun k y hy=>?_) ?_
 ·have hk:=(List.getElem?_eq_some_iff.1 hy).1
  unfold vG
  have h1:decide ((k:Int)<(l.length:Int))=true:=by simp;omega
  simp only [h1,if_true,aQ hy,Option.bind_some,Zd]
  rw [aY (a:=(k:Int)) (by omega) (by omega)]
  rfl
 ·simp [vG]
theorem in3 (l:List aS) (hl:l.length≤1000):aK (vH l) 0=some (if (List.range l.length).any (Jj Qt l) then .inl () else .inr ()):=by
 refine jF l.length (vH l) (fun k=>(k:Int)) _ _ _ rfl (fun k hk=>?_) ?_
 ·have hx:l[k]?=some l[k]:=by simp
  unfold vH Jj
  have h1:decide ((k:Int)<(l.length:Int))=true:=by simp;omega
  simp only [h1,if_true,aQ hx,hx,Option.bind_some,Uq (Nat.le_of_lt hk),in2 _ (l.take k) (by simp;omega)]
  rw [aY (a:=(k:Int)) (by omega) (by omega)]
  cases (l.take k).any (Qt l[k]) <;> simp
 ·simp [vH]
theorem UE (l:List aS) (hl:l.length≤1000):aK (eX l) 0=some (if (List.range l.length).any (Jj Qt l) then .inl () else .inr ()):=by
 have inner:∀ (k:Nat) (hk:k<l.length),aK (eW l (k:Int)) 0=some (if (l.take k).any (Qt l[k]) then .inl () else .inr ()):=by
  intro k hk
  have hx:l[k]?=some l[k]:=by simp
  refine gF (l.take k) (eW l (k:Int)) (fun k=>(k:Int)) _ _ _ rfl (fun j y hy=>?_) ?_
  ·have hj:=(List.getElem?_eq_some_iff.1 hy).1
   rw [List.length_take] at hj
   have hy':l[j]?=some y:=by rw [List.getElem?_take] at hy;simpa [show j<k by omega] using hy
   unfold eW
   have h1:decide ((j:Int)<(k:Int))=true:=by simp;omega
   simp only [h1,if_true,aQ hx,aQ hy',Option.bind_some,JM]
   rw [aY (a:=(j:Int)) (by omega) (by omega)]
   rfl
  ·have:(l.take k).length=k:=by simp;omega
   simp [eW,this]
 refine jF l.length (eX l) (fun k=>(k:Int)) _ _ _ rfl (fun k hk=>?_) ?_
 ·have hx:l[k]?=some l[k]:=by simp
  unfold eX Jj
  have h1:decide ((k:Int)<(l.length:Int))=true:=by simp;omega
  simp only [h1,if_true,hx,Option.bind_some,inner k hk]
  rw [aY (a:=(k:Int)) (by omega) (by omega)]
  cases (l.take k).any (Qt l[k]) <;> simp
 ·simp [eX]
theorem ov2 (x:aS) (l:List aS) (hl:l.length≤1000):aK (lL x l) 0=some (if l.any (qU x) then .inl () else .inr ()):=by
 refine gF l (lL x l) (fun k=>(k:Int)) _ _ _ rfl (fun k y hy=>?_) ?_
 ·have hk:=(List.getElem?_eq_some_iff.1 hy).1
  unfold lL
  have h1:decide ((k:Int)<(l.length:Int))=true:=by simp;omega
  simp only [h1,if_true,aQ hy,Option.bind_some,Sc]
  rw [aY (a:=(k:Int)) (by omega) (by omega)]
  rfl
 ·simp [lL]
theorem ov3 (x0:aV) (hl:x0.aD.length≤1000):aK (lM x0) 0=some (if (List.range x0.aD.length).any (Jj qU x0.aD) then .inl () else .inr ()):=by
 refine jF x0.aD.length (lM x0) (fun k=>(k:Int)) _ _ _ rfl (fun k hk=>?_) ?_
 ·have hx:x0.aD[k]?=some x0.aD[k]:=by simp
  unfold lM Jj
  have h1:decide ((k:Int)<(x0.aD.length:Int))=true:=by simp;omega
  simp only [h1,if_true,aQ hx,hx,Option.bind_some,Uq (Nat.le_of_lt hk),ov2 _ (x0.aD.take k) (by simp;omega)]
  rw [aY (a:=(k:Int)) (by omega) (by omega)]
  cases (x0.aD.take k).any (qU x0.aD[k]) <;> simp
 ·simp [lM]
theorem Ms (x:aS) (l:List aS) (hl:l.length≤1000):gK x l=some (l.any (qU x)):=by
 have key:aK (jG x l) 0=some (if l.any (qU x) then .inl () else .inr ()):=by
  refine gF l (jG x l) (fun k=>(k:Int)) _ _ _ rfl (fun k y hy=>?_) ?_
  ·have hk:=(List.getElem?_eq_some_iff.1 hy).1
   unfold jG
   have h1:decide ((k:Int)<(l.length:Int))=true:=by simp;omega
   simp only [h1,if_true,aQ hy,Option.bind_some,Zf]
   rw [aY (a:=(k:Int)) (by omega) (by omega)]
   rfl
  ·simp [jG]
 unfold gK
 rw [key]
 cases l.any (qU x) <;> rfl
theorem UK (x0:aV) (hl:x0.aD.length≤1000):aK (eU x0) 0=some (if (List.range x0.aD.length).any (Jj qU x0.aD) then .inl () else .inr ()):=by
 refine jF x0.aD.length (eU x0) (fun k=>(k:Int)) _ _ _ rfl (fun k hk=>?_) ?_
 ·have hx:x0.aD[k]?=some x0.aD[k]:=by simp
  unfold eU Jj
  have h1:decide ((k:Int)<(x0.aD.length:Int))=true:=by simp;omega
  simp only [h1,if_true,aQ hx,hx,Option.bind_some,Uq (Nat.le_of_lt hk),Ms _ (x0.aD.take k) (by simp;omega)]
  rw [aY (a:=(k:Int)) (by omega) (by omega)]
  rfl
 ·simp [eU]
def Ip (l:List aS) (a:Int):Int:=l.foldl (fun s r=>min s r.X) a
def Iq (l:List aS) (a:Int):Int:=l.foldl (fun s r=>min s r.Y) a
theorem Tu (x0:aV) (hl:x0.aD.length≤1000) (a b:Int):aK (dQ x0) (a,b,0)=some (Ip x0.aD a,Iq x0.aD b):=by
 refine sU x0.aD (dQ x0) (fun k=>(Ip (x0.aD.take k) a,Iq (x0.aD.take k) b,(k:Int))) _ (fun k r hr=>?_) ?_
 ·have hk:=(List.getElem?_eq_some_iff.1 hr).1
  unfold dQ
  have h1:decide ((k:Int)<(x0.aD.length:Int))=true:=by simp;omega
  have e:x0.aD.take (k+1)=x0.aD.take k++[r]:=by rw [List.take_add_one,hr];rfl
  simp only [h1,if_true,aQ hr,Option.bind_some,e,Ca]
  rw [aY (a:=(k:Int)) (by omega) (by omega)]
  unfold Ip Iq
  rw [List.foldl_append,List.foldl_append]
  rfl
 ·simp [dQ]
theorem CY (x0:aV):rX x0.aD=dQ x0:=by
 funext s
 unfold rX dQ
 cases idx x0.aD s.2.2 <;> rfl
theorem AU (x0:aV) (hl:x0.aD.length≤1000) {r:aS} (hr:x0.aD[0]?=some r):pN x0.aD=some (Ip x0.aD r.X,Iq x0.aD r.Y):=by
 unfold pN
 have i0:idx x0.aD 0=some r:=aQ (k:=0) hr
 have hk:=(List.getElem?_eq_some_iff.1 hr).1
 have h1:aK (dQ x0) (r.X,r.Y,0)=aK (dQ x0) (r.X,r.Y,1):=by
  refine gT ?_
  unfold dQ
  have hd:decide ((0:Int)<(x0.aD.length:Int))=true:=by simp;omega
  simp only [hd,if_true,i0,Option.bind_some,Ca,Int.min_self]
  rfl
 rw [i0,CY]
 simp only [Option.bind_some]
 rw [← h1,Tu x0 hl]
 rfl
theorem Lx (x:aV):∃ b,dV x=some b∧bX x=some b:=by
 obtain ⟨a,ha,ha'⟩:=pT x.Name
 obtain ⟨b,hb,hb'⟩:=pT x.cH
 unfold dV bX
 rw [ha,hb,Ur ha' hb']
 cases a with
 | false=>exact ⟨2,rfl,rfl⟩
 | true =>
 cases b with
 | false=>exact ⟨2,rfl,rfl⟩
 | true =>
 simp only [Option.bind_some,Hm,Bool.and_self,if_true,Bool.not_true,Bool.false_eq_true,if_false]
 by_cases h1:(1≤x.gU∧x.gU≤60)∧0≤x.gV∧x.gV≤2
 ·simp only [h1,and_self,decide_true,if_true,Option.bind_some,Bool.not_true,Bool.false_eq_true,if_false,bne_self_eq_false]
  by_cases l1:(x.aD.length:Int)>12
  ·exact ⟨4,by simp [l1],by simp [l1]⟩
  by_cases l2:(x.bO.length:Int)>12
  ·exact ⟨4,by simp [l2],by simp [l2]⟩
  by_cases l3:(x.Forms.length:Int)>12
  ·exact ⟨4,by simp [l3],by simp [l3]⟩
  have k1:x.aD.length≤12:=by omega
  have k2:x.bO.length≤12:=by omega
  have k3:x.Forms.length≤12:=by omega
  simp only [l1,l2,l3,decide_false,Bool.false_eq_true,if_false,Option.bind_some]
  by_cases h0:(x.aD.length:Int)=0
  ·exact ⟨1,by simp [h0],by simp [h0]⟩
  have h0':((x.aD.length:Int)==0)=false:=by rw [beq_eq_false_iff_ne];exact h0
  simp only [h0',Bool.false_eq_true,if_false,vP x.aD (by omega),vP x.bO (by omega),vP x.Forms (by omega),vT x.aD (by omega),vT x.bO (by omega),vT x.Forms (by omega),Option.bind_some]
  cases (x.aD.any fun x=>!decide (vR x)) with
  | true=>exact ⟨1,rfl,rfl⟩
  | false =>
  cases (x.bO.any fun x=>!decide (vR x)) with
  | true=>exact ⟨1,rfl,rfl⟩
  | false =>
  cases (x.Forms.any fun x=>!decide (vR x)) with
  | true=>exact ⟨1,rfl,rfl⟩
  | false =>
  have hr:x.aD[0]?=some (x.aD[0]'(by omega)):=by simp [show 0<x.aD.length by omega]
  have i0:idx x.aD 0=some (x.aD[0]'(by omega)):=aQ (k:=0) hr
  obtain ⟨cn,c1,c2⟩:=Jq (l:=x.aD) (by omega) (by omega)
  have ap1:app [] x.bO=some x.bO:=by rw [lA (by unfold LIM;simp;omega)];rfl
  have ap2:app x.bO x.Forms=some (x.bO++x.Forms):=lA (by unfold LIM;omega)
  have k4:(x.bO++x.Forms).length≤1000:=by simp;omega
  simp only [Bool.not_false,Bool.not_true,if_true,Bool.false_eq_true,if_false,Option.bind_some,i0,Tu x (by omega),AU x (by omega) hr,ov3 x (by omega),UK x (by omega),c1,c2]
  generalize x.aD[0]'(by omega)=r0
  by_cases m1:Ip x.aD r0.X=0
  ·by_cases m2:Iq x.aD r0.Y=0
   ·simp only [m1,m2,bne_self_eq_false,Bool.false_eq_true,if_false,Option.bind_some]
    cases (List.range x.aD.length).any (Jj qU x.aD) with
    | true=>exact ⟨7,rfl,rfl⟩
    | false =>
    cases cn with
    | false=>exact ⟨6,rfl,rfl⟩
    | true =>
    simp only [Bool.not_true,Bool.false_eq_true,if_false,Option.bind_some]
    unfold Ex
    simp only [ap1,ap2,Option.bind_some,Wk x _ k4 (show x.aD.length≤1000 by omega),Ui x _ k4 (show x.aD.length≤1000 by omega),in3 _ k4,UE _ k4]
    cases (List.range (x.bO++x.Forms).length).any (Eh x (x.bO++x.Forms)) with
    | true=>exact ⟨13,rfl,rfl⟩
    | false =>
    cases (List.range (x.bO++x.Forms).length).any (Jj Qt (x.bO++x.Forms)) with
    | true=>exact ⟨7,rfl,rfl⟩
    | false=>exact ⟨0,rfl,rfl⟩
   ·have m2':(Iq x.aD r0.Y != 0)=true:=by rw [bne_iff_ne];exact m2
    simp only [m1,m2',bne_self_eq_false,Bool.false_eq_true,if_false,Option.bind_some,if_true]
    exact ⟨1,rfl,rfl⟩
  ·have m1':(Ip x.aD r0.X != 0)=true:=by rw [bne_iff_ne];exact m1
   simp only [m1',Option.bind_some,if_true]
   exact ⟨1,rfl,rfl⟩
 ·exact ⟨1,by simp only [h1,decide_false];rfl,by simp only [h1,if_false];rfl⟩
end Go.SM
end
