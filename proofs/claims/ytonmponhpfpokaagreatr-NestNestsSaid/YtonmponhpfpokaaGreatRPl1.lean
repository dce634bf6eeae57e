/- What the functions compute, part 1. -/
import Derived.Test.YtonmponhpfpokaaGreatRVHC3
import Derived.Test.YtonmponhpfpokaaGreatRVHC4
import Derived.Lib.IndexMore
set_option linter.unusedVariables false
set_option linter.unusedSimpArgs false
set_option linter.unusedSectionVars false
noncomputable section
namespace Go.Cells
def OD (f:Nat→Int):Nat→Int
 | 0=>0
 | n+1=>OD f n+f n
def S (a b:Int) (f:Int→Int):Int:=OD (fun k=>f (a+k)) (b-a).toNat
def one (b:Bool):Int:=if b then 1 else 0
def lT (M:Int) (p:Int→Int→Bool):Int:=S (-M) M fun x=>S (-M) M fun y=>one (p x y)
end Go.Cells
namespace Go.VI
theorem nD {S R:Type} (μ:S→Nat) (I:S→Prop) (Q:R→Prop) (body:S→Option (S ⊕ R))
  (step:∀ s,I s→(∃ s',body s=some (.inl s')∧I s'∧μ s'<μ s)∨(∃ r,body s=some (.inr r)∧Q r)):∀ s,I s→∃ r,aM body s=some r∧Q r:=by
 have key:∀ (n:Nat) s,μ s<n→I s→∃ r,aM body s=some r∧Q r:=by
  intro n
  induction n with
  | zero=>intro s h;exact absurd h (Nat.not_lt_zero _)
  | succ n ih =>
    intro s h hs
    rcases step s hs with ⟨s',e,hs',hm⟩ | ⟨r,e,hr⟩
    ·rw [eI e];exact ih s' (by omega) hs'
    ·exact ⟨r,cF e,hr⟩
 exact fun s hs=>key (μ s+1) s (Nat.lt_succ_self _) hs
section
variable {α:Type} (d:α)
def gz (l:List α) (i:Int):α:=l.getD i.toNat d
theorem jF {l:List α} {i:Int} (h:0≤i) (h2:i<l.length):idx l i=some (gz d l i):=by
 unfold idx gz
 rw [if_pos h,List.getD_eq_getElem?_getD,List.getElem?_eq_getElem (by omega)]
 rfl
theorem GA {l:List α} {i k:Int} (hi:0≤i) (hk:0≤k) (h:i<l.length) (v:α):gz d (l.set i.toNat v) k=if k=i then v else gz d l k:=by
 unfold gz
 rw [List.getD_eq_getElem?_getD,List.getD_eq_getElem?_getD,List.getElem?_set]
 by_cases e:k=i
 ·subst e
  rw [if_pos rfl,if_pos (by omega),if_pos rfl];rfl
 ·rw [if_neg (by omega),if_neg e]
def sw (l:List α) (i j:Int):List α:=(l.set i.toNat (gz d l j)).set j.toNat (gz d l i)
theorem Sz (l:List α) (i j:Int):(sw d l i j).length=l.length:=by simp [sw]
theorem rM {l:List α} {i j k:Int} (hi:0≤i) (hj:0≤j) (hk:0≤k) (h1:i<l.length) (h2:j<l.length):gz d (sw d l i j) k=if k=j then gz d l i else if k=i then gz d l j else gz d l k:=by
 unfold sw
 rw [GA d hj hk (by rw [List.length_set];exact h2),GA d hi hk h1]
inductive On (a b:Int):List α→List α→Prop
 | refl (l:List α):On a b l l
 | step {l l':List α} (h:On a b l l') (i j:Int) (hi:a≤i) (hi':i<b) (hj:a≤j) (hj':j<b) (ha:0≤a) (hb:b≤l'.length):On a b l (sw d l' i j)
theorem On.len {a b:Int} {l l':List α} (h:On d a b l l'):l'.length=l.length:=by
 induction h with
 | refl=>rfl
 | step h i j _ _ _ _ _ _ ih=>rw [Sz,ih]
theorem On.trans {a b:Int} {l l' l'':List α} (h:On d a b l l') (h':On d a b l' l''):On d a b l l'':=by
 induction h' with
 | refl=>exact h
 | step _ i j hi hi' hj hj' ha hb ih=>exact .step ih i j hi hi' hj hj' ha hb
theorem On.mono {a b a' b':Int} {l l':List α} (h:On d a b l l') (h0:0≤a') (h1:a'≤a) (h2:b≤b') (h3:b'≤l.length):On d a' b' l l':=by
 induction h with
 | refl=>exact .refl _
 | step h i j hi hi' hj hj' ha hb ih=>exact .step ih i j (by omega) (by omega) (by omega) (by omega) h0 (by rw [h.len];exact h3)
theorem On.out {a b:Int} {l l':List α} (h:On d a b l l') {k:Int} (hk:0≤k) (hk':k<a∨b≤k):gz d l' k=gz d l k:=by
 induction h with
 | refl=>rfl
 | step h i j hi hi' hj hj' ha hb ih =>
   rw [rM d (by omega) (by omega) hk (by omega) (by omega),if_neg (by omega),if_neg (by omega),ih]
theorem On.all {a b:Int} {l l':List α} (h:On d a b l l') (Q:α→Prop) (hq:∀ k,a≤k→k<b→Q (gz d l k)):∀ k,a≤k→k<b→Q (gz d l' k):=by
 induction h with
 | refl=>exact hq
 | step h i j hi hi' hj hj' ha hb ih =>
   intro k h1 h2
   rw [rM d (by omega) (by omega) (by omega) (by omega) (by omega)]
   split
   ·exact ih i hi hi'
   ·split
    ·exact ih j hj hj'
    ·exact ih k h1 h2
theorem LN {l:List α} {i j:Int} (hi:0≤i) (hj:0≤j) (h1:i<l.length) (h2:j<l.length):(sw d l i j).Perm l:=by
 unfold sw gz
 have e1:l.getD i.toNat d=l[i.toNat]'(by omega):=by rw [List.getD_eq_getElem?_getD,List.getElem?_eq_getElem (by omega)];rfl
 have e2:l.getD j.toNat d=l[j.toNat]'(by omega):=by rw [List.getD_eq_getElem?_getD,List.getElem?_eq_getElem (by omega)];rfl
 rw [e1,e2]
 exact List.set_set_perm (by omega) (by omega)
theorem On.perm {a b:Int} {l l':List α} (h:On d a b l l'):l'.Perm l:=by
 induction h with
 | refl=>exact .refl _
 | step h i j hi hi' hj hj' ha hb ih=>exact (LN d (by omega) (by omega) (by omega) (by omega)).trans ih
def Asc (lt:α→α→Bool) (a b:Int) (l:List α):Prop:=∀ i j,a≤i→i<j→j<b→lt (gz d l j) (gz d l i)=false
structure Ob (lt:α→α→Bool):Prop where
 asymm:∀ x y,lt x y=true→lt y x=false
 neg:∀ x y z,lt x z=true→lt x y=true∨lt y z=true
theorem Ob.le_trans {lt:α→α→Bool} (w:Ob lt) {x y z:α} (h1:lt y x=false) (h2:lt z y=false):lt z x=false:=by
 cases h:lt z x with
 | false=>rfl
 | true=>rcases w.neg z y x h with q | q <;> simp_all
theorem Ob.irrefl {lt:α→α→Bool} (w:Ob lt) (x:α):lt x x=false:=by
 cases h:lt x x with
 | false=>rfl
 | true=>have:=w.asymm x x h;simp_all
end
end Go.VI
namespace Go.SM
open Go Go.VI
abbrev Br (α:Type):Type 1:=∀ (β:Type),α→α→(Bool→Option β)→Option β
def brC {α:Type} (cmp:α→α→Option Int):Br α:=fun _ x y k=>(cmp x y).bind fun r=>k (decide (r<0))
def brL {α:Type} (less:α→α→Option Bool):Br α:=fun _ x y k=>(less x y).bind k
def tB:(Int×Int)→Option (Int):=fun j3 =>
 (Kh (ByteArray.mk #[0,1,2,2,3,3,3,3,4,4,4,4,4,4,4,4,5,5,5,5,5,5,5,5,5,5,5,5,5,5,5,5,6,6,6,6,6,6,6,6,6,6,6,6,6,6,6,6,6,6,6,6,6,6,6,6,6,6,6,6,6,6,6,6,7,7,7,7,7,7,7,7,7,7,7,7,7,7,7,7,7,7,7,7,7,7,7,7,7,7,7,7,7,7,7,7,7,7,7,7,7,7,7,7,7,7,7,7,7,7,7,7,7,7,7,7,7,7,7,7,7,7,7,7,7,7,7,7,8,8,8,8,8,8,8,8,8,8,8,8,8,8,8,8,8,8,8,8,8,8,8,8,8,8,8,8,8,8,8,8,8,8,8,8,8,8,8,8,8,8,8,8,8,8,8,8,8,8,8,8,8,8,8,8,8,8,8,8,8,8,8,8,8,8,8,8,8,8,8,8,8,8,8,8,8,8,8,8,8,8,8,8,8,8,8,8,8,8,8,8,8,8,8,8,8,8,8,8,8,8,8,8,8,8,8,8,8,8,8,8,8,8,8,8,8,8,8,8,8,8,8,8,8,8,8,8]) (IntKind.wrap .u8 j3.1)).bind fun x5=>some (aJ j3.2 (IntKind.wrap .i64 x5))
def wN:(Int×Int)→Option (Int):=fun j2 =>
 if (decide (j2.1 ≥ 256)) then (tB ((Int.fdiv j2.1 (2^(min (Int.toNat 8) 64))),(aJ j2.2 8))) else (tB (j2.1,j2.2))
def Az:(Int×Int)→Option (Int):=fun j1 =>
 if (decide (j1.1 ≥ 65536)) then (wN ((Int.fdiv j1.1 (2^(min (Int.toNat 16) 64))),(aJ j1.2 16))) else (wN (j1.1,j1.2))
def Lg (x0:Int):Option (Int):=
 if (decide (x0 ≥ 4294967296)) then (Az ((Int.fdiv x0 (2^(min (Int.toNat 32) 64))),32)) else (Az (x0,0))
def Gc (x0:Int):Option (Int):=
 (Lg x0).bind fun r2=>some r2
def Ab (length:Int):Option (Int):=
 (Gc (IntKind.wrap .u64 length)).bind fun r2=>if (decide (0≤r2)) then (some (IntKind.wrap .u64 (1*2^(min (Int.toNat r2) 64)))) else none
def Hk (h0_0:Int):Option (Int):=
 some (gK .u64 (gK .u64 (gK .u64 h0_0 (IntKind.wrap .u64 (h0_0*2^(min (Int.toNat 13) 64)))) (Int.fdiv (gK .u64 h0_0 (IntKind.wrap .u64 (h0_0*2^(min (Int.toNat 13) 64)))) (2^(min (Int.toNat 7) 64)))) (IntKind.wrap .u64 ((gK .u64 (gK .u64 h0_0 (IntKind.wrap .u64 (h0_0*2^(min (Int.toNat 13) 64)))) (Int.fdiv (gK .u64 h0_0 (IntKind.wrap .u64 (h0_0*2^(min (Int.toNat 13) 64)))) (2^(min (Int.toNat 7) 64))))*2^(min (Int.toNat 17) 64))))
def sS {α:Type} (br:Br α) (a:Int):Int×(List α)→Option (Int×(List α) ⊕ (List α)):=fun a0 =>
 (if (decide (a0.1>a)) then ((idx a0.2 a0.1).bind fun a4=>(idx a0.2 (aI a0.1 1)).bind fun a5=>br _ a4 a5 fun a3=>some a3) else (some false)).bind fun a2=>if a2 then ((idx a0.2 (aI a0.1 1)).bind fun a1=>(idx a0.2 a0.1).bind fun a6=>(idx a0.2 a0.1).bind fun a7=>(idx (List.set a0.2 (Int.toNat a0.1) a1) (aI a0.1 1)).bind fun a8=>some (.inl ((aI a0.1 1),(List.set (List.set a0.2 (Int.toNat a0.1) a1) (Int.toNat (aI a0.1 1)) a6)))) else (some (.inr a0.2))
def wV {α:Type} (br:Br α) (a:Int) (b:Int):Int×(List α)→Option (Int×(List α) ⊕ (List α)):=fun a0 =>
 if (decide (a0.1<b)) then ((aM (sS br a) (a0.1,a0.2)).bind fun a1=>some (.inl ((aJ a0.1 1),a1))) else (some (.inr a0.2))
def Bb {α:Type} (br:Br α) (a:Int) (b:Int) (h0:(List α)):Option ((List α)):=
 (aM (wV br a b) ((aJ a 1),h0)).bind fun a0=>some a0
def vN {α:Type} (br:Br α) (first:Int) (a0:Int×(List α)):Int→Option (Int×(List α) ⊕ ((List α) ⊕ (List α))):=fun a1 =>
 (idx a0.2 (aJ first a0.1)).bind fun a4=>(idx a0.2 (aJ first a1)).bind fun a5=>br _ a4 a5 fun a3=>if (!a3) then (some (.inr (.inr a0.2))) else ((idx a0.2 (aJ first a1)).bind fun a2=>(idx a0.2 (aJ first a0.1)).bind fun a6=>(idx a0.2 (aJ first a0.1)).bind fun a7=>(idx (List.set a0.2 (Int.toNat (aJ first a0.1)) a2) (aJ first a1)).bind fun a8=>some (.inl (a1,(List.set (List.set a0.2 (Int.toNat (aJ first a0.1)) a2) (Int.toNat (aJ first a1)) a6))))
def Eg {α:Type} (br:Br α) (hi:Int) (first:Int):Int×(List α)→Option (Int×(List α) ⊕ ((List α) ⊕ (List α))):=fun a0 =>
 if (decide ((aJ (eS 2 a0.1) 1) ≥ hi)) then (some (.inr (.inl a0.2))) else ((if (decide ((aJ (aJ (eS 2 a0.1) 1) 1)<hi)) then ((idx a0.2 (aJ first (aJ (eS 2 a0.1) 1))).bind fun a3=>(idx a0.2 (aJ (aJ first (aJ (eS 2 a0.1) 1)) 1)).bind fun a4=>br _ a3 a4 fun a2=>some a2) else (some false)).bind fun a1=>if a1 then (vN br first a0 (aJ (aJ (eS 2 a0.1) 1) 1)) else (vN br first a0 (aJ (eS 2 a0.1) 1)))
def Ci {α:Type} (br:Br α) (lo:Int) (hi:Int) (first:Int) (h0:(List α)):Option ((List α)):=
 (aM (Eg br hi first) (lo,h0)).bind fun a2=>match a2 with | .inl a0=>some a0 | .inr a1=>some a1
def Ee {α:Type} (br:Br α) (a:Int) (b:Int):Int×(List α)→Option (Int×(List α) ⊕ (List α)):=fun a0 =>
 if (decide (a0.1 ≥ 0)) then ((Ci br a0.1 (aI b a) a a0.2).bind fun a1=>some (.inl ((aI a0.1 1),a1))) else (some (.inr a0.2))
def Ef {α:Type} (br:Br α) (a:Int):Int×(List α)→Option (Int×(List α) ⊕ (List α)):=fun a0 =>
 if (decide (a0.1 ≥ 0)) then ((idx a0.2 (aJ a a0.1)).bind fun a1=>(idx a0.2 a).bind fun a3=>(idx a0.2 a).bind fun a4=>(idx (List.set a0.2 (Int.toNat a) a1) (aJ a a0.1)).bind fun a5=>(Ci br 0 a0.1 a (List.set (List.set a0.2 (Int.toNat a) a1) (Int.toNat (aJ a a0.1)) a3)).bind fun a2=>some (.inl ((aI a0.1 1),a2))) else (some (.inr a0.2))
def Js {α:Type} (br:Br α) (a:Int) (b:Int) (h0:(List α)):Option ((List α)):=
 (aM (Ee br a b) ((pH (aI (aI b a) 1) 2),h0)).bind fun a1=>(aM (Ef br a) ((aI (aI b a) 1),a1)).bind fun a0=>some a0
def sR {α:Type} (br:Br α) (a:Int) (a0:Int×Int×(List α)):Int→Option (Int×Int×(List α) ⊕ (List α)):=fun a1 =>
 (idx a0.2.2 (aJ a a1)).bind fun a2=>(idx a0.2.2 a0.1).bind fun a3=>(idx a0.2.2 a0.1).bind fun a4=>(idx (List.set a0.2.2 (Int.toNat a0.1) a2) (aJ a a1)).bind fun a5=>some (.inl ((aJ a0.1 1),(gK .u64 (gK .u64 (gK .u64 a0.2.1 (IntKind.wrap .u64 (a0.2.1*2^(min (Int.toNat 13) 64)))) (Int.fdiv (gK .u64 a0.2.1 (IntKind.wrap .u64 (a0.2.1*2^(min (Int.toNat 13) 64)))) (2^(min (Int.toNat 7) 64)))) (IntKind.wrap .u64 ((gK .u64 (gK .u64 a0.2.1 (IntKind.wrap .u64 (a0.2.1*2^(min (Int.toNat 13) 64)))) (Int.fdiv (gK .u64 a0.2.1 (IntKind.wrap .u64 (a0.2.1*2^(min (Int.toNat 13) 64)))) (2^(min (Int.toNat 7) 64))))*2^(min (Int.toNat 17) 64)))),(List.set (List.set a0.2.2 (Int.toNat a0.1) a2) (Int.toNat (aJ a a1)) a3)))
def wU {α:Type} (br:Br α) (a:Int) (b:Int) (r2:Int):Int×Int×(List α)→Option (Int×Int×(List α) ⊕ (List α)):=fun a0 =>
 if (decide (a0.1≤(aJ (aJ a (eS (pH (aI b a) 4) 2)) 1))) then ((Hk a0.2.1).bind fun a1=>if (decide ((IntKind.wrap .i64 (Ik .u64 a1 (IntKind.wrap .u64 (r2-1)))) ≥ (aI b a))) then (sR br a a0 (aI (IntKind.wrap .i64 (Ik .u64 a1 (IntKind.wrap .u64 (r2-1)))) (aI b a))) else (sR br a a0 (IntKind.wrap .i64 (Ik .u64 a1 (IntKind.wrap .u64 (r2-1)))))) else (some (.inr a0.2.2))
def Ba {α:Type} (br:Br α) (a:Int) (b:Int) (h0:(List α)):Option ((List α)):=
 if (decide ((aI b a) ≥ 8)) then ((Ab (aI b a)).bind fun r2=>(aM (wU br a b r2) ((aI (aJ a (eS (pH (aI b a) 4) 2)) 1),(IntKind.wrap .u64 (aI b a)),h0)).bind fun a0=>some a0) else (some h0)
def Hj {α:Type} (br:Br α) (data:(List α)) (a:Int) (b:Int) (h0_0:Int):Option (Int×Int×Int):=
 (idx data b).bind fun a1=>(idx data a).bind fun a2=>br _ a1 a2 fun a0=>if a0 then (some (b,a,(aJ h0_0 1))) else (some (a,b,h0_0))
def Kl {α:Type} (br:Br α) (data:(List α)) (a:Int) (b:Int) (c:Int) (h0_0:Int):Option (Int×Int):=
 (Hj br data a b h0_0).bind fun r2=>(Hj br data r2.2.1 c r2.2.2).bind fun r4=>(Hj br data r2.1 r4.1 r4.2.2).bind fun r6=>some (r6.2.1,r6.2.2)
def rI {α:Type} (br:Br α) (data:(List α)) (a:Int) (h0_0:Int):Option (Int×Int):=
 (Kl br data (aI a 1) a (aJ a 1) h0_0).bind fun r2=>some (r2.1,r2.2)
def uW {α:Type} (br:Br α):(Int×Int)→Option (Int×Int):=fun a0 =>
 if (a0.2==0) then (some (a0.1,1)) else (if (a0.2==12) then (some (a0.1,2)) else (some (a0.1,0)))
def uX {α:Type} (br:Br α) (data:(List α)):(Int×Int×Int×Int)→Option (Int×Int):=fun a0 =>
 (Kl br data a0.1 a0.2.1 a0.2.2.1 a0.2.2.2).bind fun a1=>uW br (a1.1,a1.2)
def Ed {α:Type} (br:Br α) (data:(List α)) (a:Int) (b:Int):Option (Int×Int):=
 if (decide ((aI b a) ≥ 8)) then (if (decide ((aI b a) ≥ 50)) then ((rI br data (aJ a (eS (pH (aI b a) 4) 1)) 0).bind fun a0=>(rI br data (aJ a (eS (pH (aI b a) 4) 2)) a0.2).bind fun a1=>(rI br data (aJ a (eS (pH (aI b a) 4) 3)) a1.2).bind fun a2=>uX br data (a0.1,a1.1,a2.1,a2.2)) else (uX br data ((aJ a (eS (pH (aI b a) 4) 1)),(aJ a (eS (pH (aI b a) 4) 2)),(aJ a (eS (pH (aI b a) 4) 3)),0))) else (uW br ((aJ a (eS (pH (aI b a) 4) 2)),0))
def yP {α:Type} (br:Br α):Int×Int×(List α)→Option (Int×Int×(List α) ⊕ (List α)):=fun a0 =>
 if (decide (a0.1<a0.2.1)) then ((idx a0.2.2 a0.2.1).bind fun a1=>(idx a0.2.2 a0.1).bind fun a2=>(idx a0.2.2 a0.1).bind fun a3=>(idx (List.set a0.2.2 (Int.toNat a0.1) a1) a0.2.1).bind fun a4=>some (.inl ((aJ a0.1 1),(aI a0.2.1 1),(List.set (List.set a0.2.2 (Int.toNat a0.1) a1) (Int.toNat a0.2.1) a2)))) else (some (.inr a0.2.2))
def Ct {α:Type} (br:Br α) (a:Int) (b:Int) (h0:(List α)):Option ((List α)):=
 (aM (yP br) (a,(aI b 1),h0)).bind fun a0=>some a0
def pY {α:Type} (br:Br α) (a1:Int×Int×(List α)):Int×(List α)→Option (Int×Int×(List α) ⊕ (Bool×(List α) ⊕ (List α))):=fun a0 =>
 some (.inl (a0.1,(aJ a1.2.1 1),a0.2))
def kS {α:Type} (br:Br α) (b:Int) (a1:Int×Int×(List α)):Int→Option (Int ⊕ Int):=fun a0 =>
 (if (decide (a0<b)) then ((idx a1.2.2 a0).bind fun a4=>(idx a1.2.2 (aI a0 1)).bind fun a5=>br _ a4 a5 fun a3=>some (!a3)) else (some false)).bind fun a2=>if a2 then (some (.inl (aJ a0 1))) else (some (.inr a0))
def kT {α:Type} (br:Br α) (b:Int):Int×(List α)→Option (Int×(List α) ⊕ (List α)):=fun a0 =>
 if (decide (a0.1<b)) then ((idx a0.2 a0.1).bind fun a3=>(idx a0.2 (aI a0.1 1)).bind fun a4=>br _ a3 a4 fun a2=>if (!a2) then (some (.inr a0.2)) else ((idx a0.2 (aI a0.1 1)).bind fun a1=>(idx a0.2 a0.1).bind fun a5=>(idx a0.2 a0.1).bind fun a6=>(idx (List.set a0.2 (Int.toNat a0.1) a1) (aI a0.1 1)).bind fun a7=>some (.inl ((aJ a0.1 1),(List.set (List.set a0.2 (Int.toNat a0.1) a1) (Int.toNat (aI a0.1 1)) a5))))) else (some (.inr a0.2))
def kR {α:Type} (br:Br α) (b:Int) (a2:Int×Int×(List α)) (a0:Int):(List α)→Option (Int×Int×(List α) ⊕ (Bool×(List α) ⊕ (List α))):=fun a1 =>
 if (decide ((aI b a0) ≥ 2)) then ((aM (kT br b) ((aJ a0 1),a1)).bind fun a3=>pY br a2 (a0,a3)) else (pY br a2 (a0,a1))
def kU {α:Type} (br:Br α):Int×(List α)→Option (Int×(List α) ⊕ (List α)):=fun a0 =>
 if (decide (a0.1 ≥ 1)) then ((idx a0.2 a0.1).bind fun a3=>(idx a0.2 (aI a0.1 1)).bind fun a4=>br _ a3 a4 fun a2=>if (!a2) then (some (.inr a0.2)) else ((idx a0.2 (aI a0.1 1)).bind fun a1=>(idx a0.2 a0.1).bind fun a5=>(idx a0.2 a0.1).bind fun a6=>(idx (List.set a0.2 (Int.toNat a0.1) a1) (aI a0.1 1)).bind fun a7=>some (.inl ((aI a0.1 1),(List.set (List.set a0.2 (Int.toNat a0.1) a1) (Int.toNat (aI a0.1 1)) a5))))) else (some (.inr a0.2))
def pZ {α:Type} (br:Br α) (a:Int) (b:Int):Int×Int×(List α)→Option (Int×Int×(List α) ⊕ (Bool×(List α) ⊕ (List α))):=fun a0 =>
 if (decide (a0.2.1<5)) then ((aM (kS br b a0) a0.1).bind fun a1=>if (a1==b) then (some (.inr (.inl (true,a0.2.2)))) else (if (decide ((aI b a)<50)) then (some (.inr (.inl (false,a0.2.2)))) else ((idx a0.2.2 (aI a1 1)).bind fun a2=>(idx a0.2.2 a1).bind fun a3=>(idx a0.2.2 a1).bind fun a5=>(idx (List.set a0.2.2 (Int.toNat a1) a2) (aI a1 1)).bind fun a6=>if (decide ((aI a1 a) ≥ 2)) then ((aM (kU br) ((aI a1 1),(List.set (List.set a0.2.2 (Int.toNat a1) a2) (Int.toNat (aI a1 1)) a3))).bind fun a4=>kR br b a0 a1 a4) else (kR br b a0 a1 (List.set (List.set a0.2.2 (Int.toNat a1) a2) (Int.toNat (aI a1 1)) a3))))) else (some (.inr (.inr a0.2.2)))
def tC {α:Type} (br:Br α) (a:Int) (b:Int) (h0:(List α)):Option (Bool×(List α)):=
 (aM (pZ br a b) ((aJ a 1),0,h0)).bind fun a2=>match a2 with | .inl a0=>some (a0.1,a0.2) | .inr a1=>some (false,a1)
def rJ {α:Type} (br:Br α) (a:Int) (a1:Int×Int×(List α)):Int→Option (Int ⊕ Int):=fun a0 =>
 (if (decide (a0≤a1.2.1)) then ((idx a1.2.2 a).bind fun a4=>(idx a1.2.2 a0).bind fun a5=>br _ a4 a5 fun a3=>some (!a3)) else (some false)).bind fun a2=>if a2 then (some (.inl (aJ a0 1))) else (some (.inr a0))
def rK {α:Type} (br:Br α) (a:Int) (a1:Int×Int×(List α)) (a4:Int):Int→Option (Int ⊕ Int):=fun a0 =>
 (if (decide (a4≤a0)) then ((idx a1.2.2 a).bind fun a5=>(idx a1.2.2 a0).bind fun a6=>br _ a5 a6 fun a3=>some a3) else (some false)).bind fun a2=>if a2 then (some (.inl (aI a0 1))) else (some (.inr a0))
def vM {α:Type} (br:Br α) (a:Int):Int×Int×(List α)→Option (Int×Int×(List α) ⊕ Int×(List α)):=fun a0 =>
 (aM (rJ br a a0) a0.1).bind fun a1=>(aM (rK br a a0 a1) a0.2.1).bind fun a2=>if (decide (a1>a2)) then (some (.inr (a1,a0.2.2))) else ((idx a0.2.2 a2).bind fun a3=>(idx a0.2.2 a1).bind fun a4=>(idx a0.2.2 a1).bind fun a5=>(idx (List.set a0.2.2 (Int.toNat a1) a3) a2).bind fun a6=>some (.inl ((aJ a1 1),(aI a2 1),(List.set (List.set a0.2.2 (Int.toNat a1) a3) (Int.toNat a2) a4))))
def Ac {α:Type} (br:Br α) (a:Int) (b:Int) (pivot:Int) (h0:(List α)):Option (Int×(List α)):=
 (idx h0 pivot).bind fun x9=>(idx h0 a).bind fun a1=>(idx h0 a).bind fun a2=>(idx (List.set h0 (Int.toNat a) x9) pivot).bind fun a3=>(aM (vM br a) ((aJ a 1),(aI b 1),(List.set (List.set h0 (Int.toNat a) x9) (Int.toNat pivot) a1))).bind fun a0=>some (a0.1,a0.2)
def yH {α:Type} (br:Br α) (a:Int) (b:Int) (pivot:Int) (h0:(List α)) (x9:α) (a5:α):Int→Option (Int ⊕ Int):=fun a0 =>
 (if (decide (a0≤(aI b 1))) then ((idx (List.set (List.set h0 (Int.toNat a) x9) (Int.toNat pivot) a5) a0).bind fun a3=>(idx (List.set (List.set h0 (Int.toNat a) x9) (Int.toNat pivot) a5) a).bind fun a4=>br _ a3 a4 fun a2=>some a2) else (some false)).bind fun a1=>if a1 then (some (.inl (aJ a0 1))) else (some (.inr a0))
def yI {α:Type} (br:Br α) (a:Int) (pivot:Int) (h0:(List α)) (x9:α) (a6:α) (a3:Int):Int→Option (Int ⊕ Int):=fun a0 =>
 (if (decide (a3≤a0)) then ((idx (List.set (List.set h0 (Int.toNat a) x9) (Int.toNat pivot) a6) a0).bind fun a4=>(idx (List.set (List.set h0 (Int.toNat a) x9) (Int.toNat pivot) a6) a).bind fun a5=>br _ a4 a5 fun a2=>some (!a2)) else (some false)).bind fun a1=>if a1 then (some (.inl (aI a0 1))) else (some (.inr a0))
def yJ {α:Type} (br:Br α) (a:Int) (a1:Int×Int×(List α)):Int→Option (Int ⊕ Int):=fun a0 =>
 (if (decide (a0≤a1.2.1)) then ((idx a1.2.2 a0).bind fun a4=>(idx a1.2.2 a).bind fun a5=>br _ a4 a5 fun a3=>some a3) else (some false)).bind fun a2=>if a2 then (some (.inl (aJ a0 1))) else (some (.inr a0))
def yL {α:Type} (br:Br α) (a:Int) (a1:Int×Int×(List α)) (a4:Int):Int→Option (Int ⊕ Int):=fun a0 =>
 (if (decide (a4≤a0)) then ((idx a1.2.2 a0).bind fun a5=>(idx a1.2.2 a).bind fun a6=>br _ a5 a6 fun a3=>some (!a3)) else (some false)).bind fun a2=>if a2 then (some (.inl (aI a0 1))) else (some (.inr a0))
def yM {α:Type} (br:Br α) (a:Int):Int×Int×(List α)→Option (Int×Int×(List α) ⊕ Int×(List α)):=fun a0 =>
 (aM (yJ br a a0) a0.1).bind fun a1=>(aM (yL br a a0 a1) a0.2.1).bind fun a2=>if (decide (a1>a2)) then (some (.inr (a2,a0.2.2))) else ((idx a0.2.2 a2).bind fun a3=>(idx a0.2.2 a1).bind fun a4=>(idx a0.2.2 a1).bind fun a5=>(idx (List.set a0.2.2 (Int.toNat a1) a3) a2).bind fun a6=>some (.inl ((aJ a1 1),(aI a2 1),(List.set (List.set a0.2.2 (Int.toNat a1) a3) (Int.toNat a2) a4))))
def Dc {α:Type} (br:Br α) (a:Int) (b:Int) (pivot:Int) (h0:(List α)):Option (Int×Bool×(List α)):=
 (idx h0 pivot).bind fun x9=>(idx h0 a).bind fun a3=>(idx h0 a).bind fun b6=>(idx (List.set h0 (Int.toNat a) x9) pivot).bind fun b7=>(aM (yH br a b pivot h0 x9 a3) (aJ a 1)).bind fun a2=>(aM (yI br a pivot h0 x9 a3 a2) (aI b 1)).bind fun a1=>if (decide (a2>a1)) then ((idx (List.set (List.set h0 (Int.toNat a) x9) (Int.toNat pivot) a3) a).bind fun a6=>(idx (List.set (List.set h0 (Int.toNat a) x9) (Int.toNat pivot) a3) a1).bind fun a8=>(idx (List.set (List.set h0 (Int.toNat a) x9) (Int.toNat pivot) a3) a1).bind fun b2=>(idx (List.set (List.set (List.set h0 (Int.toNat a) x9) (Int.toNat pivot) a3) (Int.toNat a1) a6) a).bind fun b3=>some (a1,true,(List.set (List.set (List.set (List.set h0 (Int.toNat a) x9) (Int.toNat pivot) a3) (Int.toNat a1) a6) (Int.toNat a) a8))) else ((idx (List.set (List.set h0 (Int.toNat a) x9) (Int.toNat pivot) a3) a1).bind fun a7=>(idx (List.set (List.set h0 (Int.toNat a) x9) (Int.toNat pivot) a3) a2).bind fun a9=>(idx (List.set (List.set h0 (Int.toNat a) x9) (Int.toNat pivot) a3) a2).bind fun b4=>(idx (List.set (List.set (List.set h0 (Int.toNat a) x9) (Int.toNat pivot) a3) (Int.toNat a2) a7) a1).bind fun b5=>(aM (yM br a) ((aJ a2 1),(aI a1 1),(List.set (List.set (List.set (List.set h0 (Int.toNat a) x9) (Int.toNat pivot) a3) (Int.toNat a2) a7) (Int.toNat a1) a9))).bind fun a0=>(idx a0.2 a).bind fun a4=>(idx a0.2 a0.1).bind fun a5=>(idx a0.2 a0.1).bind fun b0=>(idx (List.set a0.2 (Int.toNat a0.1) a4) a).bind fun b1=>some (a0.1,false,(List.set (List.set a0.2 (Int.toNat a0.1) a4) (Int.toNat a) a5)))
def xF {α:Type} (br:Br α) (self:Int→Int→Int→(List α)→Option ((List α))) (a1:Int×Int×Int×Bool×Bool×(List α)) (a3:Int×(List α)) (a4:Int×Int×(List α)):Bool×Bool×(List α)→Option (Int×Int×Int×Bool×Bool×(List α) ⊕ (List α)):=fun a2 =>
 (if (decide (a1.1>0)) then ((idx a2.2.2 (aI a1.1 1)).bind fun b0=>(idx a2.2.2 a4.1).bind fun b1=>br _ b0 b1 fun a7=>some (!a7)) else (some false)).bind fun a6=>if a6 then ((Ac br a1.1 a1.2.1 a4.1 a2.2.2).bind fun a5=>some (.inl (a5.1,a1.2.1,a3.1,a2.1,a2.2.1,a5.2))) else ((Dc br a1.1 a1.2.1 a4.1 a2.2.2).bind fun a0=>if (decide ((aI a0.1 a1.1)<(aI a1.2.1 a0.1))) then ((self a1.1 a0.1 a3.1 a0.2.2).bind fun a8=>some (.inl ((aJ a0.1 1),a1.2.1,a3.1,(decide ((aI a0.1 a1.1) ≥ (pH (aI a1.2.1 a1.1) 8))),a0.2.1,a8))) else ((self (aJ a0.1 1) a1.2.1 a3.1 a0.2.2).bind fun a9=>some (.inl (a1.1,a0.1,a3.1,(decide ((aI a1.2.1 a0.1) ≥ (pH (aI a1.2.1 a1.1) 8))),a0.2.1,a9))))
def xG {α:Type} (br:Br α) (self:Int→Int→Int→(List α)→Option ((List α))) (a3:Int×Int×Int×Bool×Bool×(List α)) (a4:Int×(List α)):Int×Int×(List α)→Option (Int×Int×Int×Bool×Bool×(List α) ⊕ (List α)):=fun a0 =>
 (if a3.2.2.2.1 then (if a3.2.2.2.2.1 then (some (true,true,(a0.2.1==1))) else (some (true,false,false))) else (some (false,a3.2.2.2.2.1,false))).bind fun a1=>if a1.2.2 then ((tC br a3.1 a3.2.1 a0.2.2).bind fun a2=>if a2.1 then (some (.inr a2.2)) else (xF br self a3 a4 a0 (a1.1,a1.2.1,a2.2))) else (xF br self a3 a4 a0 (a1.1,a1.2.1,a0.2.2))
def xH {α:Type} (br:Br α) (self:Int→Int→Int→(List α)→Option ((List α))) (a2:Int×Int×Int×Bool×Bool×(List α)):Int×(List α)→Option (Int×Int×Int×Bool×Bool×(List α) ⊕ (List α)):=fun a0 =>
 (Ed br a0.2 a2.1 a2.2.1).bind fun a1=>if (a1.2==2) then ((Ct br a2.1 a2.2.1 a0.2).bind fun a3=>xG br self a2 a0 ((aI (aI a2.2.1 1) (aI a1.1 a2.1)),1,a3)) else (xG br self a2 a0 (a1.1,a1.2,a0.2))
def By {α:Type} (br:Br α) (self:Int→Int→Int→(List α)→Option ((List α))):Int×Int×Int×Bool×Bool×(List α)→Option (Int×Int×Int×Bool×Bool×(List α) ⊕ (List α)):=fun a0 =>
 if (decide ((aI a0.2.1 a0.1)≤12)) then ((Bb br a0.1 a0.2.1 a0.2.2.2.2.2).bind fun a1=>some (.inr a1)) else (if (a0.2.2.1==0) then ((Js br a0.1 a0.2.1 a0.2.2.2.2.2).bind fun a2=>some (.inr a2)) else (if (!a0.2.2.2.1) then ((Ba br a0.1 a0.2.1 a0.2.2.2.2.2).bind fun a3=>xH br self a0 ((aI a0.2.2.1 1),a3)) else (xH br self a0 (a0.2.2.1,a0.2.2.2.2.2))))
def uC {α:Type} (br:Br α) (self:Int→Int→Int→(List α)→Option ((List α))) (a:Int) (b:Int) (limit:Int) (h0:(List α)):Option ((List α)):=
 (aM (By br self) (a,b,limit,true,true,h0)).bind fun a0=>some a0
def rL {α:Type} (br:Br α):Nat→Int→Int→Int→(List α)→Option ((List α))
 | 0=>fun _ _ _ _=>none
 | n+1=>uC br (rL br n)
def Rt {α:Type} (br:Br α) (a:Int) (b:Int) (limit:Int) (h0:(List α)):Option ((List α)):=rL br 1000 a b limit h0
def Gb {α:Type} (br:Br α) (h0:(List α)):Option ((List α)):=
 (Gc (IntKind.wrap .u64 (h0.length:Int))).bind fun r3=>(Rt br 0 (h0.length:Int) r3 h0).bind fun r4=>some r4
structure Gf {α:Type} (P:α→Prop) (d:α) (l:List α):Prop where
 len:(l.length:Int)≤1073741824
 all:∀ k:Int,0≤k→k<l.length→P (gz d l k)
theorem Gf.on {α:Type} {P:α→Prop} {d:α} {a b:Int} {l l':List α} (h:Gf P d l) (ho:On d a b l l'):Gf P d l':=by
 induction ho with
 | refl=>exact h
 | step ho i j hi hi' hj hj' ha hb ih =>
   refine ⟨by rw [Sz];exact ih.len,fun k h1 h2=>?_⟩
   rw [Sz] at h2
   rw [rM d (by omega) (by omega) h1 (by omega) (by omega)]
   split
   ·exact ih.all _ (by omega) (by omega)
   ·split
    ·exact ih.all _ (by omega) (by omega)
    ·exact ih.all _ h1 h2
section
variable {α:Type} {br:Br α} {lt:α→α→Bool} {P:α→Prop} {d:α} (hbr:∀ (β:Type) (x y:α) (k:Bool→Option β),P x→P y→br β x y k=k (lt x y)) (w:Ob lt)
include hbr w
theorem CX {a i:Int} {l0:List α} (ha:0≤a) (hi:a<i) (hil:i<l0.length) (hf0:Gf P d l0) (h0:Asc d lt a i l0) :
  ∃ l',aM (sS br a) (i,l0)=some l'∧On d a (i+1) l0 l'∧Asc d lt a (i+1) l':=by
 refine nD (fun s=>(s.1-a).toNat) (fun s=>a≤s.1∧s.1≤i∧On d a (i+1) l0 s.2∧∀ p q:Int,a≤p→p<q→q≤i→q≠s.1→lt (gz d s.2 q) (gz d s.2 p)=false)
  (fun l'=>On d a (i+1) l0 l'∧Asc d lt a (i+1) l') (sS br a) ?_ (i,l0) ⟨by omega,Int.le_refl _,.refl _,fun p q h1 h2 h3 h4=>h0 p q h1 h2 (by simp only at h4;omega)⟩
 rintro ⟨j,l⟩ ⟨h1,h2,hon,hI⟩
 simp only at h1 h2 hon hI ⊢
 have hf:=hf0.on hon
 have hl:=hon.len
 have hL:=hf.len
 unfold sS
 by_cases hja:j>a
 ·cases hc:lt (gz d l j) (gz d l (j-1)) with
  | true =>
    left
    refine ⟨(j-1,sw d l j (j-1)), ?_,⟨by simp only;omega,by simp only;omega,.step hon j (j-1) (by omega) (by omega) (by omega) (by omega) ha (by omega), ?_⟩,by simp only;omega⟩
    ·simp (disch:=first | omega | (simp only [List.length_set];omega) | (refine hf.all _ ?_ ?_ <;> omega)) only [hja,decide_true,if_true,bF,jF d,Option.bind_some,hbr,hc]
     rfl
    ·simp only
     intro p q p1 p2 p3 p4
     rw [rM d (by omega) (by omega) (by omega) (by omega) (by omega),rM d (by omega) (by omega) (by omega) (by omega) (by omega)]
     rw [if_neg p4]
     by_cases e1:q=j
     ·rw [if_pos e1]
      by_cases e2:p=j-1
      ·rw [if_pos e2];exact w.asymm _ _ hc
      ·rw [if_neg e2,if_neg (by omega)]
       exact hI p (j-1) (by omega) (by omega) (by omega) (by omega)
     ·rw [if_neg e1]
      by_cases e2:p=j-1
      ·rw [if_pos e2];exact hI j q (by omega) (by omega) p3 e1
      ·rw [if_neg e2]
       by_cases e3:p=j
       ·rw [if_pos e3];exact hI (j-1) q (by omega) (by omega) p3 e1
       ·rw [if_neg e3];exact hI p q p1 p2 p3 e1
  | false =>
    right
    refine ⟨l, ?_,hon, ?_⟩
    ·simp (disch:=first | omega | (simp only [List.length_set];omega) | (refine hf.all _ ?_ ?_ <;> omega)) only [hja,decide_true,if_true,bF,jF d,Option.bind_some,hbr,hc,Bool.false_eq_true,if_false]
    ·intro p q p1 p2 p3
     by_cases e1:q=j
     ·subst e1
      by_cases e2:p=q-1
      ·subst e2;exact hc
      ·exact w.le_trans (hI p (q-1) p1 (by omega) (by omega) (by omega)) hc
     ·exact hI p q p1 p2 (by omega) e1
 ·right
  refine ⟨l, ?_,hon, ?_⟩
  ·simp only [hja,decide_false,Bool.false_eq_true,if_false,Option.bind_some]
  ·intro p q p1 p2 p3
   exact hI p q p1 p2 (by omega) (by omega)
theorem Od {a b:Int} {l0:List α} (ha:0≤a) (hab:a≤b) (hb:b≤l0.length) (hf0:Gf P d l0) :
  ∃ l',Bb br a b l0=some l'∧On d a b l0 l'∧Asc d lt a b l':=by
 have hL:=hf0.len
 obtain ⟨l',h1,h2,h3⟩:=nD (fun s=>(b-s.1).toNat) (fun s=>a<s.1∧On d a b l0 s.2∧Asc d lt a (min s.1 b) s.2)
  (fun l'=>On d a b l0 l'∧Asc d lt a b l') (wV br a b) (by
   rintro ⟨i,l⟩ ⟨h1,hon,hI⟩
   simp only at h1 hon hI ⊢
   have hf:=hf0.on hon
   have hl:=hon.len
   unfold wV
   by_cases hib:i<b
   ·left
    obtain ⟨l',q1,q2,q3⟩:=CX hbr w ha h1 (by omega) hf (by rwa [Int.min_eq_left (by omega)] at hI)
    refine ⟨(i+1,l'), ?_,⟨by simp only;omega,hon.trans d (q2.mono d ha (Int.le_refl _) (by omega) (by omega)), ?_⟩,by simp only;omega⟩
    ·simp (disch:=omega) only [hib,decide_true,if_true,q1,Option.bind_some,aR]
    ·simp only
     rw [Int.min_eq_left (by omega)];exact q3
   ·right
    refine ⟨l, ?_,hon, ?_⟩
    ·simp only [hib,decide_false,Bool.false_eq_true,if_false]
    ·rwa [Int.min_eq_right (by omega)] at hI) (a+1,l0) ⟨by simp only;omega,.refl _,fun p q p1 p2 p3=>by simp only at p3;omega⟩
 refine ⟨l', ?_,h2,h3⟩
 unfold Bb
 simp (disch:=omega) only [aR,h1,Option.bind_some]
end
def Lb {α:Type} (d:α) (lt:α→α→Bool) (first lo hi:Int) (r:Int) (l:List α):Prop:=∀ p c:Int,lo≤p→p≠r→c<hi→(c=2*p+1∨c=2*p+2)→lt (gz d l (first+p)) (gz d l (first+c))=false
section
variable {α:Type} {br:Br α} {lt:α→α→Bool} {P:α→Prop} {d:α} (hbr:∀ (β:Type) (x y:α) (k:Bool→Option β),P x→P y→br β x y k=k (lt x y)) (w:Ob lt)
include w
theorem GF {first hi:Int} {l:List α} (h:Lb d lt first 0 hi (-1) l):∀ n:Nat,∀ c:Int,0≤c→c≤n→c<hi→lt (gz d l first) (gz d l (first+c))=false:=by
 intro n
 induction n with
 | zero => intro c h1 h2 h3;obtain rfl:c = 0 := by omega
           rw [Int.add_zero];exact w.irrefl _
 | succ n ih =>
   intro c h1 h2 h3
   by_cases e:c=0
   ·subst e;rw [Int.add_zero];exact w.irrefl _
   ·have e1:=ih ((c-1) / 2) (by omega) (by omega) (by omega)
    have e2:=h ((c-1) / 2) c (by omega) (by omega) h3 (by omega)
    exact w.le_trans e2 e1
include hbr
theorem Pn {first lo hi:Int} {l0:List α} (h1:0≤first) (h2:0≤lo) (h3:first+hi≤l0.length) (hf0:Gf P d l0) (h0:Lb d lt first lo hi lo l0) (hlo:lo≤l0.length) :
  ∃ l',Ci br lo hi first l0=some l'∧On d (first+lo) (first+hi) l0 l'∧Lb d lt first lo hi (-1) l':=by
 have hL:=hf0.len
 obtain ⟨r,q1,q2⟩:=nD (fun s:Int×List α=>(hi-s.1).toNat)
  (fun s:Int×List α=>lo≤s.1∧s.1≤(l0.length:Int)∧On d (first+lo) (first+hi) l0 s.2∧Lb d lt first lo hi s.1 s.2∧∀ p c:Int,lo≤p→(s.1=2*p+1∨s.1=2*p+2)→(c=2*s.1+1∨c=2*s.1+2)→c<hi→lt (gz d s.2 (first+p)) (gz d s.2 (first+c))=false)
  (fun r:List α ⊕ List α=>∃ l',(r=.inl l'∨r=.inr l')∧On d (first+lo) (first+hi) l0 l'∧Lb d lt first lo hi (-1) l') (Eg br hi first) (by
   rintro ⟨r,l⟩ ⟨i1,i2,hon,hI,hG⟩
   simp only at i1 i2 hon hI hG ⊢
   have hf:=hf0.on hon
   have hl:=hon.len
   unfold Eg
   have e1:aJ (eS 2 r) 1=2*r+1:=by rw [De (by omega) (by omega),aR (by omega) (by omega)]
   simp only [e1]
   by_cases hc:2*r+1 ≥ hi
   ·right
    refine ⟨.inl l,by simp only [hc,decide_true,if_true],l,.inl rfl,hon,fun p c p1 p2 p3 p4=>?_⟩
    by_cases e:p=r
    ·omega
    ·exact hI p c p1 e p3 p4
   ·-- the greater child
    have key:∀ ch:Int,(ch=2*r+1∨ch=2*r+2)→ch<hi→(∀ c:Int,(c=2*r+1∨c=2*r+2)→c<hi→lt (gz d l (first+ch)) (gz d l (first+c))=false) →
      (∃ s',vN br first (r,l) ch=some (.inl s')∧(lo≤s'.1∧s'.1≤l0.length∧On d (first+lo) (first+hi) l0 s'.2∧Lb d lt first lo hi s'.1 s'.2∧∀ p c:Int,lo≤p→(s'.1=2*p+1∨s'.1=2*p+2)→(c=2*s'.1+1∨c=2*s'.1+2)→c<hi→lt (gz d s'.2 (first+p)) (gz d s'.2 (first+c))=false)∧(hi-s'.1).toNat<(hi-r).toNat) ∨
      (∃ x,vN br first (r,l) ch=some (.inr x)∧∃ l',(x=.inl l'∨x=.inr l')∧On d (first+lo) (first+hi) l0 l'∧Lb d lt first lo hi (-1) l'):=by
     intro ch c1 c2 c3
     have a1:aJ first r=first+r:=aR (by omega) (by omega)
     have a2:aJ first ch=first+ch:=aR (by omega) (by omega)
     unfold vN
     cases hlt:lt (gz d l (first+r)) (gz d l (first+ch)) with
     | false =>
       right
       refine ⟨.inr l, ?_,l,.inr rfl,hon,fun p c p1 p2 p3 p4=>?_⟩
       ·simp (disch:=first | omega | (simp only [List.length_set];omega) | (refine hf.all _ ?_ ?_ <;> omega)) only [a1,a2,jF d,Option.bind_some,hbr,hlt,Bool.not_false,if_true]
       ·by_cases e:p=r
        ·subst e;exact w.le_trans (c3 c p4 p3) hlt
        ·exact hI p c p1 e p3 p4
     | true =>
       left
       refine ⟨(ch,sw d l (first+r) (first+ch)), ?_,⟨by simp only;omega,by simp only;omega,.step hon _ _ (by omega) (by omega) (by omega) (by omega) (by omega) (by omega), ?_, ?_⟩,by simp only;omega⟩
       ·simp (disch:=first | omega | (simp only [List.length_set];omega) | (refine hf.all _ ?_ ?_ <;> omega)) only [a1,a2,jF d,Option.bind_some,hbr,hlt,Bool.not_true,Bool.false_eq_true,if_false]
        rfl
       ·intro p c p1 p2 p3 p4
        simp only at p2 ⊢
        rw [rM d (by omega) (by omega) (by omega) (by omega) (by omega),rM d (by omega) (by omega) (by omega) (by omega) (by omega)]
        by_cases e1:p=r
        ·rw [if_neg (by omega),if_pos (by omega)]
         by_cases e2:c=ch
         ·rw [if_pos (by omega)];exact w.asymm _ _ hlt
         ·rw [if_neg (by omega),if_neg (by omega)];exact c3 c (by omega) p3
        ·rw [if_neg (by omega),if_neg (by omega)]
         by_cases e2:c=r
         ·rw [if_neg (by omega),if_pos (by omega)];exact hG p ch p1 (by omega) c1 c2
         ·rw [if_neg (by omega),if_neg (by omega)];exact hI p c p1 e1 p3 p4
       ·intro p c p1 p2 p3 p4
        simp only at p2 p3
        simp only
        obtain rfl:p=r:=by omega
        rw [rM d (by omega) (by omega) (by omega) (by omega) (by omega),rM d (by omega) (by omega) (by omega) (by omega) (by omega)]
        rw [if_neg (by omega),if_pos rfl,if_neg (by omega),if_neg (by omega)]
        exact hI ch c (by omega) (by omega) p4 p3
    have b1:aJ first (2*r+1)=first+(2*r+1):=aR (by omega) (by omega)
    have b2:aJ (first+(2*r+1)) 1=first+(2*r+2):=by rw [aR (by omega) (by omega)];omega
    have b3:aJ (2*r+1) 1=2*r+2:=by rw [aR (by omega) (by omega)];omega
    simp only [hc,decide_false,Bool.false_eq_true,if_false,b1,b2,b3]
    by_cases h2c:2*r+2<hi
    ·cases hcc:lt (gz d l (first+(2*r+1))) (gz d l (first+(2*r+2))) with
     | true =>
       simp (disch:=first | omega | (refine hf.all _ ?_ ?_ <;> omega)) only [h2c,decide_true,if_true,jF d,Option.bind_some,hbr,hcc]
       refine key (2*r+2) (.inr rfl) h2c fun c p1 p2=>?_
       rcases p1 with rfl | rfl
       ·exact w.asymm _ _ hcc
       ·exact w.irrefl _
     | false =>
       simp (disch:=first | omega | (refine hf.all _ ?_ ?_ <;> omega)) only [h2c,decide_true,if_true,jF d,Option.bind_some,hbr,hcc,Bool.false_eq_true,if_false]
       refine key (2*r+1) (.inl rfl) (by omega) fun c p1 p2=>?_
       rcases p1 with rfl | rfl
       ·exact w.irrefl _
       ·exact hcc
    ·simp only [h2c,decide_false,Bool.false_eq_true,if_false,Option.bind_some]
     refine key (2*r+1) (.inl rfl) (by omega) fun c p1 p2=>?_
     obtain rfl:c=2*r+1:=by omega
     exact w.irrefl _) (lo,l0) ⟨Int.le_refl _,hlo,.refl _,h0,fun p c p1 p2=>by simp only at p2;omega⟩
 obtain ⟨l',hr,q3,q4⟩:=q2
 refine ⟨l', ?_,q3,q4⟩
 unfold Ci
 rw [q1]
 rcases hr with rfl | rfl <;> rfl
theorem Wy {a b:Int} {l0:List α} (ha:0≤a) (hab:a≤b) (hb:b≤l0.length) (hf0:Gf P d l0) :
  ∃ l',Js br a b l0=some l'∧On d a b l0 l'∧Asc d lt a b l':=by
 have hL:=hf0.len
 have s1:aI b a=b-a:=bF (by omega) (by omega)
 have s2:aI (b-a) 1=b-a-1:=bF (by omega) (by omega)
 have ht:0≤(b-a-1).tdiv 2∧(b-a-1).tdiv 2≤b-a∧b-a-1<2*(b-a-1).tdiv 2+2:=by
  by_cases h:0≤b-a-1
  ·rw [Int.tdiv_eq_ediv_of_nonneg h];omega
  ·rw [show b-a-1=-1 from by omega,show Int.tdiv (-1) 2=0 from rfl];omega
 have s3:pH (b-a-1) 2=(b-a-1).tdiv 2:=Jf _ (by omega) (by omega)
 obtain ⟨l1,q1,q2,q3⟩:=nD (fun s:Int×List α=>(s.1+1).toNat) (fun s:Int×List α=>-1≤s.1∧s.1≤b-a∧On d a b l0 s.2∧Lb d lt a (s.1+1) (b-a) (-1) s.2)
  (fun l'=>On d a b l0 l'∧Lb d lt a 0 (b-a) (-1) l') (Ee br a b) (by
   rintro ⟨i,l⟩ ⟨i1,i2,hon,hI⟩
   simp only at i1 i2 hon hI ⊢
   have hf:=hf0.on hon
   have hl:=hon.len
   unfold Ee
   by_cases hi:i ≥ 0
   ·left
    obtain ⟨l',p1,p2,p3⟩:=Pn hbr w (first:=a) (lo:=i) (hi:=b-a) ha hi (by omega) hf (fun p c c1 c2 c3 c4=>hI p c (by omega) (by omega) c3 c4) (by omega)
    refine ⟨(i-1,l'), ?_,⟨by simp only;omega,by simp only;omega,hon.trans d (p2.mono d ha (by omega) (by omega) (by omega)), ?_⟩,by simp only;omega⟩
    ·simp (disch:=omega) only [hi,decide_true,if_true,s1,p1,Option.bind_some,bF]
    ·simp only
     rw [show i-1+1=i from by omega];exact p3
   ·right
    refine ⟨l,by simp only [hi,decide_false,Bool.false_eq_true,if_false],hon, ?_⟩
    rwa [show i+1=0 from by omega] at hI) ((b-a-1).tdiv 2,l0) ⟨by simp only;omega,by simp only;omega,.refl _,fun p c p1 p2 p3 p4=>by simp only at p1;omega⟩
 have hl1:=q2.len
 obtain ⟨l2,r1,r2,r3⟩:=nD (fun s:Int×List α=>(s.1+1).toNat)
  (fun s:Int×List α=>-1≤s.1∧s.1<b-a∧On d a b l0 s.2∧Lb d lt a 0 (s.1+1) (-1) s.2∧∀ q:Int,s.1<q→q<b-a→∀ p:Int,0≤p→p<q→lt (gz d s.2 (a+q)) (gz d s.2 (a+p))=false)
  (fun l'=>On d a b l0 l'∧Asc d lt a b l') (Ef br a) (by
   rintro ⟨i,l⟩ ⟨i1,i2,hon,hH,hI⟩
   simp only at i1 i2 hon hH hI ⊢
   have hf:=hf0.on hon
   have hl:=hon.len
   unfold Ef
   by_cases hi:i ≥ 0
   ·left
    have hmax:=fun c h1 h2=>GF w hH i.toNat c h1 (by omega) h2
    have hsw:On d a (a+i+1) l (sw d l a (a+i)):=.step (.refl _) _ _ (Int.le_refl _) (by omega) (by omega) (by omega) ha (by omega)
    have hsl:(sw d l a (a+i)).length=l.length:=Sz ..
    obtain ⟨l',p1,p2,p3⟩:=Pn hbr w (first:=a) (lo:=0) (hi:=i) (l0:=sw d l a (a+i)) ha (Int.le_refl _) (by omega) (hf.on hsw) (fun p c c1 c2 c3 c4=>by
     rw [rM d (by omega) (by omega) (by omega) (by omega) (by omega),rM d (by omega) (by omega) (by omega) (by omega) (by omega)]
     rw [if_neg (by omega),if_neg (by omega),if_neg (by omega),if_neg (by omega)]
     exact hH p c c1 (by omega) (by omega) c4) (by omega)
    have hall:On d a (a+i+1) l l':=hsw.trans d (p2.mono d ha (by omega) (by omega) (by omega))
    have a1:aJ a i=a+i:=aR (by omega) (by omega)
    refine ⟨(i-1,l'), ?_,⟨by simp only;omega,by simp only;omega,hon.trans d (hall.mono d ha (Int.le_refl _) (by omega) (by omega)), ?_, ?_⟩,by simp only;omega⟩
    ·have p1':Ci br 0 i a (List.set (List.set l (Int.toNat a) (gz d l (a+i))) (Int.toNat (a+i)) (gz d l a))=some l':=p1
     simp (disch:=first | omega | (simp only [List.length_set];omega)) only [hi,decide_true,if_true,a1,jF d,Option.bind_some,p1',bF]
    ·simp only
     rw [show i-1+1=i from by omega];exact p3
    ·simp only
     intro q c1 c2 p c3 c4
     by_cases e:q=i
     ·subst e
      have e1:gz d l' (a+q)=gz d l a:=by
       rw [p2.out d (by omega) (.inr (by omega)),rM d (by omega) (by omega) (by omega) (by omega) (by omega),if_pos rfl]
      rw [e1]
      refine p2.all d (fun x=>lt (gz d l a) x=false) (fun k k1 k2=>?_) (a+p) (by omega) (by omega)
      rw [rM d (by omega) (by omega) (by omega) (by omega) (by omega),if_neg (by omega)]
      split
      ·exact hmax q (by omega) (by omega)
      ·have:=hmax (k-a) (by omega) (by omega)
       rwa [show a+(k-a)=k from by omega] at this
     ·have e1:gz d l' (a+q)=gz d l (a+q):=hall.out d (by omega) (.inr (by omega))
      rw [e1]
      by_cases e2:p≤i
      ·refine hall.all d (fun x=>lt (gz d l (a+q)) x=false) (fun k k1 k2=>?_) (a+p) (by omega) (by omega)
       have:=hI q (by omega) c2 (k-a) (by omega) (by omega)
       rwa [show a+(k-a)=k from by omega] at this
      ·rw [hall.out d (k:=a+p) (by omega) (.inr (by omega))]
       exact hI q (by omega) c2 p c3 c4
   ·right
    refine ⟨l,by simp only [hi,decide_false,Bool.false_eq_true,if_false],hon,fun p q c1 c2 c3=>?_⟩
    have:=hI (q-a) (by omega) (by omega) (p-a) (by omega) (by omega)
    rwa [show a+(q-a)=q from by omega,show a+(p-a)=p from by omega] at this) (b-a-1,l1) ⟨by simp only;omega,by simp only;omega,q2,by simp only;rw [show b-a-1+1=b-a from by omega];exact q3,fun q c1 c2=>by simp only at c1;omega⟩
 refine ⟨l2, ?_,r2,r3⟩
 unfold Js
 simp only [s1,s2,s3,q1,Option.bind_some,r1]
end
theorem Qu {body:Int→Option (Int ⊕ Int)} (c:Int→Bool) {i j:Int} (hij:i≤j+1) (hs:∀ s,i≤s→s≤j→body s=if c s then some (.inl (s+1)) else some (.inr s)) (he:body (j+1)=some (.inr (j+1))) :
  ∃ x,aM body i=some x∧i≤x∧x≤j+1∧(∀ k,i≤k→k<x→c k=true)∧(x≤j→c x=false):=
 nD (fun s:Int=>(j+1-s).toNat) (fun s=>i≤s∧s≤j+1∧∀ k,i≤k→k<s→c k=true) (fun x=>i≤x∧x≤j+1∧(∀ k,i≤k→k<x→c k=true)∧(x≤j→c x=false)) body (by
  rintro s ⟨h1,h2,h3⟩
  by_cases h:s≤j
  ·cases hc:c s with
   | true =>
     left
     refine ⟨s+1,by rw [hs s h1 h,hc];rfl,⟨by omega,by omega,fun k k1 k2=>?_⟩,by omega⟩
     by_cases e:k=s
     ·subst e;exact hc
     ·exact h3 k k1 (by omega)
   | false =>
     right
     exact ⟨s,by rw [hs s h1 h,hc];rfl,h1,h2,h3,fun _=>hc⟩
  ·right
   obtain rfl:s=j+1:=by omega
   exact ⟨_,he,h1,h2,h3,fun q=>absurd q (by omega)⟩) i ⟨Int.le_refl _,hij,fun k k1 k2=>absurd k1 (by omega)⟩
theorem Oq {body:Int→Option (Int ⊕ Int)} (c:Int→Bool) {i j:Int} (hij:i≤j+1) (hs:∀ s,i≤s→s≤j→body s=if c s then some (.inl (s-1)) else some (.inr s)) (he:body (i-1)=some (.inr (i-1))) :
  ∃ x,aM body j=some x∧i-1≤x∧x≤j∧(∀ k,x<k→k≤j→c k=true)∧(i≤x→c x=false):=
 nD (fun s:Int=>(s+1-i).toNat) (fun s=>i-1≤s∧s≤j∧∀ k,s<k→k≤j→c k=true) (fun x=>i-1≤x∧x≤j∧(∀ k,x<k→k≤j→c k=true)∧(i≤x→c x=false)) body (by
  rintro s ⟨h1,h2,h3⟩
  by_cases h:i≤s
  ·cases hc:c s with
   | true =>
     left
     refine ⟨s-1,by rw [hs s h h2,hc];rfl,⟨by omega,by omega,fun k k1 k2=>?_⟩,by omega⟩
     by_cases e:k=s
     ·subst e;exact hc
     ·exact h3 k (by omega) k2
   | false =>
     right
     exact ⟨s,by rw [hs s h h2,hc];rfl,h1,h2,h3,fun _=>hc⟩
  ·right
   obtain rfl:s=i-1:=by omega
   exact ⟨_,he,h1,h2,h3,fun q=>absurd q (by omega)⟩) j ⟨by omega,Int.le_refl _,fun k k1 k2=>absurd k1 (by omega)⟩
section
variable {α:Type} {br:Br α} {lt:α→α→Bool} {P:α→Prop} {d:α} (hbr:∀ (β:Type) (x y:α) (k:Bool→Option β),P x→P y→br β x y k=k (lt x y)) (w:Ob lt)
include hbr
theorem Sm {a b:Int} {l0:List α} (ha:0≤a) (hab:a<b) (hb:b≤l0.length) (hf0:Gf P d l0) {i0 j0:Int} (h1:a+1≤i0) (h2:j0≤b-1) (h3:i0≤j0+1)
  (hlo:∀ k,a+1≤k→k<i0→lt (gz d l0 k) (gz d l0 a)=true) (hhi:∀ k,j0<k→k<b→lt (gz d l0 k) (gz d l0 a)=false) :
  ∃ r,aM (yM br a) (i0,j0,l0)=some r∧On d (a+1) b l0 r.2∧gz d r.2 a=gz d l0 a∧a≤r.1∧r.1<b∧(∀ k,a+1≤k→k≤r.1→lt (gz d r.2 k) (gz d l0 a)=true)∧(∀ k,r.1<k→k<b→lt (gz d r.2 k) (gz d l0 a)=false):=by
 have hL:=hf0.len
 refine nD (fun s:Int×Int×List α=>(s.2.1+1-s.1).toNat) (fun s:Int×Int×List α=>a+1≤s.1∧s.2.1≤b-1∧s.1≤s.2.1+1∧On d (a+1) b l0 s.2.2∧gz d s.2.2 a=gz d l0 a ∧
  (∀ k,a+1≤k→k<s.1→lt (gz d s.2.2 k) (gz d l0 a)=true)∧(∀ k,s.2.1<k→k<b→lt (gz d s.2.2 k) (gz d l0 a)=false)) _ (yM br a) ?_ (i0,j0,l0) ⟨h1,h2,h3,.refl _,rfl,hlo,hhi⟩
 rintro ⟨i,j,l⟩ ⟨i1,i2,i3,hon,hp,hI,hJ⟩
 simp only at i1 i2 i3 hon hp hI hJ ⊢
 have hf:=hf0.on hon
 have hl:=hon.len
 unfold yM
 obtain ⟨x,x1,x2,x3,x4,x5⟩:=Qu (body:=yJ br a (i,j,l)) (fun k=>lt (gz d l k) (gz d l0 a)) i3 (fun s s1 s2=>by
  unfold yJ
  simp (disch:=first | omega | (refine hf.all _ ?_ ?_ <;> omega) | (refine hf0.all _ ?_ ?_ <;> omega)) only [s2,decide_true,if_true,jF d,Option.bind_some,hbr,hp,aR]) (by
  unfold yJ
  simp only [show ¬ j+1≤j from by omega,decide_false,Bool.false_eq_true,if_false,Option.bind_some])
 obtain ⟨y,y1,y2,y3,y4,y5⟩:=Oq (body:=yL br a (i,j,l) x) (fun k=>!lt (gz d l k) (gz d l0 a)) x3 (fun s s1 s2=>by
  unfold yL
  simp (disch:=first | omega | (refine hf.all _ ?_ ?_ <;> omega) | (refine hf0.all _ ?_ ?_ <;> omega)) only [s1,decide_true,if_true,jF d,Option.bind_some,hbr,hp,bF]) (by
  unfold yL
  simp only [show ¬ x≤x-1 from by omega,decide_false,Bool.false_eq_true,if_false,Option.bind_some])
 simp only [x1,y1,Option.bind_some]
 by_cases hxy:x>y
 ·right
  refine ⟨(y,l),by simp only [hxy,decide_true,if_true],hon,hp,by simp only;omega,by simp only;omega,fun k k1 k2=>?_,fun k k1 k2=>?_⟩
  ·simp only at k2 ⊢
   by_cases e:k<i
   ·exact hI k k1 e
   ·exact x4 k (by omega) (by omega)
  ·simp only at k1 ⊢
   by_cases e:j<k
   ·exact hJ k e k2
   ·have:=y4 k (by omega) (by omega)
    simpa using this
 ·left
  have hx:=x5 (by omega)
  have hy:=y5 (by omega)
  simp only [Bool.not_eq_eq_eq_not,Bool.not_false] at hy
  have hne:x≠y:=fun e=>by subst e;rw [hx] at hy;cases hy
  refine ⟨(x+1,y-1,sw d l x y), ?_,⟨by simp only;omega,by simp only;omega,by simp only;omega,.step hon x y (by omega) (by omega) (by omega) (by omega) (by omega) (by omega), ?_,fun k k1 k2=>?_,fun k k1 k2=>?_⟩,by simp only;omega⟩
  ·simp (disch:=first | omega | (simp only [List.length_set];omega)) only [hxy,decide_false,Bool.false_eq_true,if_false,jF d,Option.bind_some,aR,bF]
   rfl
  ·simp only
   rw [rM d (by omega) (by omega) (by omega) (by omega) (by omega),if_neg (by omega),if_neg (by omega)];exact hp
  ·simp only at k2 ⊢
   rw [rM d (by omega) (by omega) (by omega) (by omega) (by omega),if_neg (by omega)]
   by_cases e:k=x
   ·rw [if_pos e];exact hy
   ·rw [if_neg e]
    by_cases e:k<i
    ·exact hI k k1 e
    ·exact x4 k (by omega) (by omega)
  ·simp only at k1 ⊢
   rw [rM d (by omega) (by omega) (by omega) (by omega) (by omega)]
   by_cases e:k=y
   ·rw [if_pos e];exact hx
   ·rw [if_neg e,if_neg (by omega)]
    by_cases e:j<k
    ·exact hJ k e k2
    ·have:=y4 k (by omega) (by omega)
     simpa using this
theorem Vs {a b pivot:Int} {l0:List α} (ha:0≤a) (hab:a<b) (hb:b≤l0.length) (hf0:Gf P d l0) (hp1:a≤pivot) (hp2:pivot<b) :
  ∃ mid al l',Dc br a b pivot l0=some (mid,al,l')∧On d a b l0 l'∧a≤mid∧mid<b∧(∀ k,a≤k→k<mid→lt (gz d l' k) (gz d l' mid)=true)∧(∀ k,mid<k→k<b→lt (gz d l' k) (gz d l' mid)=false):=by
 have hL:=hf0.len
 have hon1:On d a b l0 (sw d l0 a pivot):=.step (.refl _) _ _ (Int.le_refl _) hab hp1 hp2 ha hb
 obtain ⟨l1,hl1⟩:∃ l1,sw d l0 a pivot=l1:=⟨_,rfl⟩
 have e1:List.set (List.set l0 (Int.toNat a) (gz d l0 pivot)) (Int.toNat pivot) (gz d l0 a)=l1:=hl1
 rw [hl1] at hon1
 have hf:=hf0.on hon1
 have hl:=hon1.len
 have s1:aI b 1=b-1:=bF (by omega) (by omega)
 have s2:aJ a 1=a+1:=aR (by omega) (by omega)
 unfold Dc
 simp (disch:=first | omega | (simp only [List.length_set];omega)) only [jF d (l:=l0),Option.bind_some]
 rw [show idx (l0.set a.toNat (gz d l0 pivot)) pivot=some (gz d (l0.set a.toNat (gz d l0 pivot)) pivot) from jF d (by omega) (by rw [List.length_set];omega),Option.bind_some,e1]
 obtain ⟨x,x1,x2,x3,x4,x5⟩:=Qu (body:=yH br a b pivot l0 (gz d l0 pivot) (gz d l0 a)) (fun k=>lt (gz d l1 k) (gz d l1 a)) (i:=a+1) (j:=b-1) (by omega) (fun s q1 q2=>by
  unfold yH
  simp (disch:=first | omega | (refine hf.all _ ?_ ?_ <;> omega)) only [e1,s1,q2,decide_true,if_true,jF d,Option.bind_some,hbr,aR]) (by
  unfold yH
  simp only [s1,show ¬ b-1+1≤b-1 from by omega,decide_false,Bool.false_eq_true,if_false,Option.bind_some])
 obtain ⟨y,y1,y2,y3,y4,y5⟩:=Oq (body:=yI br a pivot l0 (gz d l0 pivot) (gz d l0 a) x) (fun k=>!lt (gz d l1 k) (gz d l1 a)) (i:=x) (j:=b-1) x3 (fun s q1 q2=>by
  unfold yI
  simp (disch:=first | omega | (refine hf.all _ ?_ ?_ <;> omega)) only [e1,q1,decide_true,if_true,jF d,Option.bind_some,hbr,bF]) (by
  unfold yI
  simp only [show ¬ x≤x-1 from by omega,decide_false,Bool.false_eq_true,if_false,Option.bind_some])
 have fin:∀ (m:Int) (l:List α),On d a b l0 l→a≤m→m<b→gz d l a=gz d l1 a→(∀ k,a+1≤k→k≤m→lt (gz d l k) (gz d l1 a)=true)→(∀ k,m<k→k<b→lt (gz d l k) (gz d l1 a)=false) →
   On d a b l0 (sw d l m a)∧(∀ k,a≤k→k<m→lt (gz d (sw d l m a) k) (gz d (sw d l m a) m)=true)∧(∀ k,m<k→k<b→lt (gz d (sw d l m a) k) (gz d (sw d l m a) m)=false):=by
  intro m l on m1 m2 hq hlo hhi
  have hl:=on.len
  have em:gz d (sw d l m a) m=gz d l1 a:=by
   rw [rM d (by omega) (by omega) (by omega) (by omega) (by omega)]
   by_cases e:m=a
   ·rw [if_pos e,e];exact hq
   ·rw [if_neg e,if_pos rfl];exact hq
  refine ⟨.step on m a (by omega) (by omega) (by omega) (by omega) ha (by omega),fun k k1 k2=>?_,fun k k1 k2=>?_⟩
  ·rw [em,rM d (by omega) (by omega) (by omega) (by omega) (by omega)]
   by_cases e:k=a
   ·rw [if_pos e];exact hlo m (by omega) (Int.le_refl _)
   ·rw [if_neg e,if_neg (by omega)];exact hlo k (by omega) (by omega)
  ·rw [em,rM d (by omega) (by omega) (by omega) (by omega) (by omega),if_neg (by omega),if_neg (by omega)]
   exact hhi k k1 k2
 simp only [s1,s2,x1,y1,Option.bind_some]
 by_cases hxy:x>y
 ·obtain ⟨f1,f2,f3⟩:=fin y l1 hon1 (by omega) (by omega) rfl (fun k k1 k2=>x4 k k1 (by omega)) (fun k k1 k2=>by
   have:=y4 k k1 (by omega)
   simpa using this)
  refine ⟨y,true,sw d l1 y a, ?_,f1,by omega,by omega,f2,f3⟩
  simp (disch:=first | omega | (simp only [List.length_set];omega)) only [hxy,decide_true,if_true,jF d,Option.bind_some]
  rfl
 ·have hx:=x5 (by omega)
  have hy:=y5 (by omega)
  simp only [Bool.not_eq_eq_eq_not,Bool.not_false] at hy
  have hne:x≠y:=fun e=>by subst e;rw [hx] at hy;cases hy
  have hon2:On d (a+1) b l1 (sw d l1 x y):=.step (.refl _) x y (by omega) (by omega) (by omega) (by omega) (by omega) (by omega)
  have hga:gz d (sw d l1 x y) a=gz d l1 a:=by rw [rM d (by omega) (by omega) (by omega) (by omega) (by omega),if_neg (by omega),if_neg (by omega)]
  have hl2:(sw d l1 x y).length=l1.length:=Sz ..
  obtain ⟨r,r1,r2,r3,r4,r5,r6,r7⟩:=Sm hbr (i0:=x+1) (j0:=y-1) ha hab (by omega) (hf.on hon2) (by omega) (by omega) (by omega) (fun k k1 k2=>by
   rw [hga,rM d (by omega) (by omega) (by omega) (by omega) (by omega),if_neg (by omega)]
   by_cases e:k=x
   ·rw [if_pos e];exact hy
   ·rw [if_neg e];exact x4 k k1 (by omega)) (fun k k1 k2=>by
   rw [hga,rM d (by omega) (by omega) (by omega) (by omega) (by omega)]
   by_cases e:k=y
   ·rw [if_pos e];exact hx
   ·rw [if_neg e,if_neg (by omega)]
    have:=y4 k (by omega) (by omega)
    simpa using this)
  rw [hga] at r3 r6 r7
  have hon3:=(hon2.trans d r2).mono d ha (by omega) (Int.le_refl _) (by omega)
  have hl3:=r2.len
  obtain ⟨f1,f2,f3⟩:=fin r.1 r.2 (hon1.trans d hon3) r4 r5 r3 r6 r7
  have e2:List.set (List.set l1 (Int.toNat x) (gz d l1 y)) (Int.toNat y) (gz d l1 x)=sw d l1 x y:=rfl
  refine ⟨r.1,false,sw d r.2 r.1 a, ?_,f1,r4,r5,f2,f3⟩
  simp (disch:=first | omega | (simp only [List.length_set];omega)) only [hxy,decide_false,Bool.false_eq_true,if_false,jF d,Option.bind_some,aR,bF,e2,r1]
  rfl
theorem Nv {a b pivot:Int} {l0:List α} (ha:0≤a) (hab:a<b) (hb:b≤l0.length) (hf0:Gf P d l0) (hp1:a≤pivot) (hp2:pivot<b) (hirr:∀ x,lt x x=false) :
  ∃ mid l',Ac br a b pivot l0=some (mid,l')∧On d a b l0 l'∧a<mid∧mid≤b∧(∀ k,a≤k→k<mid→lt (gz d l0 pivot) (gz d l' k)=false):=by
 have hL:=hf0.len
 have hon1:On d a b l0 (sw d l0 a pivot):=.step (.refl _) _ _ (Int.le_refl _) hab hp1 hp2 ha hb
 obtain ⟨l1,hl1⟩:∃ l1,sw d l0 a pivot=l1:=⟨_,rfl⟩
 have e1:List.set (List.set l0 (Int.toNat a) (gz d l0 pivot)) (Int.toNat pivot) (gz d l0 a)=l1:=hl1
 have hpa:gz d l1 a=gz d l0 pivot:=by
  rw [← hl1,rM d (by omega) (by omega) (by omega) (by omega) (by omega)]
  by_cases e:a=pivot
  ·rw [if_pos e,e]
  ·rw [if_neg e,if_pos rfl]
 rw [hl1] at hon1
 have hf1:=hf0.on hon1
 have hl1':=hon1.len
 have s1:aI b 1=b-1:=bF (by omega) (by omega)
 have s2:aJ a 1=a+1:=aR (by omega) (by omega)
 obtain ⟨r,r1,r2,r3,r4,r5⟩:=nD (fun s:Int×Int×List α=>(s.2.1+1-s.1).toNat) (fun s:Int×Int×List α=>a+1≤s.1∧s.2.1≤b-1∧s.1≤s.2.1+1∧On d (a+1) b l1 s.2.2∧gz d s.2.2 a=gz d l1 a ∧
   (∀ k,a+1≤k→k<s.1→lt (gz d l1 a) (gz d s.2.2 k)=false)) (fun r:Int×List α=>On d a b l0 r.2∧a<r.1∧r.1≤b∧(∀ k,a≤k→k<r.1→lt (gz d l0 pivot) (gz d r.2 k)=false)) (vM br a) (by
  rintro ⟨i,j,l⟩ ⟨i1,i2,i3,hon,hp,hI⟩
  simp only at i1 i2 i3 hon hp hI ⊢
  have hf:=hf1.on hon
  have hl:=hon.len
  unfold vM
  obtain ⟨x,x1,x2,x3,x4,x5⟩:=Qu (body:=rJ br a (i,j,l)) (fun k=>!lt (gz d l1 a) (gz d l k)) i3 (fun s s1 s2=>by
   unfold rJ
   simp (disch:=first | omega | (refine hf.all _ ?_ ?_ <;> omega) | (refine hf1.all _ ?_ ?_ <;> omega)) only [s2,decide_true,if_true,jF d,Option.bind_some,hbr,hp,aR]) (by
   unfold rJ
   simp only [show ¬ j+1≤j from by omega,decide_false,Bool.false_eq_true,if_false,Option.bind_some])
  obtain ⟨y,y1,y2,y3,y4,y5⟩:=Oq (body:=rK br a (i,j,l) x) (fun k=>lt (gz d l1 a) (gz d l k)) x3 (fun s s1 s2=>by
   unfold rK
   simp (disch:=first | omega | (refine hf.all _ ?_ ?_ <;> omega) | (refine hf1.all _ ?_ ?_ <;> omega)) only [s1,decide_true,if_true,jF d,Option.bind_some,hbr,hp,bF]) (by
   unfold rK
   simp only [show ¬ x≤x-1 from by omega,decide_false,Bool.false_eq_true,if_false,Option.bind_some])
  simp only [x1,y1,Option.bind_some]
  have below:∀ k,a+1≤k→k<x→lt (gz d l1 a) (gz d l k)=false:=fun k k1 k2=>by
   by_cases e:k<i
   ·exact hI k k1 e
   ·have:=x4 k (by omega) k2
    simpa using this
  by_cases hxy:x>y
  ·right
   refine ⟨(x,l),by simp only [hxy,decide_true,if_true],hon1.trans d (hon.mono d ha (by omega) (Int.le_refl _) (by omega)),by simp only;omega,by simp only;omega,fun k k1 k2=>?_⟩
   simp only at k2 ⊢
   rw [← hpa]
   by_cases e:k=a
   ·rw [e,hp];exact hirr _
   ·exact below k (by omega) k2
  ·left
   have hx:=x5 (by omega)
   have hy:=y5 (by omega)
   simp only [Bool.not_eq_eq_eq_not,Bool.not_false] at hx
   have hne:x≠y:=fun e=>by subst e;rw [hx] at hy;cases hy
   refine ⟨(x+1,y-1,sw d l x y), ?_,⟨by simp only;omega,by simp only;omega,by simp only;omega,.step hon x y (by omega) (by omega) (by omega) (by omega) (by omega) (by omega), ?_,fun k k1 k2=>?_⟩,by simp only;omega⟩
   ·simp (disch:=first | omega | (simp only [List.length_set];omega)) only [hxy,decide_false,Bool.false_eq_true,if_false,jF d,Option.bind_some,aR,bF]
    rfl
   ·simp only
    rw [rM d (by omega) (by omega) (by omega) (by omega) (by omega),if_neg (by omega),if_neg (by omega)];exact hp
   ·simp only at k2 ⊢
    rw [rM d (by omega) (by omega) (by omega) (by omega) (by omega),if_neg (by omega)]
    by_cases e:k=x
    ·rw [if_pos e];exact hy
    ·rw [if_neg e];exact below k k1 (by omega)) (a+1,b-1,l1) ⟨by simp only;omega,by simp only;omega,by simp only;omega,.refl _,rfl,fun k k1 k2=>absurd k1 (by simp only at k2;omega)⟩
 refine ⟨r.1,r.2, ?_,r2,r3,r4,r5⟩
 unfold Ac
 simp (disch:=first | omega | (simp only [List.length_set];omega)) only [jF d (l:=l0),Option.bind_some]
 rw [show idx (l0.set a.toNat (gz d l0 pivot)) pivot=some (gz d (l0.set a.toNat (gz d l0 pivot)) pivot) from jF d (by omega) (by rw [List.length_set];omega),Option.bind_some,e1]
 simp only [s1,s2,r1,Option.bind_some]
end
theorem wrap_u64 {x:Int} (h0:0≤x) (h1:x<18446744073709551616):IntKind.wrap .u64 x=x:=by
 simp only [IntKind.wrap,IntKind.signed,IntKind.bits,IntKind.min,IntKind.max]
 first | omega | (simp;omega)
theorem OE:((List.range 256).all fun c=>match tB ((c:Int),0) with | some t=>decide (0≤t∧t≤8∧2^t.toNat≤max 1 (2*c)) | none=>false)=true:=by decide +kernel
theorem GJ (c n:Int) (h0:0≤n) (h1:n≤64) (hc:0≤c) (hc2:c<256):∃ t:Int,tB (c,n)=some (n+t)∧0≤t∧t≤8∧2^t.toNat≤max 1 (2*c.toNat):=by
 have h:=List.all_eq_true.1 OE c.toNat (List.mem_range.2 (by omega))
 rw [show ((c.toNat:Nat):Int)=c from by omega] at h
 obtain ⟨T,hT⟩:∃ T:Int→Option Int,∀ c n,tB (c,n)=(T c).bind fun x=>some (aJ n (IntKind.wrap .i64 x)):=⟨fun c=>Kh (ByteArray.mk #[0,1,2,2,3,3,3,3,4,4,4,4,4,4,4,4,5,5,5,5,5,5,5,5,5,5,5,5,5,5,5,5,6,6,6,6,6,6,6,6,6,6,6,6,6,6,6,6,6,6,6,6,6,6,6,6,6,6,6,6,6,6,6,6,7,7,7,7,7,7,7,7,7,7,7,7,7,7,7,7,7,7,7,7,7,7,7,7,7,7,7,7,7,7,7,7,7,7,7,7,7,7,7,7,7,7,7,7,7,7,7,7,7,7,7,7,7,7,7,7,7,7,7,7,7,7,7,7,8,8,8,8,8,8,8,8,8,8,8,8,8,8,8,8,8,8,8,8,8,8,8,8,8,8,8,8,8,8,8,8,8,8,8,8,8,8,8,8,8,8,8,8,8,8,8,8,8,8,8,8,8,8,8,8,8,8,8,8,8,8,8,8,8,8,8,8,8,8,8,8,8,8,8,8,8,8,8,8,8,8,8,8,8,8,8,8,8,8,8,8,8,8,8,8,8,8,8,8,8,8,8,8,8,8,8,8,8,8,8,8,8,8,8,8,8,8,8,8,8,8,8,8,8,8,8,8]) (IntKind.wrap .u8 c),fun _ _=>rfl⟩
 rw [hT] at h ⊢
 cases hs:T c with
 | none=>rw [hs] at h;simp at h
 | some t =>
   rw [hs] at h
   simp only [Option.bind_some,decide_eq_true_eq] at h ⊢
   generalize hw:IntKind.i64.wrap t=v at h ⊢
   have hv:aJ 0 v=v:=by
    unfold aJ
    rw [Int.zero_add,← hw]
    simp only [IntKind.wrap,IntKind.signed,IntKind.bits,IntKind.min,IntKind.max]
    first | omega | (simp only [Int.reducePow,if_true];omega) | (simp;omega)
   rw [hv] at h
   exact ⟨v,by rw [aR (by omega) (by omega)],h.1,h.2.1,h.2.2⟩
theorem GN {x:Int} (h0:0≤x) (h1:x≤1073741824):∃ v:Int,Gc (IntKind.wrap .u64 x)=some v∧0≤v∧v≤40∧2^v.toNat≤max 1 (2*x.toNat):=by
 have hw:IntKind.wrap .u64 x=x:=by
  exact wrap_u64 (by omega) (by omega)
 have c8:(2^(min (Int.toNat 8) 64):Int)=256:=by decide
 have c16:(2^(min (Int.toNat 16) 64):Int)=65536:=by decide
 have step:∀ (c n:Int),0≤c→0≤n→n≤30→c<65536→∃ t:Int,wN (c,n)=some (n+t)∧0≤t∧t≤16∧2^t.toNat≤max 1 (2*c.toNat):=fun c n h0 hn hn2 hc=>by
  unfold wN
  by_cases q:c ≥ 256
  ·simp only [q,decide_true,if_true,c8]
   have e:Int.fdiv c 256=c / 256:=Int.fdiv_eq_ediv_of_nonneg _ (by omega)
   rw [e,aR (by omega) (by omega)]
   obtain ⟨t,t1,t2,t3,t4⟩:=GJ (c / 256) (n+8) (by omega) (by omega) (by omega) (by omega)
   refine ⟨8+t,by rw [t1];congr 1;omega,by omega,by omega, ?_⟩
   rw [show (8+t).toNat=8+t.toNat from by omega,Nat.pow_add]
   omega
  ·simp only [q,decide_false,Bool.false_eq_true,if_false]
   obtain ⟨t,t1,t2,t3,t4⟩:=GJ c n (by omega) (by omega) (by omega) (by omega)
   exact ⟨t,t1,t2,by omega,t4⟩
 unfold Gc Lg Az
 rw [hw]
 have q:¬ x ≥ 4294967296:=by omega
 simp only [q,decide_false,Bool.false_eq_true,if_false]
 by_cases q:x ≥ 65536
 ·simp only [q,decide_true,if_true,c16]
  have e:Int.fdiv x 65536=x / 65536:=Int.fdiv_eq_ediv_of_nonneg _ (by omega)
  rw [e,show aJ 0 16=16 from rfl]
  obtain ⟨t,t1,t2,t3,t4⟩:=step (x / 65536) 16 (by omega) (by omega) (by omega) (by omega)
  refine ⟨16+t,by rw [t1];rfl,by omega,by omega, ?_⟩
  rw [show (16+t).toNat=16+t.toNat from by omega,Nat.pow_add]
  omega
 ·simp only [q,decide_false,Bool.false_eq_true,if_false]
  obtain ⟨t,t1,t2,t3,t4⟩:=step x 0 h0 (by omega) (by omega) (by omega)
  refine ⟨t,by rw [t1,Int.zero_add];rfl,t2,by omega,t4⟩
section
variable {α:Type} {br:Br α} {lt:α→α→Bool} {P:α→Prop} {d:α} (hbr:∀ (β:Type) (x y:α) (k:Bool→Option β),P x→P y→br β x y k=k (lt x y)) (w:Ob lt)
theorem Zs {a b:Int} {l0:List α} (ha:0≤a) (hb:b≤l0.length) (hL:(l0.length:Int)≤1073741824) (hab:a≤b):∃ l',Ct br a b l0=some l'∧On d a b l0 l':=by
 obtain ⟨l',r1,r2⟩:=nD (fun s:Int×Int×List α=>(s.2.1+1-s.1).toNat) (fun s:Int×Int×List α=>a≤s.1∧s.2.1<b∧s.1≤b∧a-1≤s.2.1∧On d a b l0 s.2.2) (fun l'=>On d a b l0 l') (yP br) (by
  rintro ⟨i,j,l⟩ ⟨h1,h2,h3,h4,hon⟩
  simp only at h1 h2 h3 h4 hon ⊢
  have hl:=hon.len
  unfold yP
  by_cases q:i<j
  ·left
   refine ⟨(i+1,j-1,sw d l i j), ?_,⟨by simp only;omega,by simp only;omega,by simp only;omega,by simp only;omega,.step hon i j h1 (by omega) (by omega) h2 ha (by omega)⟩,by simp only;omega⟩
   simp (disch:=first | omega | (simp only [List.length_set];omega)) only [q,decide_true,if_true,jF d,Option.bind_some,aR,bF]
   rfl
  ·right
   exact ⟨l,by simp only [q,decide_false,Bool.false_eq_true,if_false],hon⟩) (a,b-1,l0) ⟨by simp only;omega,by simp only;omega,by simp only;omega,by simp only;omega,.refl _⟩
 refine ⟨l', ?_,r2⟩
 unfold Ct
 rw [bF (by omega) (by omega),r1];rfl
theorem MP (r m:Int) (h0:0≤m) (h1:m<9223372036854775808):0≤Ik .u64 r m∧Ik .u64 r m≤m:=by
 unfold Ik
 have hb:(BitVec.ofInt 64 m).toNat=m.toNat:=by
  rw [BitVec.toNat_ofInt]
  omega
 have hle:(BitVec.ofInt IntKind.u64.bits r &&& BitVec.ofInt IntKind.u64.bits m).toNat≤m.toNat:=by
  show (BitVec.ofInt 64 r &&& BitVec.ofInt 64 m).toNat≤m.toNat
  rw [BitVec.toNat_and,hb]
  exact Nat.and_le_right
 generalize (BitVec.ofInt IntKind.u64.bits r &&& BitVec.ofInt IntKind.u64.bits m).toNat=v at hle ⊢
 have hw:IntKind.wrap .u64 (v:Int)=v:=by
  exact wrap_u64 (by omega) (by omega)
 rw [hw];omega
theorem PA {n:Int} (h:0≤n) (h2:n≤1073741824):pH n 4=n / 4:=by
 unfold pH
 rw [Int.tdiv_eq_ediv_of_nonneg h]
 exact Jf _ (by omega) (by omega)
theorem FB {a b:Int} {l0:List α} (ha:0≤a) (hb:b≤l0.length) (hL:(l0.length:Int)≤1073741824) (hab:a≤b):∃ l',Ba br a b l0=some l'∧On d a b l0 l':=by
 have s1:aI b a=b-a:=bF (by omega) (by omega)
 unfold Ba
 rw [s1]
 by_cases h8:b-a ≥ 8
 case neg=>simp only [h8,decide_false,Bool.false_eq_true,if_false];exact ⟨l0,rfl,.refl _⟩
 simp only [h8,decide_true,if_true]
 obtain ⟨v,v1,v2,v3,v4⟩:=GN (x:=b-a) (by omega) (by omega)
 have hpow:1≤2^v.toNat:=Nat.one_le_two_pow
 have hr2:Ab (b-a)=some ((2^v.toNat:Nat):Int):=by
  unfold Ab
  rw [v1]
  simp only [Option.bind_some,v2,decide_true,if_true]
  congr 1
  rw [show min v.toNat 64=v.toNat from by omega,Int.one_mul,show (2:Int)^v.toNat=((2^v.toNat:Nat):Int) from by simp]
  exact wrap_u64 (by omega) (by omega)
 rw [hr2,Option.bind_some]
 obtain ⟨R,hR⟩:∃ R:Int,((2^v.toNat:Nat):Int)=R:=⟨_,rfl⟩
 rw [hR]
 have hR1:1≤R:=by omega
 have hR2:R≤2*(b-a):=by omega
 have hm:IntKind.wrap .u64 (R-1)=R-1:=by
  exact wrap_u64 (by omega) (by omega)
 have q4:=PA (n:=b-a) (by omega) (by omega)
 have q2:eS ((b-a) / 4) 2=(b-a) / 4*2:=De (by omega) (by omega)
 have q3:aJ a ((b-a) / 4*2)=a+(b-a) / 4*2:=aR (by omega) (by omega)
 have q5:aJ (a+(b-a) / 4*2) 1=a+(b-a) / 4*2+1:=aR (by omega) (by omega)
 have q6:aI (a+(b-a) / 4*2) 1=a+(b-a) / 4*2-1:=bF (by omega) (by omega)
 obtain ⟨l',r1,r2⟩:=nD (fun s:Int×Int×List α=>(a+(b-a) / 4*2+2-s.1).toNat) (fun s:Int×Int×List α=>a≤s.1∧On d a b l0 s.2.2) (fun l'=>On d a b l0 l') (wU br a b R) (by
  rintro ⟨i,rr,l⟩ ⟨h1,hon⟩
  simp only at h1 hon ⊢
  have hl:=hon.len
  unfold wU
  simp only [s1,q4,q2,q3,q5,hm]
  by_cases q:i≤a+(b-a) / 4*2+1
  ·left
   simp only [q,decide_true,if_true,Hk,Option.bind_some]
   generalize hz:(gK IntKind.u64 _ _:Int)=z
   obtain ⟨a1,a2⟩:=MP z (R-1) (by omega) (by omega)
   have hw:IntKind.wrap .i64 (Ik .u64 z (R-1))=Ik .u64 z (R-1):=Jf _ (by omega) (by omega)
   rw [hw]
   obtain ⟨o,ho⟩:∃ o,Ik .u64 z (R-1)=o:=⟨_,rfl⟩
   rw [ho] at a1 a2 ⊢
   have key:∀ t:Int,0≤t→t<b-a→∃ s',sR br a (i,rr,l) t=some (.inl s')∧(a≤s'.1∧On d a b l0 s'.2.2)∧(a+(b-a) / 4*2+2-s'.1).toNat<(a+(b-a) / 4*2+2-i).toNat:=fun t t1 t2=>by
    have e:aJ a t=a+t:=aR (by omega) (by omega)
    unfold sR
    simp (disch:=first | omega | (simp only [List.length_set];omega)) only [e,jF d,Option.bind_some]
    refine ⟨_,rfl,⟨?_, ?_⟩, ?_⟩
    ·simp only;rw [aR (by omega) (by omega)];omega
    ·exact .step hon i (a+t) (by omega) (by omega) (by omega) (by omega) ha (by omega)
    ·simp only;rw [aR (by omega) (by omega)];omega
   by_cases hge:o ≥ b-a
   ·simp only [hge,decide_true,if_true]
    rw [bF (by omega) (by omega)]
    exact key (o-(b-a)) (by omega) (by omega)
   ·simp only [hge,decide_false,Bool.false_eq_true,if_false]
    exact key o a1 (by omega)
  ·right
   exact ⟨l,by simp only [q,decide_false,Bool.false_eq_true,if_false],hon⟩) (a+(b-a) / 4*2-1,IntKind.wrap .u64 (b-a),l0) ⟨by simp only;omega,.refl _⟩
 refine ⟨l', ?_,r2⟩
 simp only [q4,q2,q3,q6,r1,Option.bind_some]
include hbr
theorem Oj {l:List α} (hf:Gf P d l) {x y:Int} (s:Int) (hx:0≤x) (hx':x<l.length) (hy:0≤y) (hy':y<l.length):∃ r,Hj br l x y s=some r∧((r.1=x∧r.2.1=y)∨(r.1=y∧r.2.1=x)):=by
 unfold Hj
 rw [jF d hy hy',Option.bind_some,jF d hx hx',Option.bind_some,hbr _ _ _ _ (hf.all _ hy hy') (hf.all _ hx hx')]
 cases lt (gz d l y) (gz d l x) with
 | true=>exact ⟨_,rfl,.inr ⟨rfl,rfl⟩⟩
 | false=>exact ⟨_,rfl,.inl ⟨rfl,rfl⟩⟩
theorem Uo {l:List α} (hf:Gf P d l) {lo hi x y z:Int} (s:Int) (hlo:0≤lo) (hhi:hi≤l.length) (hx:lo≤x∧x<hi) (hy:lo≤y∧y<hi) (hz:lo≤z∧z<hi):∃ r,Kl br l x y z s=some r∧lo≤r.1∧r.1<hi:=by
 unfold Kl
 obtain ⟨r1,e1,q1⟩:=Oj hbr hf (x:=x) (y:=y) s (by omega) (by omega) (by omega) (by omega)
 rw [e1,Option.bind_some]
 obtain ⟨r2,e2,q2⟩:=Oj hbr hf (x:=r1.2.1) (y:=z) r1.2.2 (by omega) (by omega) (by omega) (by omega)
 rw [e2,Option.bind_some]
 obtain ⟨r3,e3,q3⟩:=Oj hbr hf (x:=r1.1) (y:=r2.1) r2.2.2 (by omega) (by omega) (by omega) (by omega)
 rw [e3,Option.bind_some]
 exact ⟨_,rfl,by simp only;omega,by simp only;omega⟩
theorem CN {l:List α} (hf:Gf P d l) {a b:Int} (ha:0≤a) (hb:b≤l.length) (hab:a+12<b):∃ p h,Ed br l a b=some (p,h)∧a≤p∧p<b:=by
 have hL:=hf.len
 have s1:aI b a=b-a:=bF (by omega) (by omega)
 have q4:=PA (n:=b-a) (by omega) (by omega)
 have m1:eS ((b-a) / 4) 1=(b-a) / 4*1:=De (by omega) (by omega)
 have m2:eS ((b-a) / 4) 2=(b-a) / 4*2:=De (by omega) (by omega)
 have m3:eS ((b-a) / 4) 3=(b-a) / 4*3:=De (by omega) (by omega)
 have a1:aJ a ((b-a) / 4*1)=a+(b-a) / 4*1:=aR (by omega) (by omega)
 have a2:aJ a ((b-a) / 4*2)=a+(b-a) / 4*2:=aR (by omega) (by omega)
 have a3:aJ a ((b-a) / 4*3)=a+(b-a) / 4*3:=aR (by omega) (by omega)
 have k1:∀ p n:Int,∃ h,uW br (p,n)=some (p,h):=fun p n=>by
  unfold uW
  simp only
  split
  ·exact ⟨_,rfl⟩
  ·split
   ·exact ⟨_,rfl⟩
   ·exact ⟨_,rfl⟩
 have k2:∀ x y z s:Int,(a≤x∧x<b)→(a≤y∧y<b)→(a≤z∧z<b)→∃ p h,uX br l (x,y,z,s)=some (p,h)∧a≤p∧p<b:=fun x y z s hx hy hz=>by
  unfold uX
  obtain ⟨r,e,r1,r2⟩:=Uo hbr hf (lo:=a) (hi:=b) s ha hb hx hy hz
  simp only [e,Option.bind_some]
  obtain ⟨h,e2⟩:=k1 r.1 r.2
  exact ⟨_,h,e2,r1,r2⟩
 have adj:∀ x s:Int,a+1≤x→x+1<b→∃ r,rI br l x s=some r∧a≤r.1∧r.1<b:=fun x s h1 h2=>by
  unfold rI
  rw [bF (by omega) (by omega),aR (by omega) (by omega)]
  obtain ⟨r,e,r1,r2⟩:=Uo hbr hf (lo:=a) (hi:=b) (x:=x-1) (y:=x) (z:=x+1) s ha hb (by omega) (by omega) (by omega)
  rw [e]
  exact ⟨_,rfl,r1,r2⟩
 unfold Ed
 have h8:b-a ≥ 8:=by omega
 simp only [s1,q4,m1,m2,m3,a1,a2,a3,h8,decide_true,if_true]
 by_cases h50:b-a ≥ 50
 ·simp only [h50,decide_true,if_true]
  obtain ⟨r1,e1,p1,p2⟩:=adj (a+(b-a) / 4*1) 0 (by omega) (by omega)
  rw [e1,Option.bind_some]
  obtain ⟨r2,e2,p3,p4⟩:=adj (a+(b-a) / 4*2) r1.2 (by omega) (by omega)
  rw [e2,Option.bind_some]
  obtain ⟨r3,e3,p5,p6⟩:=adj (a+(b-a) / 4*3) r2.2 (by omega) (by omega)
  rw [e3,Option.bind_some]
  exact k2 _ _ _ _ ⟨p1,p2⟩ ⟨p3,p4⟩ ⟨p5,p6⟩
 ·simp only [h50,decide_false,Bool.false_eq_true,if_false]
  exact k2 _ _ _ _ (by omega) (by omega) (by omega)
end
section
variable {α:Type} {br:Br α} {lt:α→α→Bool} {P:α→Prop} {d:α} (hbr:∀ (β:Type) (x y:α) (k:Bool→Option β),P x→P y→br β x y k=k (lt x y)) (w:Ob lt)
include hbr
theorem EE {i b:Int} {l0:List α} (hi:0≤i) (hib:i+1≤b) (hb:b≤l0.length) (hf0:Gf P d l0):∃ l',aM (kT br b) (i+1,l0)=some l'∧On d i b l0 l':=by
 have hL:=hf0.len
 refine nD (fun s:Int×List α=>(b-s.1).toNat) (fun s:Int×List α=>i+1≤s.1∧On d i b l0 s.2) _ (kT br b) ?_ (i+1,l0) ⟨Int.le_refl _,.refl _⟩
 rintro ⟨j,l⟩ ⟨h1,hon⟩
 simp only at h1 hon ⊢
 have hf:=hf0.on hon
 have hl:=hon.len
 unfold kT
 by_cases q:j<b
 ·cases hc:lt (gz d l j) (gz d l (j-1)) with
  | true =>
    left
    refine ⟨(j+1,sw d l j (j-1)), ?_,⟨by simp only;omega,.step hon j (j-1) (by omega) (by omega) (by omega) (by omega) hi (by omega)⟩,by simp only;omega⟩
    simp (disch:=first | omega | (simp only [List.length_set];omega) | (refine hf.all _ ?_ ?_ <;> omega)) only [q,decide_true,if_true,bF,aR,jF d,Option.bind_some,hbr,hc,Bool.not_true,Bool.false_eq_true,if_false]
    rfl
  | false =>
    right
    refine ⟨l, ?_,hon⟩
    simp (disch:=first | omega | (refine hf.all _ ?_ ?_ <;> omega)) only [q,decide_true,if_true,bF,jF d,Option.bind_some,hbr,hc,Bool.not_false]
 ·right
  exact ⟨l,by simp only [q,decide_false,Bool.false_eq_true,if_false],hon⟩
include w
theorem ED {a b i:Int} {l0:List α} (ha:0≤a) (hi:a<i) (hib:i≤b) (hb:b≤l0.length) (hf0:Gf P d l0) (hpre:0<a→∀ k,a≤k→k<b→lt (gz d l0 k) (gz d l0 (a-1))=false) (h0:Asc d lt a (i-1) l0) :
  ∃ l',aM (kU br) (i-1,l0)=some l'∧On d a i l0 l'∧Asc d lt a i l':=by
 have hL:=hf0.len
 refine nD (fun s:Int×List α=>(s.1-a).toNat) (fun s:Int×List α=>a≤s.1∧s.1≤i-1∧On d a i l0 s.2∧∀ p q:Int,a≤p→p<q→q≤i-1→q≠s.1→lt (gz d s.2 q) (gz d s.2 p)=false)
  (fun l'=>On d a i l0 l'∧Asc d lt a i l') (kU br) ?_ (i-1,l0) ⟨by simp only;omega,Int.le_refl _,.refl _,fun p q h1 h2 h3 h4=>h0 p q h1 h2 (by simp only at h4;omega)⟩
 rintro ⟨j,l⟩ ⟨h1,h2,hon,hI⟩
 simp only at h1 h2 hon hI ⊢
 have hf:=hf0.on hon
 have hl:=hon.len
 have stop:(j=a∨lt (gz d l j) (gz d l (j-1))=false)→Asc d lt a i l:=fun hs p q p1 p2 p3=>by
  by_cases e1:q=j
  ·subst e1
   rcases hs with hs | hs
   ·omega
   ·by_cases e2:p=q-1
    ·subst e2;exact hs
    ·exact w.le_trans (hI p (q-1) p1 (by omega) (by omega) (by omega)) hs
  ·exact hI p q p1 p2 (by omega) e1
 unfold kU
 by_cases hj:j ≥ 1
 ·cases hc:lt (gz d l j) (gz d l (j-1)) with
  | false =>
    right
    refine ⟨l, ?_,hon,stop (.inr hc)⟩
    simp (disch:=first | omega | (refine hf.all _ ?_ ?_ <;> omega)) only [hj,decide_true,if_true,bF,jF d,Option.bind_some,hbr,hc,Bool.not_false]
  | true =>
    have hja:a<j:=by
     rcases Int.lt_or_le a j with q | q
     ·exact q
     ·exfalso
      obtain rfl:j=a:=by omega
      have e:gz d l (j-1)=gz d l0 (j-1):=hon.out d (by omega) (.inl (by omega))
      have:=hon.all d (fun x=>lt x (gz d l0 (j-1))=false) (fun k k1 k2=>hpre (by omega) k k1 (by omega)) j (Int.le_refl _) hi
      rw [e,this] at hc;cases hc
    left
    refine ⟨(j-1,sw d l j (j-1)), ?_,⟨by simp only;omega,by simp only;omega,.step hon j (j-1) (by omega) (by omega) (by omega) (by omega) ha (by omega), ?_⟩,by simp only;omega⟩
    ·simp (disch:=first | omega | (simp only [List.length_set];omega) | (refine hf.all _ ?_ ?_ <;> omega)) only [hj,decide_true,if_true,bF,jF d,Option.bind_some,hbr,hc,Bool.not_true,Bool.false_eq_true,if_false]
     rfl
    ·simp only
     intro p q p1 p2 p3 p4
     rw [rM d (by omega) (by omega) (by omega) (by omega) (by omega),rM d (by omega) (by omega) (by omega) (by omega) (by omega)]
     rw [if_neg p4]
     by_cases e1:q=j
     ·rw [if_pos e1]
      by_cases e2:p=j-1
      ·rw [if_pos e2];exact w.asymm _ _ hc
      ·rw [if_neg e2,if_neg (by omega)]
       exact hI p (j-1) (by omega) (by omega) (by omega) (by omega)
     ·rw [if_neg e1]
      by_cases e2:p=j-1
      ·rw [if_pos e2];exact hI j q (by omega) (by omega) p3 e1
      ·rw [if_neg e2]
       by_cases e3:p=j
       ·rw [if_pos e3];exact hI (j-1) q (by omega) (by omega) p3 e1
       ·rw [if_neg e3];exact hI p q p1 p2 p3 e1
 ·right
  refine ⟨l,by simp only [hj,decide_false,Bool.false_eq_true,if_false],hon,stop (.inl (by omega))⟩
theorem Zl {a b:Int} {l0:List α} (ha:0≤a) (hab:a<b) (hb:b≤l0.length) (hf0:Gf P d l0) (hpre:0<a→∀ k,a≤k→k<b→lt (gz d l0 k) (gz d l0 (a-1))=false) :
  ∃ r l',tC br a b l0=some (r,l')∧On d a b l0 l'∧(r=true→Asc d lt a b l'):=by
 have hL:=hf0.len
 have s1:aI b a=b-a:=bF (by omega) (by omega)
 have s2:aJ a 1=a+1:=aR (by omega) (by omega)
 obtain ⟨r,r1,r2⟩:=nD (fun s:Int×Int×List α=>(5-s.2.1).toNat) (fun s:Int×Int×List α=>a+1≤s.1∧s.1≤b∧0≤s.2.1∧On d a b l0 s.2.2∧Asc d lt a s.1 s.2.2)
  (fun r:Bool×List α ⊕ List α=>match r with | .inl x=>On d a b l0 x.2∧(x.1=true→Asc d lt a b x.2) | .inr l=>On d a b l0 l) (pZ br a b) (by
  rintro ⟨i,c,l⟩ ⟨i1,i2,i3,hon,hA⟩
  simp only at i1 i2 i3 hon hA ⊢
  have hf:=hf0.on hon
  have hl:=hon.len
  unfold pZ
  by_cases hc5:c<5
  case neg =>
   right
   exact ⟨.inr l,by simp only [hc5,decide_false,Bool.false_eq_true,if_false],hon⟩
  obtain ⟨x,x1,x2,x3,x4,x5⟩:=Qu (body:=kS br b (i,c,l)) (fun k=>!lt (gz d l k) (gz d l (k-1))) (i:=i) (j:=b-1) (by omega) (fun s q1 q2=>by
   unfold kS
   simp (disch:=first | omega | (refine hf.all _ ?_ ?_ <;> omega)) only [show s<b from by omega,decide_true,if_true,jF d,Option.bind_some,hbr,aR,bF]) (by
   unfold kS
   simp only [show ¬ b-1+1<b from by omega,decide_false,Bool.false_eq_true,if_false,Option.bind_some])
  have hAx:Asc d lt a x l:=by
   have:∀ n:Nat,∀ y,y≤x→y≤i+n→Asc d lt a y l:=by
    intro n
    induction n with
    | zero=>intro y _ y2 p q p1 p2 p3;exact hA p q p1 p2 (by omega)
    | succ n ih =>
      intro y y1 y2
      by_cases e:y≤i+n
      ·exact ih y y1 e
      ·have h0:=ih (y-1) (by omega) (by omega)
       have h1:=x4 (y-1) (by omega) (by omega)
       simp only [Bool.not_eq_eq_eq_not,Bool.not_true] at h1
       intro p q p1 p2 p3
       by_cases e1:q=y-1
       ·subst e1
        by_cases e2:p=y-1-1
        ·subst e2;exact h1
        ·exact w.le_trans (h0 p (y-1-1) p1 (by omega) (by omega)) h1
       ·exact h0 p q p1 p2 (by omega)
   exact this (x-i).toNat x (Int.le_refl _) (by omega)
  simp only [hc5,decide_true,if_true,x1,Option.bind_some]
  by_cases hxb:x=b
  ·right
   refine ⟨.inl (true,l),by simp only [hxb,beq_self_eq_true,if_true],hon,fun _=>?_⟩
   simp only;rw [← hxb];exact hAx
  have hbx:(x==b)=false:=by simp [hxb]
  simp only [hbx,Bool.false_eq_true,if_false,s1]
  by_cases h50:b-a<50
  ·right
   exact ⟨.inl (false,l),by simp only [h50,decide_true,if_true],hon,fun q=>by cases q⟩
  left
  have e1:aI x 1=x-1:=bF (by omega) (by omega)
  have e2:aI x a=x-a:=bF (by omega) (by omega)
  have e3:aI b x=b-x:=bF (by omega) (by omega)
  have e4:aJ x 1=x+1:=aR (by omega) (by omega)
  have e5:aJ c 1=c+1:=aR (by omega) (by omega)
  obtain ⟨l1,hl1⟩:∃ l1,sw d l x (x-1)=l1:=⟨_,rfl⟩
  have e6:List.set (List.set l (Int.toNat x) (gz d l (x-1))) (Int.toNat (x-1)) (gz d l x)=l1:=hl1
  have hon1:On d a b l0 l1:=hl1 ▸ .step hon x (x-1) (by omega) (by omega) (by omega) (by omega) ha (by omega)
  have hl1':=hon1.len
  have hf1:=hf0.on hon1
  have hpre1:0<a→∀ k,a≤k→k<b→lt (gz d l1 k) (gz d l1 (a-1))=false:=fun h k k1 k2=>by
   rw [hon1.out d (k:=a-1) (by omega) (.inl (by omega))]
   exact hon1.all d (fun y=>lt y (gz d l0 (a-1))=false) (fun k k1 k2=>hpre h k k1 k2) k k1 k2
  have hA1:Asc d lt a (x-1) l1:=fun p q p1 p2 p3=>by
   rw [← hl1,rM d (by omega) (by omega) (by omega) (by omega) (by omega),rM d (by omega) (by omega) (by omega) (by omega) (by omega),if_neg (by omega),if_neg (by omega),if_neg (by omega),if_neg (by omega)]
   exact hAx p q p1 p2 (by omega)
  -- behind the shift to the left
  have right_:∀ l2,On d a b l0 l2→Asc d lt a x l2→∃ l3,kR br b (i,c,l) x l2=some (.inl (x,c+1,l3))∧On d a b l0 l3∧Asc d lt a x l3:=fun l2 o2 a2=>by
   have hl2:=o2.len
   unfold kR pY
   by_cases q:b-x ≥ 2
   ·obtain ⟨l3,t1,t2⟩:=EE hbr (i:=x) (b:=b) (l0:=l2) (by omega) (by omega) (by omega) (hf0.on o2)
    refine ⟨l3, ?_,o2.trans d (t2.mono d ha (by omega) (Int.le_refl _) (by omega)),fun p q p1 p2 p3=>?_⟩
    ·simp only [e3,q,decide_true,if_true,e4,t1,Option.bind_some,e5]
    ·rw [t2.out d (by omega) (.inl (by omega)),t2.out d (by omega) (.inl (by omega))]
     exact a2 p q p1 p2 p3
   ·exact ⟨l2,by simp only [e3,q,decide_false,Bool.false_eq_true,if_false,e5],o2,a2⟩
  simp (disch:=first | omega | (simp only [List.length_set];omega)) only [h50,decide_false,Bool.false_eq_true,if_false,e1,e2,jF d,Option.bind_some,e6]
  by_cases h2:x-a ≥ 2
  ·obtain ⟨l2,t1,t2,t3⟩:=ED hbr w (a:=a) (b:=b) (i:=x) ha (by omega) (by omega) (by omega) hf1 hpre1 hA1
   obtain ⟨l3,u1,u2,u3⟩:=right_ l2 (hon1.trans d (t2.mono d ha (Int.le_refl _) (by omega) (by omega))) t3
   refine ⟨(x,c+1,l3), ?_,⟨by simp only;omega,by simp only;omega,by simp only;omega,u2,u3⟩,by simp only;omega⟩
   simp only [h2,decide_true,if_true,t1,Option.bind_some,u1]
  ·obtain ⟨l3,u1,u2,u3⟩:=right_ l1 hon1 (fun p q p1 p2 p3=>by omega)
   refine ⟨(x,c+1,l3), ?_,⟨by simp only;omega,by simp only;omega,by simp only;omega,u2,u3⟩,by simp only;omega⟩
   simp only [h2,decide_false,Bool.false_eq_true,if_false,u1]) (a+1,0,l0) ⟨by simp only;omega,by simp only;omega,by simp only;omega,.refl _,fun p q p1 p2 p3=>by simp only at p3;omega⟩
 unfold tC
 rw [s2,r1,Option.bind_some]
 cases r with
 | inl x=>exact ⟨x.1,x.2,rfl,r2.1,r2.2⟩
 | inr l=>exact ⟨false,l,rfl,r2,fun q=>by cases q⟩
end
def Out {α:Type} (d:α) (lt:α→α→Bool) (a0 b0 a b:Int) (l:List α):Prop:=∀ p q:Int,a0≤p→p<q→q<b0→(p<a∨b≤q)→lt (gz d l q) (gz d l p)=false
def Pre {α:Type} (d:α) (lt:α→α→Bool) (a b:Int) (l:List α):Prop:=0<a→∀ k,a≤k→k<b→lt (gz d l k) (gz d l (a-1))=false
section
variable {α:Type} {br:Br α} {lt:α→α→Bool} {P:α→Prop} {d:α} (hbr:∀ (β:Type) (x y:α) (k:Bool→Option β),P x→P y→br β x y k=k (lt x y)) (w:Ob lt)
theorem Sk {a0 b0 a b:Int} {l l':List α} (h:Out d lt a0 b0 a b l) (ho:On d a b l l') (h0:0≤a0) (h1:a0≤a) (h2:b≤b0):Out d lt a0 b0 a b l':=by
 intro p q p1 p2 p3 p4
 by_cases hp:a≤p∧p<b
 ·rw [ho.out d (k:=q) (by omega) (.inr (by omega))]
  exact ho.all d (fun x=>lt (gz d l q) x=false) (fun k k1 k2=>h k q (by omega) (by omega) p3 (.inr (by omega))) p hp.1 hp.2
 ·rw [ho.out d (k:=p) (by omega) (by omega)]
  by_cases hq:a≤q∧q<b
  ·exact ho.all d (fun x=>lt x (gz d l p)=false) (fun k k1 k2=>h p k p1 (by omega) (by omega) (.inl (by omega))) q hq.1 hq.2
  ·rw [ho.out d (k:=q) (by omega) (by omega)]
   exact h p q p1 p2 p3 p4
theorem JR {a0 b0 a b:Int} {l:List α} (h:Out d lt a0 b0 a b l) (ha:Asc d lt a b l):Asc d lt a0 b0 l:=by
 intro p q p1 p2 p3
 by_cases e:p<a∨b≤q
 ·exact h p q p1 p2 p3 e
 ·exact ha p q (by omega) p2 (by omega)
theorem Zo {a0 b0 a b:Int} {l0 l:List α} (hp:Pre d lt a0 b0 l0) (h0:0≤a0) (h1:a0≤a) (h2:b≤b0) (ho:On d a0 b0 l0 l) (h:Out d lt a0 b0 a b l):Pre d lt a b l:=by
 intro hpos k k1 k2
 by_cases e:a=a0
 ·subst e
  rw [ho.out d (k:=a-1) (by omega) (.inl (by omega))]
  exact ho.all d (fun x=>lt x (gz d l0 (a-1))=false) (fun k k1 k2=>hp hpos k k1 k2) k k1 (by omega)
 ·exact h (a-1) k (by omega) (by omega) (by omega) (.inl (by omega))
theorem pre_on {a b:Int} {l l':List α} (hp:Pre d lt a b l) (h0:0≤a) (ho:On d a b l l'):Pre d lt a b l':=Zo (a0:=a) (b0:=b) hp h0 (Int.le_refl _) (Int.le_refl _) ho fun p q p1 p2 p3 p4=>absurd p4 (by omega)
include hbr w
theorem Xl {self:Int→Int→Int→List α→Option (List α)} {N:Int}
  (hself:∀ (a b limit:Int) (l:List α),0≤a→a≤b→b≤l.length→Gf P d l→Pre d lt a b l→b-a<N→∃ l',self a b limit l=some l'∧On d a b l l'∧Asc d lt a b l')
  {a0 b0 limit:Int} {l0:List α} (h0:0≤a0) (hab:a0≤b0) (hb:b0≤l0.length) (hf0:Gf P d l0) (hpre:Pre d lt a0 b0 l0) (hN:b0-a0≤12∨b0-a0<2*N) :
  ∃ l',aM (By br self) (a0,b0,limit,true,true,l0)=some l'∧On d a0 b0 l0 l'∧Asc d lt a0 b0 l':=by
 have hL:=hf0.len
 refine nD (fun s:Int×Int×Int×Bool×Bool×List α=>(s.2.1-s.1).toNat) (fun s:Int×Int×Int×Bool×Bool×List α=>a0≤s.1∧s.1≤s.2.1∧s.2.1≤b0∧On d a0 b0 l0 s.2.2.2.2.2∧Out d lt a0 b0 s.1 s.2.1 s.2.2.2.2.2)
  (fun l'=>On d a0 b0 l0 l'∧Asc d lt a0 b0 l') (By br self) ?_ (a0,b0,limit,true,true,l0) ⟨Int.le_refl _,hab,Int.le_refl _,.refl _,fun p q p1 p2 p3 p4=>absurd p4 (by simp only;omega)⟩
 rintro ⟨a,b,lim,wb,wp,l⟩ ⟨i1,i2,i3,hon,hout⟩
 simp only at i1 i2 i3 hon hout ⊢
 have hf:=hf0.on hon
 have hl:=hon.len
 have s1:aI b a=b-a:=bF (by omega) (by omega)
 -- what ends it
 have fin:∀ l',On d a b l l'→Asc d lt a b l'→On d a0 b0 l0 l'∧Asc d lt a0 b0 l':=fun l' o as =>
  ⟨hon.trans d (o.mono d h0 i1 i3 (by omega)),JR (Sk hout o h0 i1 i3) as⟩
 unfold By
 simp only [s1]
 by_cases h12:b-a≤12
 ·right
  obtain ⟨l',t1,t2,t3⟩:=Od hbr w (a:=a) (b:=b) (l0:=l) (by omega) i2 (by omega) hf
  exact ⟨l',by simp only [h12,decide_true,if_true,t1,Option.bind_some],fin l' t2 t3⟩
 simp only [h12,decide_false,Bool.false_eq_true,if_false]
 by_cases hz:lim=0
 ·right
  obtain ⟨l',t1,t2,t3⟩:=Wy hbr w (a:=a) (b:=b) (l0:=l) (by omega) i2 (by omega) hf
  exact ⟨l',by simp only [hz,beq_self_eq_true,if_true,t1,Option.bind_some],fin l' t2 t3⟩
 have hz':(lim==0)=false:=by simp [hz]
 simp only [hz',Bool.false_eq_true,if_false]
 have hN':b-a<2*N:=by omega
 -- the partition
 have k1 : ∀ (j127:Int×List α) (pivot hint:Int) (lx:List α) (wb' wp':Bool) (l1:List α),On d a b l l1→a≤pivot→pivot<b →
   (∃ s',xF br self (a,b,lim,wb,wp,l) j127 (pivot,hint,lx) (wb',wp',l1)=some (.inl s')∧(a0≤s'.1∧s'.1≤s'.2.1∧s'.2.1≤b0∧On d a0 b0 l0 s'.2.2.2.2.2∧Out d lt a0 b0 s'.1 s'.2.1 s'.2.2.2.2.2)∧(s'.2.1-s'.1).toNat<(b-a).toNat) ∨
   (∃ r,xF br self (a,b,lim,wb,wp,l) j127 (pivot,hint,lx) (wb',wp',l1)=some (.inr r)∧On d a0 b0 l0 r∧Asc d lt a0 b0 r):=by
  intro j127 pivot hint lx wb' wp' l1 o1 v1 v2
  left
  have hl1:=o1.len
  have hf1:=hf.on o1
  have hon1:On d a0 b0 l0 l1:=hon.trans d (o1.mono d h0 i1 i3 (by omega))
  have hout1:=Sk hout o1 h0 i1 i3
  have hpre1:Pre d lt a b l1:=Zo hpre h0 i1 i3 hon1 hout1
  have part:∃ s',((Dc br a b pivot l1).bind fun r162=>if (decide ((aI r162.1 a)<(aI b r162.1))) then ((self a r162.1 j127.1 r162.2.2).bind fun r164=>some (.inl ((aJ r162.1 1),b,j127.1,(decide ((aI r162.1 a) ≥ (pH (aI b a) 8))),r162.2.1,r164))) else ((self (aJ r162.1 1) b j127.1 r162.2.2).bind fun r166=>some (Sum.inl (β:=List α) (a,r162.1,j127.1,(decide ((aI b r162.1) ≥ (pH (aI b a) 8))),r162.2.1,r166))))=some (.inl s') ∧
    (a0≤s'.1∧s'.1≤s'.2.1∧s'.2.1≤b0∧On d a0 b0 l0 s'.2.2.2.2.2∧Out d lt a0 b0 s'.1 s'.2.1 s'.2.2.2.2.2)∧(s'.2.1-s'.1).toNat<(b-a).toNat:=by
   obtain ⟨mid,al,l2,t1,t2,t3,t4,t5,t6⟩:=Vs hbr (a:=a) (b:=b) (pivot:=pivot) (l0:=l1) (by omega) (by omega) (by omega) hf1 v1 v2
   have hl2:=t2.len
   have hf2:=hf1.on t2
   have hon2:On d a0 b0 l0 l2:=hon1.trans d (t2.mono d h0 i1 i3 (by omega))
   have hout2:=Sk hout1 t2 h0 i1 i3
   have hpre2:Pre d lt a b l2:=pre_on hpre1 (by omega) t2
   -- all pairs that are not both on one side
   have ord:∀ p q:Int,a0≤p→p<q→q<b0→(p<a∨b≤q∨(p≤mid∧mid≤q))→lt (gz d l2 q) (gz d l2 p)=false:=fun p q p1 p2 p3 p4=>by
    by_cases e:p<a∨b≤q
    ·exact hout2 p q p1 p2 p3 e
    ·by_cases ep:p=mid
     ·subst ep;exact t6 q (by omega) (by omega)
     ·have hp:=w.asymm _ _ (t5 p (by omega) (by omega))
      by_cases eq:q=mid
      ·subst eq;exact hp
      ·exact w.le_trans hp (t6 q (by omega) (by omega))
   have e1:aI mid a=mid-a:=bF (by omega) (by omega)
   have e2:aI b mid=b-mid:=bF (by omega) (by omega)
   have e3:aJ mid 1=mid+1:=aR (by omega) (by omega)
   simp only [t1,Option.bind_some,e1,e2,e3]
   by_cases hlr:mid-a<b-mid
   ·obtain ⟨l3,u1,u2,u3⟩:=hself a mid j127.1 l2 (by omega) t3 (by omega) hf2 (fun hpos k k1 k2=>hpre2 hpos k k1 (by omega)) (by omega)
    simp only [hlr,decide_true,if_true,u1,Option.bind_some]
    refine ⟨_,rfl,⟨by simp only;omega,by simp only;omega,i3,hon2.trans d (u2.mono d h0 i1 (by omega) (by omega)), ?_⟩,by simp only;omega⟩
    intro p q p1 p2 p3 p4
    simp only at p4 ⊢
    by_cases hp:a≤p∧p<mid
    ·by_cases hq:q<mid
     ·exact u3 p q hp.1 p2 hq
     ·rw [u2.out d (k:=q) (by omega) (.inr (by omega))]
      exact u2.all d (fun x=>lt (gz d l2 q) x=false) (fun k k1 k2=>ord k q (by omega) (by omega) p3 (by omega)) p hp.1 hp.2
    ·rw [u2.out d (k:=p) (by omega) (by omega)]
     by_cases hq:a≤q∧q<mid
     ·exact u2.all d (fun x=>lt x (gz d l2 p)=false) (fun k k1 k2=>ord p k p1 (by omega) (by omega) (by omega)) q hq.1 hq.2
     ·rw [u2.out d (k:=q) (by omega) (by omega)]
      exact ord p q p1 p2 p3 (by omega)
   ·obtain ⟨l3,u1,u2,u3⟩:=hself (mid+1) b j127.1 l2 (by omega) (by omega) (by omega) hf2 (fun hpos k k1 k2=>by
     rw [show mid+1-1=mid from by omega]
     exact t6 k (by omega) k2) (by omega)
    simp only [hlr,decide_false,Bool.false_eq_true,if_false,u1,Option.bind_some]
    refine ⟨_,rfl,⟨i1,t3,by simp only;omega,hon2.trans d (u2.mono d h0 (by omega) i3 (by omega)), ?_⟩,by simp only;omega⟩
    intro p q p1 p2 p3 p4
    simp only at p4 ⊢
    by_cases hp:mid+1≤p∧p<b
    ·by_cases hq:q<b
     ·exact u3 p q hp.1 p2 hq
     ·rw [u2.out d (k:=q) (by omega) (.inr (by omega))]
      exact u2.all d (fun x=>lt (gz d l2 q) x=false) (fun k k1 k2=>ord k q (by omega) (by omega) p3 (by omega)) p hp.1 hp.2
    ·rw [u2.out d (k:=p) (by omega) (by omega)]
     by_cases hq:mid+1≤q∧q<b
     ·exact u2.all d (fun x=>lt x (gz d l2 p)=false) (fun k k1 k2=>ord p k p1 (by omega) (by omega) (by omega)) q hq.1 hq.2
     ·rw [u2.out d (k:=q) (by omega) (by omega)]
      exact ord p q p1 p2 p3 (by omega)
  unfold xF
  by_cases hpos:a>0
  ·cases hc:lt (gz d l1 (a-1)) (gz d l1 pivot) with
   | true =>
     simp (disch:=first | omega | (refine hf1.all _ ?_ ?_ <;> omega)) only [hpos,decide_true,if_true,bF,jF d,Option.bind_some,hbr,hc,Bool.not_true,Bool.false_eq_true,if_false]
     simpa only [s1] using part
   | false =>
     obtain ⟨mid,l2,t1,t2,t3,t4,t5⟩:=Nv hbr (a:=a) (b:=b) (pivot:=pivot) (l0:=l1) (by omega) (by omega) (by omega) hf1 v1 v2 w.irrefl
     refine ⟨(mid,b,j127.1,wb',wp',l2), ?_,⟨by simp only;omega,t4,i3,hon1.trans d (t2.mono d h0 i1 i3 (by omega)), ?_⟩,by simp only;omega⟩
     ·simp (disch:=first | omega | (refine hf1.all _ ?_ ?_ <;> omega)) only [hpos,decide_true,if_true,bF,jF d,Option.bind_some,hbr,hc,Bool.not_false,t1]
     ·have hout2:=Sk hout1 t2 h0 i1 i3
      have hpre2:Pre d lt a b l2:=pre_on hpre1 (by omega) t2
      have hl2:=t2.len
      intro p q p1 p2 p3 p4
      simp only at p4 ⊢
      by_cases e:p<a∨b≤q
      ·exact hout2 p q p1 p2 p3 e
      ·have hp:=t5 p (by omega) (by omega)
       have hq:=hpre2 hpos q (by omega) (by omega)
       rw [t2.out d (k:=a-1) (by omega) (.inl (by omega))] at hq
       cases hlt:lt (gz d l2 q) (gz d l2 p) with
       | false=>rfl
       | true =>
         rcases w.neg _ (gz d l1 pivot) _ hlt with r | r
         ·rcases w.neg _ (gz d l1 (a-1)) _ r with r | r
          ·rw [hq] at r;cases r
          ·rw [hc] at r;cases r
         ·rw [hp] at r;cases r
  ·simp only [hpos,decide_false,Bool.false_eq_true,if_false,Option.bind_some]
   simpa only [s1] using part
 have k2:∀ (j127:Int×List α) (pivot hint:Int) (l1:List α),On d a b l l1→a≤pivot→pivot<b →
   (∃ s',xG br self (a,b,lim,wb,wp,l) j127 (pivot,hint,l1)=some (.inl s')∧(a0≤s'.1∧s'.1≤s'.2.1∧s'.2.1≤b0∧On d a0 b0 l0 s'.2.2.2.2.2∧Out d lt a0 b0 s'.1 s'.2.1 s'.2.2.2.2.2)∧(s'.2.1-s'.1).toNat<(b-a).toNat) ∨
   (∃ r,xG br self (a,b,lim,wb,wp,l) j127 (pivot,hint,l1)=some (.inr r)∧On d a0 b0 l0 r∧Asc d lt a0 b0 r):=by
  intro j127 pivot hint l1 o1 v1 v2
  unfold xG
  obtain ⟨c,hc⟩:∃ c:Bool×Bool×Bool,(if wb then (if wp then (some (true,true,(hint==1))) else (some (true,false,false))) else (some (false,wp,false)))=some c:=by
   cases wb <;> cases wp <;> exact ⟨_,rfl⟩
  simp only [hc,Option.bind_some]
  cases hc2:c.2.2 with
  | false =>
    simp only [Bool.false_eq_true,if_false]
    exact k1 _ _ _ _ _ _ _ o1 v1 v2
  | true =>
    have hl1:=o1.len
    have hon1:On d a0 b0 l0 l1:=hon.trans d (o1.mono d h0 i1 i3 (by omega))
    have hpre1:Pre d lt a b l1:=Zo hpre h0 i1 i3 hon1 (Sk hout o1 h0 i1 i3)
    obtain ⟨r,l2,t1,t2,t3⟩:=Zl hbr w (a:=a) (b:=b) (l0:=l1) (by omega) (by omega) (by omega) (hf.on o1) hpre1
    simp only [if_true,t1,Option.bind_some]
    cases hr:r with
    | true =>
      right
      simp only [if_true]
      exact ⟨l2,rfl,fin l2 (o1.trans d t2) (t3 hr)⟩
    | false =>
      simp only [Bool.false_eq_true,if_false]
      exact k1 _ _ _ _ _ _ _ (o1.trans d t2) v1 v2
 have k3:∀ (lim':Int) (l1:List α),On d a b l l1 →
   (∃ s',xH br self (a,b,lim,wb,wp,l) (lim',l1)=some (.inl s')∧(a0≤s'.1∧s'.1≤s'.2.1∧s'.2.1≤b0∧On d a0 b0 l0 s'.2.2.2.2.2∧Out d lt a0 b0 s'.1 s'.2.1 s'.2.2.2.2.2)∧(s'.2.1-s'.1).toNat<(b-a).toNat) ∨
   (∃ r,xH br self (a,b,lim,wb,wp,l) (lim',l1)=some (.inr r)∧On d a0 b0 l0 r∧Asc d lt a0 b0 r):=by
  intro lim' l1 o1
  have hl1:=o1.len
  unfold xH
  obtain ⟨pv,h,t1,t2,t3⟩:=CN hbr (l:=l1) (hf.on o1) (a:=a) (b:=b) (by omega) (by omega) (by omega)
  simp only [t1,Option.bind_some]
  by_cases h2:h=2
  ·obtain ⟨l2,u1,u2⟩:=Zs (br:=br) (d:=d) (a:=a) (b:=b) (l0:=l1) (by omega) (by omega) (by omega) i2
   have e1:aI b 1=b-1:=bF (by omega) (by omega)
   have e2:aI pv a=pv-a:=bF (by omega) (by omega)
   have e3:aI (b-1) (pv-a)=b-1-(pv-a):=bF (by omega) (by omega)
   simp only [h2,beq_self_eq_true,if_true,u1,Option.bind_some,e1,e2,e3]
   exact k2 _ _ _ _ (o1.trans d u2) (by omega) (by omega)
  ·have:(h==2)=false:=by simp [h2]
   simp only [this,Bool.false_eq_true,if_false]
   exact k2 _ _ _ _ o1 t2 t3
 cases hwb:wb with
 | false =>
   obtain ⟨l1,t1,t2⟩:=FB (br:=br) (d:=d) (a:=a) (b:=b) (l0:=l) (by omega) (by omega) (by omega) i2
   simp only [Bool.not_false,if_true,t1,Option.bind_some]
   have:=k3 (aI lim 1) l1 t2
   rw [hwb] at this
   exact this
 | true =>
   simp only [Bool.not_true,Bool.false_eq_true,if_false]
   have:=k3 lim l (.refl _)
   rw [hwb] at this
   exact this
theorem HI:∀ (n:Nat) (a b limit:Int) (l:List α),0≤a→a≤b→b≤l.length→Gf P d l→Pre d lt a b l→b-a<2^n→∃ l',rL br (n+1) a b limit l=some l'∧On d a b l l'∧Asc d lt a b l'
 | 0,a,b,limit,l,h0,hab,hb,hf,hp,hn=>by
   obtain ⟨l',t1,t2,t3⟩:=Xl hbr w (self:=rL br 0) (N:=0) (fun a b limit l h1 h2 _ _ _ h3=>by omega) (limit:=limit) h0 hab hb hf hp (.inl (by omega))
   refine ⟨l', ?_,t2,t3⟩
   show uC br (rL br 0) a b limit l=some l'
   unfold uC
   rw [t1];rfl
 | n+1,a,b,limit,l,h0,hab,hb,hf,hp,hn=>by
   obtain ⟨l',t1,t2,t3⟩:=Xl hbr w (self:=rL br (n+1)) (N:=2^n) (fun a b limit l h1 h2 h3 h4 h5 h6=>HI n a b limit l h1 h2 h3 h4 h5 h6) (limit:=limit) h0 hab hb hf hp (.inr (by rw [Int.pow_succ] at hn;omega))
   refine ⟨l', ?_,t2,t3⟩
   show uC br (rL br (n+1)) a b limit l=some l'
   unfold uC
   rw [t1];rfl
theorem KY (m:Nat) (hm:31≤m) {l:List α} (hf:Gf P d l) (v:Int):∃ l',rL br (m+1) 0 (l.length:Int) v l=some l'∧On d 0 (l.length:Int) l l'∧Asc d lt 0 (l.length:Int) l':=by
 have hL:=hf.len
 refine HI hbr w m 0 (l.length:Int) v l (Int.le_refl _) (by omega) (Int.le_refl _) hf (fun h=>absurd h (by omega)) ?_
 have h1:(2147483648:Nat)≤2^m:=Nat.le_trans (by decide:2147483648≤2^31) (Nat.pow_le_pow_right (by omega) hm)
 have h3:((2:Int)^m)=((2^m:Nat):Int):=by simp
 rw [h3]
 omega
theorem Pp {l:List α} (hf:Gf P d l):∃ l',Gb br l=some l'∧l'.Perm l∧l'.Pairwise fun x y=>lt y x=false:=by
 have hL:=hf.len
 obtain ⟨v,v1,_⟩:=GN (x:=(l.length:Int)) (by omega) hL
 obtain ⟨l',t1,t2,t3⟩:=KY hbr w 999 (by omega) hf v
 refine ⟨l', ?_,t2.perm, ?_⟩
 ·unfold Gb Rt
  rw [v1,Option.bind_some,t1];rfl
 ·have hl:=t2.len
  rw [List.pairwise_iff_getElem]
  intro i j hi hj hij
  have:=t3 (i:Int) (j:Int) (by omega) (by omega) (by omega)
  unfold gz at this
  rw [List.getD_eq_getElem?_getD,List.getD_eq_getElem?_getD,Int.toNat_natCast,Int.toNat_natCast,List.getElem?_eq_getElem hi,List.getElem?_eq_getElem hj] at this
  exact this
end
def Bw {α:Type} (a1:Int×Int×(List α)):Int×(List α)→Option (Int×Int×(List α) ⊕ Int×(List α)):=fun a0 =>
 some (.inl (a0.1,(aJ a1.2.1 1),a0.2))
def Bx {α:Type} (eqb:α→α→Bool) (h0:(List α)) (a1:Int):Int×Int×(List α)→Option (Int×Int×(List α) ⊕ Int×(List α)):=fun a0 =>
 if (decide (a0.2.1<((Int.toNat (h0.length:Int)-Int.toNat a1:Nat):Int))) then ((idx (List.take (Int.toNat (h0.length:Int)-Int.toNat a1) (List.drop (Int.toNat a1) a0.2.2)) a0.2.1).bind fun a2=>(idx (List.take (Int.toNat (h0.length:Int)-Int.toNat a1) (List.drop (Int.toNat a1) a0.2.2)) (aI a0.2.1 1)).bind fun a3=>if (!(eqb a2 a3)) then ((idx (List.take (Int.toNat (h0.length:Int)-Int.toNat a1) (List.drop (Int.toNat a1) a0.2.2)) a0.2.1).bind fun a4=>(idx a0.2.2 a0.1).bind fun a5=>Bw a0 ((aJ a0.1 1),(List.set a0.2.2 (Int.toNat a0.1) a4))) else (Bw a0 (a0.1,a0.2.2))) else (some (.inr (a0.1,a0.2.2)))
def Gm {α:Type} (eqb:α→α→Bool) (z:α) (h0:(List α)):Int→Option (Int ⊕ ((List α) ⊕ Unit)):=fun a1 =>
 if (decide (a1<(h0.length:Int))) then ((idx h0 a1).bind fun a3=>(idx h0 (aI a1 1)).bind fun a4=>if (eqb a3 a4) then (if (decide ((0:Int)≤a1)&&(decide (a1≤(h0.length:Int))&&decide ((h0.length:Int)≤(h0.length:Int)))) then ((aM (Bx eqb h0 a1) (a1,1,h0)).bind fun a0=>if (decide ((0:Int)≤a0.1)&&(decide (a0.1≤(a0.2.length:Int))&&decide ((a0.2.length:Int)≤(a0.2.length:Int)))) then ((slc (cpy a0.2 (Int.toNat a0.1) (List.replicate (Int.toNat (a0.2.length:Int)-Int.toNat a0.1) z)) 0 a0.1).bind fun a2=>some (.inr (.inl a2))) else none) else none) else (some (.inl (aJ a1 1)))) else (some (.inr (.inr (()))))
def Mf {α:Type} (eqb:α→α→Bool) (z:α) (h0:(List α)):Option ((List α)):=
 if (decide ((h0.length:Int)<2)) then (some h0) else ((aM (Gm eqb z h0) 1).bind fun a1=>match a1 with | .inl a0=>some a0 | .inr a2=>some h0)
section
variable {α:Type} {lt:α→α→Bool} (w:Ob lt) (tri:∀ x y,lt x y=false→lt y x=false→x=y) {eqb:α→α→Bool} (heq:∀ x y,eqb x y=true↔x=y) (z:α)
include w tri
theorem Po {r:List α} {y x:α} (hr:(r++[y]).Pairwise fun a b=>lt a b=true) (hy:lt x y=false) (hne:x≠y):(r++[y]++[x]).Pairwise fun a b=>lt a b=true:=by
 have hyx:lt y x=true:=by
  cases h:lt y x with
  | true=>rfl
  | false=>exact absurd (tri x y hy h) hne
 rw [List.pairwise_append]
 refine ⟨hr,by simp,fun a ha b hb=>?_⟩
 simp at hb
 subst hb
 rw [List.pairwise_append] at hr
 rcases List.mem_append.1 ha with m | m
 ·have h1:=hr.2.2 a m y (by simp)
  rcases w.neg y a b hyx with q | q
  ·rw [w.asymm _ _ h1] at q;cases q
  ·exact q
 ·simp at m;subst m;exact hyx
include heq
theorem Yp {l:List α} (hl:(l.length:Int)≤1073741824) (hs:l.Pairwise fun x y=>lt y x=false) :
  ∃ r,Mf eqb z l=some r∧(r.Pairwise fun x y=>lt x y=true)∧∀ x,x ∈ r↔x ∈ l:=by
 unfold Mf
 by_cases h2:(l.length:Int)<2
 ·refine ⟨l,by simp only [h2,decide_true,if_true], ?_,fun x=>Iff.rfl⟩
  have hlen:l.length<2:=by omega
  clear hl hs h2
  rcases l with _ | ⟨x,_ | ⟨y,t⟩⟩
  ·exact .nil
  ·simp
  ·simp at hlen;omega
 simp only [h2,decide_false,Bool.false_eq_true,if_false]
 have adj:∀ (i j:Nat) (x y:α),i<j→l[i]?=some x→l[j]?=some y→lt y x=false:=fun i j x y hij hx hy=>by
  have h1:=(List.getElem?_eq_some_iff.1 hx)
  have h3:=(List.getElem?_eq_some_iff.1 hy)
  obtain ⟨a1,rfl⟩:=h1
  obtain ⟨b1,rfl⟩:=h3
  exact List.pairwise_iff_getElem.1 hs i j a1 b1 hij
 have get:∀ i:Nat,i<l.length→∃ x,l[i]?=some x:=fun i hi=>⟨l[i],List.getElem?_eq_getElem hi⟩
 have takes:∀ (i:Nat) (x:α),l[i]?=some x→l.take (i+1)=l.take i++[x]:=fun i x hx=>by rw [List.take_add_one,hx];rfl
 -- the second walk
 have inner:∀ (k:Nat) (y:α),1≤k→k<l.length→l[k]?=some y→l[k-1]?=some y→((l.take k).Pairwise fun x y=>lt x y=true) →
   ∃ (i:Nat) (l':List α),aM (Bx eqb l (k:Int)) ((k:Int),1,l)=some ((i:Int),l')∧i≤l'.length∧l'.length=l.length∧((l'.take i).Pairwise fun x y=>lt x y=true)∧∀ x,x ∈ l'.take i↔x ∈ l:=by
  intro k y k1 kl hy hy1 hp
  obtain ⟨r,r1,i,r2,r3,r4,r5,r6⟩:=nD (fun s:Int×Int×List α=>((l.length:Int)-k-s.2.1).toNat)
   (fun s:Int×Int×List α=>∃ (i p:Nat) (y:α),s.1=i∧s.2.1=((p-k:Nat):Int)∧k+1≤p∧p≤l.length∧1≤i∧i≤p-1∧s.2.2.length=l.length∧s.2.2.drop i=l.drop i∧l[p-1]?=some y∧(∃ t,s.2.2.take i=t++[y])∧((s.2.2.take i).Pairwise fun x y=>lt x y=true)∧∀ x,x ∈ s.2.2.take i↔x ∈ l.take p)
   (fun r:Int×List α=>∃ i:Nat,r.1=i∧i≤r.2.length∧r.2.length=l.length∧((r.2.take i).Pairwise fun x y=>lt x y=true)∧∀ x,x ∈ r.2.take i↔x ∈ l) (Bx eqb l (k:Int)) (by
    rintro ⟨i',k2,m⟩ ⟨i,p,y,hi',hk2,p1,p2,i0,i1,hml,hdrop,hy,⟨t,ht⟩,hpw,hmem⟩
    simp only at hi' hk2 hml hdrop ht hpw hmem ⊢
    subst hi' hk2
    unfold Bx
    simp only [Int.toNat_natCast]
    by_cases hp:p<l.length
    ·left
     obtain ⟨x,hx⟩:=get p hp
     have mg:∀ j,i≤j→m[j]?=l[j]?:=fun j hj=>by
      have:=congrArg (fun q=>q[j-i]?) hdrop
      simp only [List.getElem?_drop] at this
      rwa [show i+(j-i)=j from by omega] at this
     have hc:((p-k:Nat):Int)<((l.length-k:Nat):Int):=by omega
     have g1:idx (List.take (l.length-k) (List.drop k m)) ((p-k:Nat):Int)=some x:=by
      rw [Vn,List.getElem?_take,if_pos (by omega),List.getElem?_drop,show k+(p-k)=p from by omega,mg p (by omega),hx]
     have e1:aI ((p-k:Nat):Int) 1=((p-1-k:Nat):Int):=by rw [bF (by omega) (by omega)];omega
     have g2:idx (List.take (l.length-k) (List.drop k m)) ((p-1-k:Nat):Int)=some y:=by
      rw [Vn,List.getElem?_take,if_pos (by omega),List.getElem?_drop,show k+(p-1-k)=p-1 from by omega,mg (p-1) (by omega),hy]
     have e2:aJ ((p-k:Nat):Int) 1=((p+1-k:Nat):Int):=by rw [aR (by omega) (by omega)];omega
     have e3:aJ (i:Int) 1=((i+1:Nat):Int):=by rw [aR (by omega) (by omega)];omega
     have tk:=takes p x hx
     simp only [hc,decide_true,if_true,g1,Option.bind_some,e1,g2]
     cases hb:eqb x y with
     | true =>
       obtain rfl:=(heq x y).1 hb
       simp only [Bool.not_true,Bool.false_eq_true,if_false,Bw,e2]
       refine ⟨_,rfl,⟨i,p+1,x,rfl,rfl,by omega,by omega,i0,by omega,hml,hdrop,by rw [show p+1-1=p from by omega];exact hx,⟨t,ht⟩,hpw,fun v=>?_⟩,by simp only;omega⟩
       rw [hmem v,tk,List.mem_append,List.mem_singleton]
       constructor
       ·exact .inl
       ·rintro (q | rfl)
        ·exact q
        ·rw [← hmem v,ht];simp
     | false =>
       have hne:x≠y:=fun e=>by rw [(heq x y).2 e] at hb;cases hb
       have gi:idx m (i:Int)=some (m[i]'(by omega)):=by rw [Vn];exact List.getElem?_eq_getElem _
       simp only [Bool.not_false,if_true,gi,Option.bind_some,Bw,e2,e3]
       have tset:(m.set i x).take (i+1)=m.take i++[x]:=by
        rw [List.take_add_one,List.take_set_of_le (Nat.le_refl i),List.getElem?_set,if_pos rfl,if_pos (by omega)];rfl
       refine ⟨_,rfl,⟨i+1,p+1,x,rfl,rfl,by omega,by omega,by omega,by omega,by simp only [List.length_set];exact hml, ?_,by rw [show p+1-1=p from by omega];exact hx,⟨m.take i,tset⟩, ?_,fun v=>?_⟩,by simp only;omega⟩
       ·simp only
        rw [List.drop_set_of_lt (by omega),← List.drop_drop,hdrop,List.drop_drop]
       ·simp only
        rw [tset,ht]
        rw [ht] at hpw
        exact Po w tri hpw (adj (p-1) p y x (by omega) hy hx) hne
       ·simp only
        rw [tset,tk,List.mem_append,List.mem_append,hmem v]
    ·right
     have hc:¬ ((p-k:Nat):Int)<((l.length-k:Nat):Int):=by omega
     refine ⟨((i:Int),m),by simp only [hc,decide_false,Bool.false_eq_true,if_false],i,rfl,by simp only;omega,hml,hpw,fun v=>?_⟩
     rw [hmem v,List.take_of_length_le (by omega)]) ((k:Int),1,l) ⟨k,k+1,y,rfl,by simp only;omega,by omega,by omega,k1,by omega,rfl,rfl,by rw [show k+1-1=k from by omega];exact hy,⟨l.take (k-1),by
      have:=takes (k-1) y hy1
      rwa [show k-1+1=k from by omega] at this⟩,hp,fun v=>by
      rw [takes k y hy,List.mem_append,List.mem_singleton]
      constructor
      ·exact .inl
      ·rintro (q | rfl)
       ·exact q
       ·have:=takes (k-1) v hy1
        rw [show k-1+1=k from by omega] at this
        rw [this];simp⟩
  exact ⟨i,r.2,by rw [r1];congr 1;exact Prod.ext r2 rfl,r3,r4,r5,r6⟩
 obtain ⟨r,r1,r2⟩:=nD (fun s:Int=>((l.length:Int)-s).toNat) (fun s:Int=>∃ k:Nat,s=k∧1≤k∧k≤l.length∧((l.take k).Pairwise fun x y=>lt x y=true))
  (fun r:List α ⊕ Unit=>match r with | .inl r=>(r.Pairwise fun x y=>lt x y=true)∧∀ x,x ∈ r↔x ∈ l | .inr _=>l.Pairwise fun x y=>lt x y=true) (Gm eqb z l) (by
   rintro s ⟨k,rfl,k1,k2,hp⟩
   unfold Gm
   by_cases hk:k<l.length
   ·have hc:(k:Int)<(l.length:Int):=by omega
    obtain ⟨x,hx⟩:=get k hk
    obtain ⟨y,hy⟩:=get (k-1) (by omega)
    have e1:aI (k:Int) 1=((k-1:Nat):Int):=by rw [bF (by omega) (by omega)];omega
    simp only [hc,decide_true,if_true,bE hx,Option.bind_some,e1,bE hy]
    cases hb:eqb x y with
    | false =>
      left
      have hne:x≠y:=fun e=>by rw [(heq x y).2 e] at hb;cases hb
      simp only [Bool.false_eq_true,if_false]
      refine ⟨((k+1:Nat):Int),by rw [bT k (by omega)],⟨k+1,rfl,by omega,by omega, ?_⟩,by omega⟩
      rw [takes k x hx]
      have:=takes (k-1) y hy
      rw [show k-1+1=k from by omega] at this
      rw [this] at hp ⊢
      exact Po w tri hp (adj (k-1) k y x (by omega) hy hx) hne
    | true =>
      right
      obtain rfl:=(heq x y).1 hb
      obtain ⟨i,l',t1,t2,t3,t4,t5⟩:=inner k x k1 hk hx hy hp
      have c0:decide ((0:Int)≤(k:Int))=true:=by simp
      have c1:decide ((k:Int)≤(l.length:Int))=true:=by simp;omega
      have c2:decide ((l.length:Int)≤(l.length:Int))=true:=by simp
      have c3:decide ((0:Int)≤(i:Int))=true:=by simp
      have c4:decide ((i:Int)≤(l'.length:Int))=true:=by simp;omega
      have c5:decide ((l'.length:Int)≤(l'.length:Int))=true:=by simp
      have hsl:slc (cpy l' i (List.replicate (l'.length-i) z)) 0 (i:Int)=some (l'.take i):=by
       unfold slc cpy
       rw [if_pos ⟨Int.le_refl _,by omega,by simp;omega⟩]
       simp only [Int.toNat_natCast,Int.toNat_zero,List.drop_zero]
       rw [List.append_assoc,List.take_append_of_le_length (by rw [List.length_take];omega),List.take_take,Nat.min_self]
      simp only [if_true,c0,c1,c2,Bool.and_self,t1,Option.bind_some,c3,c4,c5,Int.toNat_natCast,hsl]
      exact ⟨_,rfl,t4,t5⟩
   ·right
    have hc:¬ (k:Int)<(l.length:Int):=by omega
    refine ⟨.inr (),by simp only [hc,decide_false,Bool.false_eq_true,if_false], ?_⟩
    simp only
    rwa [List.take_of_length_le (by omega)] at hp) 1 ⟨1,rfl,by omega,by omega,by
     have hlen:2≤l.length:=by omega
     clear inner takes get adj h2 hs hl
     rcases l with _ | ⟨x,t⟩
     ·simp at hlen
     ·simp⟩
 rw [r1,Option.bind_some]
 cases r with
 | inl r=>exact ⟨r,rfl,r2.1,r2.2⟩
 | inr _=>exact ⟨l,rfl,r2,fun x=>Iff.rfl⟩
end
structure aF where
 X:Int
 Y:Int
 W:Int
 H:Int
def aE (x:aF):List PV:=[(vI x.X),(vI x.Y),(vI x.W),(vI x.H)]
abbrev aX (l:List aF):PV:=.sl (List.map aE l)
abbrev bH (e:Nat) (l:List aF):HO:=.row e [] (List.map aE l)
structure aU where
 Name:ByteArray
 bD:ByteArray
 cE:Int
 bQ:Int
 aD:(List aF)
 bN:(List aF)
 Forms:(List aF)
def bC (x:aU):List PV:=[(vS x.Name),(vS x.bD),(vI x.cE),(vI x.bQ),(.sl (List.map aE x.aD)),(.sl (List.map aE x.bN)),(.sl (List.map aE x.Forms))]
abbrev gX (l:List aU):PV:=.sl (List.map bC l)
abbrev Dp (e:Nat) (l:List aU):HO:=.row e [] (List.map bC l)
structure bI where
 Name:ByteArray
 bD:ByteArray
 cE:Int
 bQ:Int
 cM:Int
 bP:Int
 bG:(List aF)
 Used:(List aF)
def bK (x:bI):List PV:=[(vS x.Name),(vS x.bD),(vI x.cE),(vI x.bQ),(vI x.cM),(vI x.bP),(.sl (List.map aE x.bG)),(.sl (List.map aE x.Used))]
abbrev iS (l:List bI):PV:=.sl (List.map bK l)
structure bA where
 Gap:Int
 aS:Int
 dM:Bool
def aW (x:bA):List PV:=[(vI x.Gap),(vI x.aS),(vB x.dM)]
structure aN where
 aU:Int
 bI:Int
 X:Int
 Y:Int
 tZ:Int
def bJ (x:aN):List PV:=[(vI x.aU),(vI x.bI),(vI x.X),(vI x.Y),(vI x.tZ)]
abbrev cW (l:List aN):PV:=.sl (List.map bJ l)
abbrev eC (e:Nat) (l:List aN):HO:=.row e [] (List.map bJ l)
structure aT where
 aF:aF
 gap:Int
 common:Bool
def cA (x:aT):List PV:=[(vI x.aF.X),(vI x.aF.Y),(vI x.aF.W),(vI x.aF.H),(vI x.gap),(vB x.common)]
abbrev gN (l:List aT):PV:=.sl (List.map cA l)
abbrev cY (e:Nat) (l:List aT):HO:=.row e [] (List.map cA l)
structure Bu where
 X1:Int
 Y1:Int
 X2:Int
 Y2:Int
def Hb (x:Bu):List PV:=[(vI x.X1),(vI x.Y1),(vI x.X2),(vI x.Y2)]
structure pX where
 Yi:Int
 Yj:Int
 Line:Bu
 EO:Int
 Yh:Int
def iK (x:pX):List PV:=[(vI x.Yi),(vI x.Yj),(vI x.Line.X1),(vI x.Line.Y1),(vI x.Line.X2),(vI x.Line.Y2),(vI x.EO),(vI x.Yh)]
abbrev wA (l:List pX):PV:=.sl (List.map iK l)
abbrev yY (e:Nat) (l:List pX):HO:=.row e [] (List.map iK l)
structure Flat where
 aD:(List aF)
 bN:(List aF)
 Forms:(List aF)
 qZ:(List pX)
def Ax (x:Flat):List PV:=[(.sl (List.map aE x.aD)),(.sl (List.map aE x.bN)),(.sl (List.map aE x.Forms)),(.sl (List.map iK x.qZ))]
structure eU where
 lS:(List aF)
 bU:(List aT)
 lT:aF
 w:Int
 h:Int
def fU (x:eU):List PV:=[(.sl (List.map aE x.lS)),(.sl (List.map cA x.bU)),(vI x.lT.X),(vI x.lT.Y),(vI x.lT.W),(vI x.lT.H),(vI x.w),(vI x.h)]
structure aH where
 lo:Int
 hi:Int
def aB (x:aH):List PV:=[(vI x.lo),(vI x.hi)]
abbrev pQ (l:List aH):PV:=.sl (List.map aB l)
abbrev aO (e:Nat) (l:List aH):HO:=.row e [] (List.map aB l)
structure sY where
 Lw:(List bI)
 Lt:(List aU)
 Set:bA
def qQ (x:sY):List PV:=[(.sl (List.map bK x.Lw)),(.sl (List.map bC x.Lt)),(vI x.Set.Gap),(vI x.Set.aS),(vB x.Set.dM)]
structure eK where
structure aV where
 lo:Int
 hi:Int
def bV (x:aV):List PV:=[(vI x.lo),(vI x.hi)]
abbrev bL (e:Nat) (l:List aV):HO:=.row e [] (List.map bV l)
def Lv (x:aF):Prop:=R64 x.X∧R64 x.Y∧R64 x.W∧R64 x.H
def Vd (x:aU):Prop:=RT x.Name∧RT x.bD∧R64 x.cE∧R64 x.bQ∧(RL Lv) x.aD∧(RL Lv) x.bN∧(RL Lv) x.Forms
def Ve (x:bI):Prop:=RT x.Name∧RT x.bD∧R64 x.cE∧R64 x.bQ∧R64 x.cM∧R64 x.bP∧(RL Lv) x.bG∧(RL Lv) x.Used
def Rc (x:bA):Prop:=R64 x.Gap∧R64 x.aS∧RT x.dM
def Ji (x:sY):Prop:=(RL Ve) x.Lw∧(RL Vd) x.Lt∧Rc x.Set
def lM (n:Int) (lo:Int) (hi:Int):Option (Bool):=
 (if (decide (lo≤n)) then (some (decide (n≤hi))) else (some false)).bind fun j1=>some j1
def eJ (x0:aU) (s1:bI) (turn:Int):Option (Bool):=
 (if (x0.bD.toList==s1.bD.toList) then (if (x0.cE != s1.cE) then (some true) else ((lM turn 0 3).bind fun r6=>some (!r6))) else (some true)).bind fun j5=>if j5 then (some false) else ((if (x0.bQ==0) then (some true) else (if (s1.bQ==0) then (some true) else (some ((x0.bQ==s1.bQ)==((Int.tmod turn 2)==0))))).bind fun j7=>some j7)
def iE (x0:aU) (s1:bI) (turn:Int):Option (Bool):=
 (if (x0.bD.toList==s1.bD.toList) then (if (x0.cE != s1.cE) then (some true) else (if (decide (turn<0)) then (some true) else (some (decide (turn>3))))) else (some true)).bind fun j2=>if j2 then (some false) else ((if (x0.bQ==0) then (some true) else (some (s1.bQ==0))).bind fun j4=>if j4 then (some true) else ((if ((Int.tmod turn 2)==0) then (if (x0.bQ==s1.bQ) then (some true) else (if ((Int.tmod turn 2)==1) then (some (x0.bQ != s1.bQ)) else (some false))) else (if ((Int.tmod turn 2)==1) then (some (x0.bQ != s1.bQ)) else (some false))).bind fun j5=>some j5))
def strings_Contains (s sub:ByteArray):Option Bool:=if s.size<4294967281 then some (Go.Lib.contains s.data.toList sub.data.toList) else none
theorem JD (n:Int) (h:¬ n<0) (h3:¬ n>3):Int.tmod n 2=0∨Int.tmod n 2=1:=by
 have:n=0∨n=1∨n=2∨n=3:=by omega
 rcases this with rfl | rfl | rfl | rfl <;> decide
theorem wJ (x:aU) (s:bI) (t:Int):∃ b,eJ x s t=some b∧iE x s t=some b:=by
 unfold eJ iE lM
 cases hm:x.bD.toList==s.bD.toList with
 | false=>exact ⟨false,by simp,by simp⟩
 | true =>
   by_cases hg:x.cE=s.cE
   ·by_cases h0 : t<0
    ·exact ⟨false,by simp [hg,show ¬ 0≤t by omega],by simp [hg,h0]⟩
    ·by_cases h3 : t>3
     ·exact ⟨false,by simp [hg,show 0≤t by omega,show ¬ t≤3 by omega],by simp [hg,h0,h3]⟩
     ·refine ⟨if x.bQ=0 then true else if s.bQ=0 then true else ((x.bQ==s.bQ)==(Int.tmod t 2==0)), ?_, ?_⟩
      ·simp only [hg,bne_self_eq_false,Bool.false_eq_true,if_false,if_true,show (0≤t)=True by simp;omega,show (t≤3)=True by simp;omega,decide_true,Option.bind_some,Bool.not_true,beq_iff_eq]
       by_cases q1:x.bQ=0 <;> by_cases q2:s.bQ=0 <;> simp [q1,q2]
      ·simp only [hg,bne_self_eq_false,Bool.false_eq_true,if_false,if_true,h0,h3,decide_false,Option.bind_some,beq_iff_eq]
       by_cases q1:x.bQ=0
       ·simp [q1]
       ·by_cases q2:s.bQ=0
        ·simp [q1,q2]
        ·rcases JD t h0 h3 with e | e
         ·by_cases q3:x.bQ=s.bQ
          ·simp [e,q3,q2]
          ·simp [q1,q2,e,q3]
         ·by_cases q3:x.bQ=s.bQ
          ·simp [e,q3,q2]
          ·have q4:(x.bQ==s.bQ)=false:=by rw [beq_eq_false_iff_ne];exact q3
           simp [q1,q2,e,q3,bne]
   ·exact ⟨false,by simp [hg],by simp [hg]⟩
def Fy (n:Int) (most:Int):Option (Bool):=
 (if (decide ((pT most)≤n)) then (some (decide (n≤most))) else (some false)).bind fun j1=>some j1
def tA (x0:Int) (w:Int):Option (Bool):=
 ((Fy x0 1048576).bind fun r3=>if r3 then (if (decide (w>0)) then (if (decide (w≤2097152)) then (some (decide ((aJ x0 w)≤1048576))) else (some false)) else (some false)) else (some false)).bind fun j2=>some j2
def fN (r0:aF):Option (Bool):=
 ((tA r0.X r0.W).bind fun r4=>if r4 then ((tA r0.Y r0.H).bind fun r5=>some r5) else (some false)).bind fun j3=>some j3
def xE (a:aF) (b:aF):Option (Int):=
 ((fN a).bind fun r9=>if r9 then ((fN b).bind fun a0=>some (!a0)) else (some true)).bind fun j8=>if j8 then (some 0) else (some (imax (imax (imax (imax 0 (aI (aI b.X a.X) a.W)) (aI (aI a.X b.X) b.W)) (aI (aI b.Y a.Y) a.H)) (aI (aI a.Y b.Y) b.H)))
def wM (a:aF) (b:aF):Option (Bool):=
 ((fN a).bind fun r4=>if r4 then ((fN b).bind fun r5=>if r5 then (if (decide (a.X<(aJ b.X b.W))) then (if (decide (b.X<(aJ a.X a.W))) then (if (decide (a.Y<(aJ b.Y b.H))) then (some (decide (b.Y<(aJ a.Y a.H)))) else (some false)) else (some false)) else (some false)) else (some false)) else (some false)).bind fun j3=>some j3
def xM (b:(List aF)) (set2:bA) (a3:aF):(Int×Bool)→Option ((Int×Bool) ⊕ (Unit ⊕ Bool)):=fun a0 =>
 if (decide (a0.1<(b.length:Int))) then ((idx b a0.1).bind fun a4=>(xE a3 a4).bind fun a2=>((wM a3 a4).bind fun a5=>if a5 then (some (true,a0.2)) else (if (decide (a2<set2.Gap)) then (if a0.2 then (some ((!(a2==0)),true)) else (some (true,false))) else (some (false,a0.2)))).bind fun a1=>if a1.1 then (some (.inr (.inl ()))) else (some (.inl ((aJ a0.1 1),a1.2)))) else (some (.inr (.inr a0.2)))
def xN (a:(List aF)) (b:(List aF)) (set2:bA):(Int×Bool)→Option ((Int×Bool) ⊕ (Unit ⊕ Unit)):=fun a0 =>
 if (decide (a0.1<(a.length:Int))) then ((idx a a0.1).bind fun a2=>(aM (xM b set2 a2) (0,a0.2)).bind fun a3=>match a3 with | .inl a4=>some (.inr (.inl ())) | .inr a1=>some (.inl ((aJ a0.1 1),a1))) else (some (.inr (.inr (()))))
def Il (a:(List aF)) (b:(List aF)) (set2:bA):Option (Bool):=
 (aM (xN a b set2) (0,set2.dM)).bind fun a0=>match a0 with | .inl a1=>some false | .inr a2=>some true
def fB (n:Int):Option (Bool):=
 (if (decide (n ≥ (-1048576))) then (some (decide (n≤1048576))) else (some false)).bind fun j1=>some j1
def dW (r0:aF):Option (Bool):=
 ((fB r0.X).bind fun r9=>if r9 then ((fB r0.Y).bind fun a1=>if a1 then (if (decide (r0.W<1)) then (some true) else (if (decide (r0.H<1)) then (some true) else (if (decide (r0.W>2097152)) then (some true) else (some (decide (r0.H>2097152)))))) else (some true)) else (some true)).bind fun j8=>if j8 then (some false) else (((fB (aJ r0.X r0.W)).bind fun a2=>if a2 then ((fB (aJ r0.Y r0.H)).bind fun a3=>some a3) else (some false)).bind fun a0=>some a0)
def mN (a:aF) (b:aF):Option (Int):=
 ((dW a).bind fun r9=>if r9 then ((dW b).bind fun a0=>some (!a0)) else (some true)).bind fun j8=>if j8 then (some 0) else (some (imax (imax (imax 0 (aI (aI a.X b.X) b.W)) (aI (aI b.X a.X) a.W)) (imax (imax 0 (aI (aI a.Y b.Y) b.H)) (aI (aI b.Y a.Y) a.H))))
def jT (a:aF) (b:aF):Option (Bool):=
 ((dW a).bind fun r4=>if r4 then ((dW b).bind fun r5=>if r5 then (if (decide (a.X<(aJ b.X b.W))) then (if (decide (b.X<(aJ a.X a.W))) then (if (decide (a.Y<(aJ b.Y b.H))) then (some (decide (b.Y<(aJ a.Y a.H)))) else (some false)) else (some false)) else (some false)) else (some false)) else (some false)).bind fun j3=>some j3
def jQ (a:(List aF)) (b:(List aF)) (set2:bA) (a4:Int×Bool):(Int×Bool)→Option ((Int×Bool) ⊕ (Unit ⊕ Bool)):=fun a0 =>
 if (decide (a0.1<(b.length:Int))) then ((idx a a4.1).bind fun a5=>(idx b a0.1).bind fun a6=>(mN a5 a6).bind fun a2=>((idx a a4.1).bind fun a7=>(idx b a0.1).bind fun a8=>(jT a7 a8).bind fun a3=>if a3 then (some (true,a0.2)) else (if (decide (a2<set2.Gap)) then (if a0.2 then (some ((!(a2==0)),true)) else (some (true,false))) else (some (false,a0.2)))).bind fun a1=>if a1.1 then (some (.inr (.inl ()))) else (some (.inl ((aJ a0.1 1),a1.2)))) else (some (.inr (.inr a0.2)))
def jR (a:(List aF)) (b:(List aF)) (set2:bA):(Int×Bool)→Option ((Int×Bool) ⊕ (Unit ⊕ Unit)):=fun a0 =>
 if (decide (a0.1<(a.length:Int))) then ((aM (jQ a b set2 a0) (0,a0.2)).bind fun a2=>match a2 with | .inl a3=>some (.inr (.inl ())) | .inr a1=>some (.inl ((aJ a0.1 1),a1))) else (some (.inr (.inr (()))))
def uS (a:(List aF)) (b:(List aF)) (set2:bA):Option (Bool):=
 (aM (jR a b set2) (0,set2.dM)).bind fun a0=>match a0 with | .inl a1=>some false | .inr a2=>some true
def tY (s sub:ByteArray):Option Bool:=if s.size<4294967281 then some (Go.Lib.contains s.data.toList sub.data.toList) else none
def rQ (s0:ByteArray):Int→Option (Int ⊕ (Unit ⊕ Unit)):=fun a1 =>
 if (decide (a1<(s0.size:Int))) then ((Kh s0 a1).bind fun a0=>(if (decide (a0<97)) then (if (decide (a0<48)) then (some true) else (some (decide (a0>57)))) else (if (decide (a0>122)) then (if (decide (a0<48)) then (some true) else (some (decide (a0>57)))) else (some false))).bind fun a2=>if a2 then (some (.inr (.inl ()))) else (some (.inl (aJ a1 1)))) else (some (.inr (.inr (()))))
def iL (s0:ByteArray):Option (Bool):=
 (if (decide ((s0.size:Int)<1)) then (some true) else (if (decide ((s0.size:Int)>8)) then (some true) else ((Kh s0 0).bind fun x9=>if (decide (x9<97)) then (some true) else ((Kh s0 0).bind fun a3=>some (decide (a3>122)))))).bind fun j8=>if j8 then (some false) else ((aM (rQ s0) 0).bind fun a4=>match a4 with | .inl a5=>some false | .inr a6=>(Qi (ByteArray.mk #[32]) s0).bind fun a1=>(Qi a1 (ByteArray.mk #[32])).bind fun a2=>(tY (ByteArray.mk #[32,112,97,114,116,32,109,97,116,101,114,105,97,108,32,98,97,115,101,32,102,108,97,110,103,101,32,104,111,108,101,32,99,117,116,32,102,111,114,109,32,101,97,115,116,32,115,111,117,116,104,32,119,101,115,116,32,110,111,114,116,104,32,117,112,32,100,111,119,110,32,99,108,111,115,101,117,112,32,99,108,111,115,101,100,111,119,110,32,103,114,97,105,110,32,120,32,121,32,116,97,98,108,101,32,97,110,103,108,101,32,109,97,99,104,105,110,101,32,112,117,110,99,104,32,100,105,101,32,102,114,97,109,101,32,103,97,117,103,101,32,112,111,108,121,32,115,116,97,116,105,111,110,115,32]) a2).bind fun a0=>some (!a0))
def Eo (gauge:Int) (grain:Int):Option (Bool):=
 ((lM gauge 1 60).bind fun r4=>if r4 then ((lM grain 0 2).bind fun r5=>some r5) else (some false)).bind fun j3=>some j3
def xS (l:(List aF)):Int→Option (Int ⊕ (Unit ⊕ Unit)):=fun a0 =>
 if (decide (a0<(l.length:Int))) then ((idx l a0).bind fun a2=>(fN a2).bind fun a1=>if (!a1) then (some (.inr (.inl ()))) else (some (.inl (aJ a0 1)))) else (some (.inr (.inr (()))))
def oM (l:(List aF)):Option (Bool):=
 (aM (xS l) 0).bind fun a0=>match a0 with | .inl a1=>some false | .inr a2=>some true
def oL (s0:bI) (margin:Int):Option (aF×Bool):=
 (fN (aF.mk margin margin (aI s0.cM (eS 2 margin)) (aI s0.bP (eS 2 margin)))).bind fun r3=>some ((aF.mk margin margin (aI s0.cM (eS 2 margin)) (aI s0.bP (eS 2 margin))),r3)
def Ch (a:aF) (b:aF):Option (Bool):=
 ((fN a).bind fun r4=>if r4 then ((fN b).bind fun r5=>if r5 then (if (decide (b.X≤a.X)) then (if (decide ((aJ a.X a.W)≤(aJ b.X b.W))) then (if (decide (b.Y≤a.Y)) then (some (decide ((aJ a.Y a.H)≤(aJ b.Y b.H)))) else (some false)) else (some false)) else (some false)) else (some false)) else (some false)).bind fun j3=>some j3
def mJ (a4:aF×Bool) (a1:(List aF)):Int→Option (Int ⊕ (Unit ⊕ Unit)):=fun a0 =>
 if (decide (a0<(a1.length:Int))) then ((idx a1 a0).bind fun a3=>(Ch a3 a4.1).bind fun a2=>if (!a2) then (some (.inr (.inl ()))) else (some (.inl (aJ a0 1)))) else (some (.inr (.inr (()))))
def mK (s0:bI) (a5:aF×Bool):Int→Option (Int ⊕ (Unit ⊕ Unit)):=fun a0 =>
 if (decide (a0<([s0.bG,s0.Used].length:Int))) then ((idx [s0.bG,s0.Used] a0).bind fun a1=>(aM (mJ a5 a1) 0).bind fun a2=>match a2 with | .inl a3=>some (.inr (.inl ())) | .inr a4=>some (.inl (aJ a0 1))) else (some (.inr (.inr (()))))
def bO (s0:bI):Option (Int):=
 ((iL s0.Name).bind fun a7=>if a7 then ((iL s0.bD).bind fun a8=>some (!a8)) else (some true)).bind fun a1=>if a1 then (some 2) else (((Eo s0.cE s0.bQ).bind fun a9=>if a9 then ((lM s0.cM 1 1048576).bind fun b0=>if b0 then ((lM s0.bP 1 1048576).bind fun b1=>some (!b1)) else (some true)) else (some true)).bind fun a2=>if a2 then (some 1) else ((if (decide ((s0.bG.length:Int)>4)) then (some true) else (some (decide ((s0.Used.length:Int)>48)))).bind fun a3=>if a3 then (some 4) else (((oM s0.bG).bind fun b2=>if b2 then ((oM s0.Used).bind fun b3=>some (!b3)) else (some true)).bind fun a4=>if a4 then (some 1) else ((oL s0 0).bind fun b4=>(aM (mK s0 b4) 0).bind fun a0=>match a0 with | .inl a5=>some 13 | .inr a6=>some 0))))
def tX (n:Int) (lo:Int) (hi:Int):Option (Bool):=
 (if (decide (n ≥ lo)) then (some (decide (n≤hi))) else (some false)).bind fun j1=>some j1
def sG:Option (ByteArray):=
 some (ByteArray.mk #[32,112,97,114,116,32,109,97,116,101,114,105,97,108,32,98,97,115,101,32,102,108,97,110,103,101,32,104,111,108,101,32,99,117,116,32,102,111,114,109,32,101,97,115,116,32,115,111,117,116,104,32,119,101,115,116,32,110,111,114,116,104,32,117,112,32,100,111,119,110,32,99,108,111,115,101,117,112,32,99,108,111,115,101,100,111,119,110,32,103,114,97,105,110,32,120,32,121,32,116,97,98,108,101,32,97,110,103,108,101,32,109,97,99,104,105,110,101,32,112,117,110,99,104,32,100,105,101,32,102,114,97,109,101,32,103,97,117,103,101,32,112,111,108,121,32,115,116,97,116,105,111,110,115,32])
def iW (text:ByteArray) (s1:ByteArray):Int→Option (Int ⊕ (Unit ⊕ Unit)):=fun a0 =>
 if (decide ((aJ (aJ a0 (s1.size:Int)) 2)≤(text.size:Int))) then ((IX text a0 (aJ (aJ a0 (s1.size:Int)) 2)).bind fun a1=>(Qi (ByteArray.mk #[32]) s1).bind fun a2=>(Qi a2 (ByteArray.mk #[32])).bind fun a3=>if (a1.toList==a3.toList) then (some (.inr (.inl ()))) else (some (.inl (aJ a0 1)))) else (some (.inr (.inr (()))))
def pM (text:ByteArray) (s1:ByteArray):Option (Bool):=
 (aM (iW text s1) 0).bind fun a0=>match a0 with | .inl a1=>some true | .inr a2=>some false
def gO (s0:ByteArray):Int→Option (Int ⊕ (Unit ⊕ Unit)):=fun a0 =>
 if (decide (a0<(s0.size:Int))) then (((Kh s0 a0).bind fun a3=>if (decide (a3 ≥ 97)) then ((Kh s0 a0).bind fun a4=>some (decide (a4≤122))) else (some false)).bind fun a1=>(if a1 then (some false) else ((Kh s0 a0).bind fun a5=>if (decide (a5<48)) then (some true) else ((Kh s0 a0).bind fun a6=>some (decide (a6>57))))).bind fun a2=>if a2 then (some (.inr (.inl ()))) else (some (.inl (aJ a0 1)))) else (some (.inr (.inr (()))))
def eN (s0:ByteArray):Option (Bool):=
 ((tX (s0.size:Int) 1 8).bind fun a6=>if a6 then ((Kh s0 0).bind fun a7=>if (decide (a7<97)) then (some true) else ((Kh s0 0).bind fun a8=>some (decide (a8>122)))) else (some true)).bind fun a3=>if a3 then (some false) else ((aM (gO s0) 0).bind fun a2=>match a2 with | .inl a4=>some false | .inr a5=>(sG).bind fun a0=>(pM a0 s0).bind fun a1=>some (!a1))
def mP (name:ByteArray) (material:ByteArray) (gauge:Int) (grain:Int):Option (Int):=
 ((eN name).bind fun r9=>if r9 then ((eN material).bind fun a1=>some (!a1)) else (some true)).bind fun j8=>if j8 then (some 2) else ((if (decide (gauge<1)) then (some true) else (if (decide (gauge>60)) then (some true) else (if (decide (grain<0)) then (some true) else (some (decide (grain>2)))))).bind fun a0=>if a0 then (some 1) else (some 0))
def iX (l:(List aF)):Int→Option (Int ⊕ (Unit ⊕ Unit)):=fun a0 =>
 if (decide (a0<(l.length:Int))) then ((idx l a0).bind fun a2=>(dW a2).bind fun a1=>if (!a1) then (some (.inr (.inl ()))) else (some (.inl (aJ a0 1)))) else (some (.inr (.inr (()))))
def cG (l:(List aF)):Option (Bool):=
 (aM (iX l) 0).bind fun a0=>match a0 with | .inl a1=>some false | .inr a2=>some true
def iT (a:aF) (b:aF):Option (Bool):=
 ((dW a).bind fun r4=>if r4 then ((dW b).bind fun r5=>if r5 then (if (decide (a.X ≥ b.X)) then (if (decide (a.Y ≥ b.Y)) then (if (decide ((aJ a.X a.W)≤(aJ b.X b.W))) then (some (decide ((aJ a.Y a.H)≤(aJ b.Y b.H)))) else (some false)) else (some false)) else (some false)) else (some false)) else (some false)).bind fun j3=>some j3
def iZ (s0:bI) (l:(List aF)):Int→Option (Int ⊕ (Unit ⊕ Unit)):=fun a0 =>
 if (decide (a0<(l.length:Int))) then ((idx l a0).bind fun a2=>(iT a2 (aF.mk 0 0 s0.cM s0.bP)).bind fun a1=>if (!a1) then (some (.inr (.inl ()))) else (some (.inl (aJ a0 1)))) else (some (.inr (.inr (()))))
def kZ (s0:bI) (l:(List aF)):Option (Bool):=
 (aM (iZ s0 l) 0).bind fun a0=>match a0 with | .inl a1=>some false | .inr a2=>some true
def dF (s0:bI):Option (Int):=
 (mP s0.Name s0.bD s0.cE s0.bQ).bind fun r2=>if (r2 != 0) then (some r2) else ((if (decide (s0.cM<1)) then (some true) else (if (decide (s0.cM>1048576)) then (some true) else (if (decide (s0.bP<1)) then (some true) else (some (decide (s0.bP>1048576)))))).bind fun j4=>if j4 then (some 1) else ((if (decide ((s0.bG.length:Int)>4)) then (some true) else (some (decide ((s0.Used.length:Int)>48)))).bind fun j6=>if j6 then (some 4) else (((cG s0.bG).bind fun a2=>if a2 then ((cG s0.Used).bind fun a3=>some (!a3)) else (some true)).bind fun a0=>if a0 then (some 1) else (((kZ s0 s0.bG).bind fun a4=>if a4 then ((kZ s0 s0.Used).bind fun a5=>some (!a5)) else (some true)).bind fun a1=>if a1 then (some 13) else (some 0)))))
def qF (a:aF) (b:aF):Option (Bool):=
 (if ((aI (Ad (aJ a.X a.W) (aJ b.X b.W)) (imax a.X b.X))==0) then (if (decide ((aI (Ad (aJ a.Y a.H) (aJ b.Y b.H)) (imax a.Y b.Y))>0)) then (some true) else (if ((aI (Ad (aJ a.Y a.H) (aJ b.Y b.H)) (imax a.Y b.Y))==0) then (some (decide ((aI (Ad (aJ a.X a.W) (aJ b.X b.W)) (imax a.X b.X))>0))) else (some false))) else (if ((aI (Ad (aJ a.Y a.H) (aJ b.Y b.H)) (imax a.Y b.Y))==0) then (some (decide ((aI (Ad (aJ a.X a.W) (aJ b.X b.W)) (imax a.X b.X))>0))) else (some false))).bind fun j1=>some j1
def oF (a1:Int×(List Bool)×(List Int)):((List Bool)×(List Int))→Option ((Int×(List Bool)×(List Int)) ⊕ ((List Bool)×(List Int))):=fun a0 =>
 some (.inl ((aJ a1.1 1),a0.1,a0.2))
def fW (l:(List aF)) (a4:Int):(Int×(List Bool)×(List Int))→Option ((Int×(List Bool)×(List Int)) ⊕ ((List Bool)×(List Int))):=fun a0 =>
 if (decide (a0.1<(l.length:Int))) then (((idx a0.2.1 a0.1).bind fun a5=>if a5 then (some false) else ((idx l a4).bind fun a6=>(idx l a0.1).bind fun a7=>(qF a6 a7).bind fun a3=>some a3)).bind fun a1=>if a1 then ((idx a0.2.1 a0.1).bind fun a8=>(app a0.2.2 [a0.1]).bind fun a2=>oF a0 ((List.set a0.2.1 (Int.toNat a0.1) true),a2)) else (oF a0 (a0.2.1,a0.2.2))) else (some (.inr (a0.2.1,a0.2.2)))
def gW (l:(List aF)):((List Bool)×(List Int))→Option (((List Bool)×(List Int)) ⊕ (List Bool)):=fun a0 =>
 if (decide ((a0.2.length:Int)>0)) then ((idx a0.2 0).bind fun a2=>if (decide (1≤a0.2.length)) then ((aM (fW l a2) (0,a0.1,(List.drop 1 a0.2))).bind fun a1=>some (.inl (a1.1,a1.2))) else none) else (some (.inr a0.1))
def rO (a1:(List Bool)):Int→Option (Int ⊕ (Unit ⊕ Unit)):=fun a0 =>
 if (decide (a0<(a1.length:Int))) then ((idx a1 a0).bind fun a2=>if (!a2) then (some (.inr (.inl ()))) else (some (.inl (aJ a0 1)))) else (some (.inr (.inr (()))))
def nU (l:(List aF)):Option (Bool):=
 (mk (l.length:Int) false).bind fun l2=>(idx l2 0).bind fun x4=>(aM (gW l) ((List.set l2 (Int.toNat 0) true),[0])).bind fun a0=>(aM (rO a0) 0).bind fun a1=>match a1 with | .inl a2=>some false | .inr a3=>some true
def tJ (h0:aF) (l:(List aF)):Int→Option (Int ⊕ (Unit ⊕ Unit)):=fun a1 =>
 if (decide (a1<(l.length:Int))) then ((idx l a1).bind fun a0=>(if (decide (h0.X>a0.X)) then (if (decide (h0.Y>a0.Y)) then (if (decide ((aJ h0.X h0.W)<(aJ a0.X a0.W))) then (some (decide ((aJ h0.Y h0.H)<(aJ a0.Y a0.H)))) else (some false)) else (some false)) else (some false)).bind fun a2=>if a2 then (some (.inr (.inl ()))) else (some (.inl (aJ a1 1)))) else (some (.inr (.inr (()))))
def xR (h0:aF) (l:(List aF)):Option (Bool):=
 (aM (tJ h0 l) 0).bind fun a0=>match a0 with | .inl a1=>some true | .inr a2=>some false
def vT (x0:aU) (l6:(List aF)):Int→Option (Int ⊕ (Unit ⊕ Unit)):=fun a0 =>
 if (decide (a0<(l6.length:Int))) then ((idx l6 a0).bind fun a1=>(if (decide (a0<(x0.bN.length:Int))) then (if (a1.W==1) then (some true) else (if (a1.H==1) then (some true) else ((xR a1 x0.aD).bind fun a3=>some (!a3)))) else ((xR a1 x0.aD).bind fun a4=>some (!a4))).bind fun a2=>if a2 then (some (.inr (.inl ()))) else (some (.inl (aJ a0 1)))) else (some (.inr (.inr (()))))
def vV (a3:aF) (a1:(List aF)):Int→Option (Int ⊕ (Unit ⊕ Unit)):=fun a0 =>
 if (decide (a0<(a1.length:Int))) then ((idx a1 a0).bind fun a4=>(xE a3 a4).bind fun a2=>if (a2==0) then (some (.inr (.inl ()))) else (some (.inl (aJ a0 1)))) else (some (.inr (.inr (()))))
def vW (l6:(List aF)):Int→Option (Int ⊕ (Unit ⊕ Unit)):=fun a0 =>
 if (decide (a0<(l6.length:Int))) then ((idx l6 a0).bind fun a2=>(slc l6 0 a0).bind fun a1=>(aM (vV a2 a1) 0).bind fun a3=>match a3 with | .inl a4=>some (.inr (.inl ())) | .inr a5=>some (.inl (aJ a0 1))) else (some (.inr (.inr (()))))
def zE (x0:aU):Option (Int):=
 (app [] x0.bN).bind fun l5=>(app l5 x0.Forms).bind fun l6=>(aM (vT x0 l6) 0).bind fun a4=>match a4 with | .inl a5=>some 13 | .inr a1=>(aM (vW l6) 0).bind fun a0=>match a0 with | .inl a2=>some 7 | .inr a3=>some 0
def dV (x0:aU):(Int×Int×Int)→Option ((Int×Int×Int) ⊕ (Int×Int)):=fun a0 =>
 if (decide (a0.2.2<(x0.aD.length:Int))) then ((idx x0.aD a0.2.2).bind fun a1=>some (.inl ((Ad a0.1 a1.X),(Ad a0.2.1 a1.Y),(aJ a0.2.2 1)))) else (some (.inr (a0.1,a0.2.1)))
def mG (a3:aF) (a1:(List aF)):Int→Option (Int ⊕ (Unit ⊕ Unit)):=fun a0 =>
 if (decide (a0<(a1.length:Int))) then ((idx a1 a0).bind fun a4=>(wM a3 a4).bind fun a2=>if a2 then (some (.inr (.inl ()))) else (some (.inl (aJ a0 1)))) else (some (.inr (.inr (()))))
def mI (x0:aU):Int→Option (Int ⊕ (Unit ⊕ Unit)):=fun a0 =>
 if (decide (a0<(x0.aD.length:Int))) then ((idx x0.aD a0).bind fun a2=>(slc x0.aD 0 a0).bind fun a1=>(aM (mG a2 a1) 0).bind fun a3=>match a3 with | .inl a4=>some (.inr (.inl ())) | .inr a5=>some (.inl (aJ a0 1))) else (some (.inr (.inr (()))))
def bB (x0:aU):Option (Int):=
 ((iL x0.Name).bind fun b0=>if b0 then ((iL x0.bD).bind fun b1=>some (!b1)) else (some true)).bind fun a4=>if a4 then (some 2) else ((Eo x0.cE x0.bQ).bind fun b2=>if (!b2) then (some 1) else ((if (decide ((x0.aD.length:Int)>12)) then (some true) else (if (decide ((x0.bN.length:Int)>12)) then (some true) else (some (decide ((x0.Forms.length:Int)>12))))).bind fun a5=>if a5 then (some 4) else ((if ((x0.aD.length:Int)==0) then (some true) else ((oM x0.aD).bind fun b3=>if b3 then ((oM x0.bN).bind fun b4=>if b4 then ((oM x0.Forms).bind fun b5=>some (!b5)) else (some true)) else (some true))).bind fun a6=>if a6 then (some 1) else ((idx x0.aD 0).bind fun b6=>(idx x0.aD 0).bind fun b7=>(aM (dV x0) (b6.X,b7.Y,0)).bind fun a3=>(if (a3.1 != 0) then (some true) else (some (a3.2 != 0))).bind fun a9=>if a9 then (some 1) else ((aM (mI x0) 0).bind fun a2=>match a2 with | .inl a7=>some 7 | .inr a8=>(nU x0.aD).bind fun a0=>if (!a0) then (some 6) else ((zE x0).bind fun a1=>some a1))))))
def sL (l:(List aF)):(Int×Int×Int)→Option ((Int×Int×Int) ⊕ (Int×Int)):=fun a0 =>
 if (decide (a0.2.2<(l.length:Int))) then ((idx l a0.2.2).bind fun a1=>(idx l a0.2.2).bind fun a2=>some (.inl ((Ad a0.1 a1.X),(Ad a0.2.1 a2.Y),(aJ a0.2.2 1)))) else (some (.inr (a0.1,a0.2.1)))
def jN (l:(List aF)):Option (Int×Int):=
 (idx l 0).bind fun x5=>(idx l 0).bind fun x6=>(aM (sL l) (x5.X,x6.Y,1)).bind fun a0=>some (a0.1,a0.2)
def jS (r0:aF) (l:(List aF)):Int→Option (Int ⊕ (Unit ⊕ Unit)):=fun a0 =>
 if (decide (a0<(l.length:Int))) then ((idx l a0).bind fun a2=>(jT r0 a2).bind fun a1=>if a1 then (some (.inr (.inl ()))) else (some (.inl (aJ a0 1)))) else (some (.inr (.inr (()))))
def jL (r0:aF) (l:(List aF)):Option (Bool):=
 (aM (jS r0 l) 0).bind fun a0=>match a0 with | .inl a1=>some true | .inr a2=>some false
def sM (a:aF) (b:aF):Option (Bool):=
 (if ((aI (Ad (aJ a.X a.W) (aJ b.X b.W)) (imax a.X b.X))==0) then (if (decide ((aI (Ad (aJ a.Y a.H) (aJ b.Y b.H)) (imax a.Y b.Y))>0)) then (some true) else (if ((aI (Ad (aJ a.Y a.H) (aJ b.Y b.H)) (imax a.Y b.Y))==0) then (some (decide ((aI (Ad (aJ a.X a.W) (aJ b.X b.W)) (imax a.X b.X))>0))) else (some false))) else (if ((aI (Ad (aJ a.Y a.H) (aJ b.Y b.H)) (imax a.Y b.Y))==0) then (some (decide ((aI (Ad (aJ a.X a.W) (aJ b.X b.W)) (imax a.X b.X))>0))) else (some false))).bind fun j1=>some j1
def eO (a1:Int×(List Bool)×(List Int)):((List Bool)×(List Int))→Option ((Int×(List Bool)×(List Int)) ⊕ ((List Bool)×(List Int))):=fun a0 =>
 some (.inl ((aJ a1.1 1),a0.1,a0.2))
def dY (l:(List aF)) (a4:Int×(List Bool)×(List Int)):(Int×(List Bool)×(List Int))→Option ((Int×(List Bool)×(List Int)) ⊕ ((List Bool)×(List Int))):=fun a0 =>
 if (decide (a0.1<(l.length:Int))) then (((idx a0.2.1 a0.1).bind fun a5=>if a5 then (some false) else ((idx a0.2.2 a4.1).bind fun a6=>(idx l a6).bind fun a7=>(idx l a0.1).bind fun a8=>(sM a7 a8).bind fun a3=>some a3)).bind fun a1=>if a1 then ((idx a0.2.1 a0.1).bind fun a9=>(app a0.2.2 [a0.1]).bind fun a2=>eO a0 ((List.set a0.2.1 (Int.toNat a0.1) true),a2)) else (eO a0 (a0.2.1,a0.2.2))) else (some (.inr (a0.2.1,a0.2.2)))
def eP (l:(List aF)):(Int×(List Bool)×(List Int))→Option ((Int×(List Bool)×(List Int)) ⊕ (List Int)):=fun a0 =>
 if (decide (a0.1<(a0.2.2.length:Int))) then ((aM (dY l a0) (0,a0.2.1,a0.2.2)).bind fun a1=>some (.inl ((aJ a0.1 1),a1.1,a1.2))) else (some (.inr a0.2.2))
def lZ (l:(List aF)):Option (Bool):=
 (mk (l.length:Int) false).bind fun l2=>(idx l2 0).bind fun x4=>(aM (eP l) (0,(List.set l2 (Int.toNat 0) true),[0])).bind fun a0=>some ((a0.length:Int)==(l.length:Int))
def kH (r0:aF) (l:(List aF)):Int→Option (Int ⊕ (Unit ⊕ Unit)):=fun a0 =>
 if (decide (a0<(l.length:Int))) then (((idx l a0).bind fun a2=>if (decide (r0.X>a2.X)) then ((idx l a0).bind fun a3=>if (decide (r0.Y>a3.Y)) then ((idx l a0).bind fun a4=>(idx l a0).bind fun a5=>if (decide ((aJ r0.X r0.W)<(aJ a4.X a5.W))) then ((idx l a0).bind fun a6=>(idx l a0).bind fun a7=>some (decide ((aJ r0.Y r0.H)<(aJ a6.Y a7.H)))) else (some false)) else (some false)) else (some false)).bind fun a1=>if a1 then (some (.inr (.inl ()))) else (some (.inl (aJ a0 1)))) else (some (.inr (.inr (()))))
def rZ (r0:aF) (l:(List aF)):Option (Bool):=
 (aM (kH r0 l) 0).bind fun a0=>match a0 with | .inl a1=>some true | .inr a2=>some false
def eW (x0:aU):Int→Option (Int ⊕ (Unit ⊕ Unit)):=fun a0 =>
 if (decide (a0<(x0.aD.length:Int))) then ((idx x0.aD a0).bind fun a3=>(slc x0.aD 0 a0).bind fun a1=>(jL a3 a1).bind fun a2=>if a2 then (some (.inr (.inl ()))) else (some (.inl (aJ a0 1)))) else (some (.inr (.inr (()))))
def eX (x0:aU) (a1:(List aF)):Int→Option (Int ⊕ (Unit ⊕ Unit)):=fun a0 =>
 if (decide (a0<(a1.length:Int))) then (((idx a1 a0).bind fun a4=>(rZ a4 x0.aD).bind fun a3=>if a3 then (if (decide (a0<(x0.bN.length:Int))) then ((idx a1 a0).bind fun a5=>if (a5.W==1) then (some true) else ((idx a1 a0).bind fun a6=>some (a6.H==1))) else (some false)) else (some true)).bind fun a2=>if a2 then (some (.inr (.inl ()))) else (some (.inl (aJ a0 1)))) else (some (.inr (.inr (()))))
def eY (a1:(List aF)) (a2:Int):Int→Option (Int ⊕ (Unit ⊕ Unit)):=fun a0 =>
 if (decide (a0<a2)) then ((idx a1 a2).bind fun a4=>(idx a1 a0).bind fun a5=>(mN a4 a5).bind fun a3=>if (a3==0) then (some (.inr (.inl ()))) else (some (.inl (aJ a0 1)))) else (some (.inr (.inr (()))))
def eZ (a1:(List aF)):Int→Option (Int ⊕ (Unit ⊕ Unit)):=fun a0 =>
 if (decide (a0<(a1.length:Int))) then ((aM (eY a1 a0) 0).bind fun a2=>match a2 with | .inl a3=>some (.inr (.inl ())) | .inr a4=>some (.inl (aJ a0 1))) else (some (.inr (.inr (()))))
def cO (x0:aU):Option (Int):=
 (mP x0.Name x0.bD x0.cE x0.bQ).bind fun r2=>if (r2 != 0) then (some r2) else ((if (decide ((x0.aD.length:Int)>12)) then (some true) else (if (decide ((x0.bN.length:Int)>12)) then (some true) else (some (decide ((x0.Forms.length:Int)>12))))).bind fun j4=>if j4 then (some 4) else ((if ((x0.aD.length:Int)==0) then (some true) else ((cG x0.aD).bind fun b5=>if b5 then ((cG x0.bN).bind fun b6=>if b6 then ((cG x0.Forms).bind fun b7=>some (!b7)) else (some true)) else (some true))).bind fun a9=>if a9 then (some 1) else ((jN x0.aD).bind fun a6=>(if (a6.1 != 0) then (some true) else (some (a6.2 != 0))).bind fun b0=>if b0 then (some 1) else ((aM (eW x0) 0).bind fun a3=>match a3 with | .inl a7=>some 7 | .inr a8=>(lZ x0.aD).bind fun a2=>if (!a2) then (some 6) else ((app [] x0.bN).bind fun a1=>(app a1 x0.Forms).bind fun a0=>(aM (eX x0 a0) 0).bind fun a4=>match a4 with | .inl b1=>some 13 | .inr b2=>(aM (eZ a0) 0).bind fun a5=>match a5 with | .inl b3=>some 7 | .inr b4=>some 0)))))
def cX (set0:bA):Option (Bool):=
 ((lM set0.Gap 0 14400).bind fun r4=>if r4 then ((lM set0.aS 0 14400).bind fun r5=>some r5) else (some false)).bind fun j3=>some j3
def dD (set0:bA):Option (Bool):=
 (if (decide (set0.Gap ≥ 0)) then (if (decide (set0.Gap≤14400)) then (if (decide (set0.aS ≥ 0)) then (some (decide (set0.aS≤14400))) else (some false)) else (some false)) else (some false)).bind fun j1=>some j1
def wb (m n:Int):Bool:=decide (-m≤n)&&decide (n≤m)
theorem Fg {m n:Int}:wb m n=true↔-m≤n∧n≤m:=by unfold wb;simp only [Bool.and_eq_true,decide_eq_true_eq]
theorem EN (n m:Int) (h : -1000000000≤m∧m≤1000000000):Fy n m=some (wb m n):=by
 unfold Fy wb
 rw [Ko (by omega) (by omega)]
 by_cases h1 : -m≤n <;> simp [h1]
def vR (r:aF):Prop:=(-1048576≤r.X∧r.X≤1048576)∧(-1048576≤r.Y∧r.Y≤1048576)∧0<r.W∧0<r.H∧r.X+r.W≤1048576∧r.Y+r.H≤1048576
instance (r:aF):Decidable (vR r):=by unfold vR;infer_instance
theorem LI (x w:Int):tA x w=some (decide ((-1048576≤x∧x≤1048576)∧0<w∧x+w≤1048576)):=by
 unfold tA
 simp only [EN _ 1048576 (by omega),Option.bind_some]
 by_cases h1:wb 1048576 x=true
 ·have h1':=Fg.1 h1
  by_cases h2:0<w
  ·by_cases h3:w≤2097152
   ·rw [aR (by omega) (by omega)]
    simp [h1,h2,h3,h1']
   ·have:¬ x+w≤1048576:=by omega
    simp [h1,h2,h3,this]
  ·simp [h1,h2]
 ·have h1':¬ (-1048576≤x∧x≤1048576):=fun q=>h1 (Fg.2 q)
  simp [h1];intro a b;exact absurd ⟨a,b⟩ h1'
theorem nB (r:aF):fN r=some (decide (vR r)):=by
 unfold fN
 simp only [LI,Option.bind_some]
 by_cases h1:(-1048576≤r.X∧r.X≤1048576)∧0<r.W∧r.X+r.W≤1048576
 ·by_cases h2:(-1048576≤r.Y∧r.Y≤1048576)∧0<r.H∧r.Y+r.H≤1048576
  ·have:vR r:=by unfold vR;omega
   simp [h1,h2,this]
  ·have:¬ vR r:=by unfold vR;omega
   simp only [h1,h2,this,decide_true,decide_false,and_self];rfl
 ·have:¬ vR r:=by unfold vR;omega
  simp only [h1,this,decide_false];rfl
def tW (a b:aF):Prop:=vR a∧vR b∧b.X≤a.X∧a.X+a.W≤b.X+b.W∧b.Y≤a.Y∧a.Y+a.H≤b.Y+b.H
instance (a b:aF):Decidable (tW a b):=by unfold tW;infer_instance
theorem Tt (a b:aF):Ch a b=some (decide (tW a b)):=by
 unfold Ch tW
 simp only [nB,Option.bind_some]
 by_cases h1:vR a
 ·by_cases h2:vR b
  ·have h1':=h1;have h2':=h2
   unfold vR at h1' h2'
   rw [aR (by omega) (by omega),aR (by omega) (by omega),aR (by omega) (by omega),aR (by omega) (by omega)]
   by_cases h3:b.X≤a.X <;> by_cases h4:a.X+a.W≤b.X+b.W <;> by_cases h5:b.Y≤a.Y <;> simp [h1,h2,h3,h4,h5]
  ·simp [h1,h2]
 ·simp [h1]
theorem BJ (n:Int):fB n=some (wb 1048576 n):=by
 unfold fB wb
 by_cases h1 : -1048576≤n <;> simp [h1]
theorem Mq (r:aF):dW r=some (decide (vR r)):=by
 unfold dW
 simp only [BJ,Option.bind_some]
 by_cases h1:wb 1048576 r.X=true
 ·by_cases h2 : wb 1048576 r.Y=true
  ·have h1':=Fg.1 h1
   have h2':=Fg.1 h2
   by_cases h3:r.W<1
   ·have:¬ vR r:=by unfold vR;omega
    simp [h1,h2,h3,this]
   ·by_cases h4:r.H<1
    ·have:¬ vR r:=by unfold vR;omega
     simp [h1,h2,h3,h4,this]
    ·by_cases h5:r.W>2097152
     ·have:¬ vR r:=by unfold vR;omega
      simp [h1,h2,h3,h4,h5,this]
     ·by_cases h6:r.H>2097152
      ·have:¬ vR r:=by unfold vR;omega
       simp [h1,h2,h3,h4,h5,h6,this]
      ·rw [aR (by omega) (by omega),aR (by omega) (by omega)]
       simp only [h1,h2,h3,h4,h5,h6,if_true,decide_false,Bool.false_eq_true,if_false,Option.bind_some]
       by_cases h7:wb 1048576 (r.X+r.W)=true
       ·have h7':=Fg.1 h7
        by_cases h8:wb 1048576 (r.Y+r.H)=true
        ·have h8':=Fg.1 h8
         have:vR r:=by unfold vR;omega
         simp [h7,h8,this]
        ·have h8':¬ (-1048576≤r.Y+r.H∧r.Y+r.H≤1048576):=fun q=>h8 (Fg.2 q)
         have:¬ vR r:=by unfold vR;omega
         simp [h7,h8,this]
       ·have h7':¬ (-1048576≤r.X+r.W∧r.X+r.W≤1048576):=fun q=>h7 (Fg.2 q)
        have:¬ vR r:=by unfold vR;omega
        simp [h7,this]
  ·have h2':¬ (-1048576≤r.Y∧r.Y≤1048576):=fun q=>h2 (Fg.2 q)
   have:¬ vR r:=fun q=>h2' q.2.1
   simp [h1,h2,this]
 ·have h1':¬ (-1048576≤r.X∧r.X≤1048576):=fun q=>h1 (Fg.2 q)
  have:¬ vR r:=fun q=>h1' q.1
  simp [h1,this]
theorem Tv (a b:aF):iT a b=some (decide (tW a b)):=by
 unfold iT tW
 simp only [Mq,Option.bind_some]
 by_cases h1:vR a
 ·by_cases h2:vR b
  ·have h1':=h1;have h2':=h2
   unfold vR at h1' h2'
   rw [aR (by omega) (by omega),aR (by omega) (by omega),aR (by omega) (by omega),aR (by omega) (by omega)]
   by_cases h3:b.X≤a.X <;> by_cases h4:a.X+a.W≤b.X+b.W <;> by_cases h5:b.Y≤a.Y <;> simp [h1,h2,h3,h4,h5]
  ·simp [h1,h2]
 ·simp [h1]
theorem uD {S R:Type} (n:Nat) (body:S→Option (S ⊕ R)) (st:Nat→S) (q:Nat→Bool) (no yes:R) {s0:S} (h0:st 0=s0) (step:∀ k:Nat,k<n→body (st k)=if q k then some (.inr yes) else some (.inl (st (k+1)))) (fin:body (st n)=some (.inr no)) :
  aM body s0=some (if (List.range n).any q then yes else no):=by
 have key:∀ (m k:Nat),k+m=n→(∀ j,j<k→q j=false)→aM body (st k)=some (if (List.range n).any q then yes else no):=by
  intro m
  induction m with
  | zero =>
    intro k h hb
    obtain rfl:k=n:=by omega
    have:(List.range k).any q=false:=by
     rw [List.any_eq_false];intro j hj;rw [hb j (List.mem_range.1 hj)];simp
    rw [cF fin,this];rfl
  | succ m ih =>
    intro k h hb
    have hs:=step k (by omega)
    by_cases hq:q k=true
    ·rw [if_pos hq] at hs
     have:(List.range n).any q=true:=List.any_eq_true.2 ⟨k,List.mem_range.2 (by omega),hq⟩
     rw [cF hs,this];rfl
    ·rw [if_neg hq] at hs
     rw [eI hs]
     refine ih (k+1) (by omega) fun j hj=>?_
     by_cases hjk:j=k
     ·subst hjk;simpa using hq
     ·exact hb j (by omega)
 rw [← h0]
 exact key n 0 (by omega) (fun j hj=>absurd hj (by omega))
theorem CG {α:Type} (l:List α) (q:α→Bool) (p:Nat→Bool) (h:∀ k x,l[k]?=some x→p k=q x):(List.range l.length).any p=l.any q:=by
 rw [Bool.eq_iff_iff,List.any_eq_true,List.any_eq_true]
 constructor
 ·rintro ⟨k,hk,hp⟩
  have hk':=List.mem_range.1 hk
  have hx:l[k]?=some l[k]:=by simp
  exact ⟨l[k],List.getElem_mem hk',by rw [← h k _ hx];exact hp⟩
 ·rintro ⟨x,hx,hq⟩
  obtain ⟨k,hk⟩:=List.mem_iff_getElem?.1 hx
  exact ⟨k,List.mem_range.2 (List.getElem?_eq_some_iff.1 hk).1,by rw [h k _ hk];exact hq⟩
theorem dB {α S R:Type} (l:List α) (body:S→Option (S ⊕ R)) (st:Nat→S) (q:α→Bool) (no yes:R) {s0:S} (h0:st 0=s0) (step:∀ (k:Nat) (x:α),l[k]?=some x→body (st k)=if q x then some (.inr yes) else some (.inl (st (k+1)))) (fin:body (st l.length)=some (.inr no)) :
  aM body s0=some (if l.any q then yes else no):=by
 rw [uD l.length body st (fun k=>match l[k]? with | some x=>q x | none=>false) no yes h0 (fun k hk=>?_) fin]
 ·rw [CG l q _ (fun k x h=>by rw [h])]
 ·have hx:l[k]?=some l[k]:=by simp
  rw [step k _ hx,hx]
def ovR (a b:aF):Prop:=vR a∧vR b∧a.X<b.X+b.W∧b.X<a.X+a.W∧a.Y<b.Y+b.H∧b.Y<a.Y+a.H
instance (a b:aF):Decidable (ovR a b):=by unfold ovR;infer_instance
theorem Ls (a b:aF):wM a b=some (decide (ovR a b)):=by
 unfold wM ovR
 simp only [nB,Option.bind_some]
 by_cases h1:vR a
 ·by_cases h2:vR b
  ·have h1':=h1;have h2':=h2
   unfold vR at h1' h2'
   rw [aR (by omega) (by omega),aR (by omega) (by omega),aR (by omega) (by omega),aR (by omega) (by omega)]
   by_cases h3:a.X<b.X+b.W <;> by_cases h4:b.X<a.X+a.W <;> by_cases h5:a.Y<b.Y+b.H <;> simp [h1,h2,h3,h4,h5]
  ·simp [h1,h2]
 ·simp [h1]
theorem Oz (a b:aF):jT a b=some (decide (ovR a b)):=by
 unfold jT ovR
 simp only [Mq,Option.bind_some]
 by_cases h1:vR a
 ·by_cases h2:vR b
  ·have h1':=h1;have h2':=h2
   unfold vR at h1' h2'
   rw [aR (by omega) (by omega),aR (by omega) (by omega),aR (by omega) (by omega),aR (by omega) (by omega)]
   by_cases h3:a.X<b.X+b.W <;> by_cases h4:b.X<a.X+a.W <;> by_cases h5:a.Y<b.Y+b.H <;> simp [h1,h2,h3,h4,h5]
  ·simp [h1,h2]
 ·simp [h1]
def zX (a b:aF):Int:=if vR a∧vR b then max 0 (max (max (b.X-(a.X+a.W)) (a.X-(b.X+b.W))) (max (b.Y-(a.Y+a.H)) (a.Y-(b.Y+b.H)))) else 0
theorem Ij (a b:Int):imax a b=max a b:=by unfold imax;split <;> omega
theorem Nk (a b:Int):Ad a b=min a b:=by unfold Ad;split <;> omega
theorem Oy (a b:aF):xE a b=some (zX a b):=by
 unfold xE zX
 simp only [nB,Option.bind_some]
 by_cases h1:vR a
 ·by_cases h2:vR b
  ·have h1':=h1;have h2':=h2
   unfold vR at h1' h2'
   rw [bF (a:=b.X) (by omega) (by omega),bF (a:=a.X) (by omega) (by omega),bF (a:=b.Y) (by omega) (by omega),bF (a:=a.Y) (by omega) (by omega),bF (by omega) (by omega),bF (by omega) (by omega),bF (by omega) (by omega),bF (by omega) (by omega)]
   simp only [h1,h2,Ij,decide_true,and_self,if_true,Bool.not_true,Option.bind_some,Bool.false_eq_true,if_false]
   congr 1
   omega
  ·simp [h1,h2]
 ·simp [h1]
theorem Wb (a b:aF):mN a b=some (zX a b):=by
 unfold mN zX
 simp only [Mq,Option.bind_some]
 by_cases h1:vR a
 ·by_cases h2:vR b
  ·have h1':=h1;have h2':=h2
   unfold vR at h1' h2'
   rw [bF (a:=b.X) (by omega) (by omega),bF (a:=a.X) (by omega) (by omega),bF (a:=b.Y) (by omega) (by omega),bF (a:=a.Y) (by omega) (by omega),bF (by omega) (by omega),bF (by omega) (by omega),bF (by omega) (by omega),bF (by omega) (by omega)]
   simp only [h1,h2,Ij,decide_true,and_self,if_true,Bool.not_true,Option.bind_some,Bool.false_eq_true,if_false]
   congr 1
   omega
  ·simp [h1,h2]
 ·simp [h1]
def blk (s:bA) (a b:aF):Bool:=decide (ovR a b) || (decide (zX a b<s.Gap)&&!(s.dM&&(zX a b==0)))
def clr (s:bA) (a b:List aF):Bool:=!(a.any fun x=>b.any fun y=>blk s x y)
theorem ER (a b:List aF) (s:bA) (ha:a.length≤9223372036854775806) (hb:b.length≤9223372036854775806):Il a b s=some (clr s a b):=by
 have inner:∀ x:aF,aM (xM b s x) (0,s.dM)=some (if (b.any fun y=>blk s x y) then .inl () else .inr s.dM):=by
  intro x
  refine dB b (xM b s x) (fun k=>((k:Int),s.dM)) (fun y=>blk s x y) _ _ rfl (fun k y hy=>?_) ?_
  ·have hk:=(List.getElem?_eq_some_iff.1 hy).1
   unfold xM
   have h1:decide ((k:Int)<(b.length:Int))=true:=by simp;omega
   simp only [h1,if_true,bE hy,Option.bind_some,Oy,Ls]
   rw [aR (a:=(k:Int)) (by omega) (by omega)]
   unfold blk
   by_cases h2:ovR x y
   ·simp [h2]
   ·by_cases h3:zX x y<s.Gap
    ·cases h4:s.dM
     ·simp [h2,h3]
     ·by_cases h5:zX x y=0
      ·simp [h2,h5]
      ·simp [h2,h3,h5]
    ·simp [h2,h3]
  ·simp [xM]
 unfold Il
 have top:aM (xN a b s) (0,s.dM)=some (if (a.any fun x=>b.any fun y=>blk s x y) then .inl () else .inr ()):=by
  refine dB a (xN a b s) (fun k=>((k:Int),s.dM)) (fun x=>b.any fun y=>blk s x y) _ _ rfl (fun k x hx=>?_) ?_
  ·have hk:=(List.getElem?_eq_some_iff.1 hx).1
   unfold xN
   have h1:decide ((k:Int)<(a.length:Int))=true:=by simp;omega
   simp only [h1,if_true,bE hx,Option.bind_some,inner]
   rw [aR (a:=(k:Int)) (by omega) (by omega)]
   cases (b.any fun y=>blk s x y) <;> simp
  ·simp [xN]
 rw [top]
 unfold clr
 cases (a.any fun x=>b.any fun y=>blk s x y) <;> rfl
theorem DQ (a b:List aF) (s:bA) (ha:a.length≤9223372036854775806) (hb:b.length≤9223372036854775806):uS a b s=some (clr s a b):=by
 have inner:∀ (j:Nat) (x:aF),a[j]?=some x→aM (jQ a b s ((j:Int),s.dM)) (0,s.dM)=some (if (b.any fun y=>blk s x y) then .inl () else .inr s.dM):=by
  intro j x hx
  refine dB b (jQ a b s ((j:Int),s.dM)) (fun k=>((k:Int),s.dM)) (fun y=>blk s x y) _ _ rfl (fun k y hy=>?_) ?_
  ·have hk:=(List.getElem?_eq_some_iff.1 hy).1
   unfold jQ
   have h1:decide ((k:Int)<(b.length:Int))=true:=by simp;omega
   simp only [h1,if_true,bE hy,bE hx,Option.bind_some,Wb,Oz]
   rw [aR (a:=(k:Int)) (by omega) (by omega)]
   unfold blk
   by_cases h2:ovR x y
   ·simp [h2]
   ·by_cases h3:zX x y<s.Gap
    ·cases h4:s.dM
     ·simp [h2,h3]
     ·by_cases h5:zX x y=0
      ·simp [h2,h5]
      ·simp [h2,h3,h5]
    ·simp [h2,h3]
  ·simp [jQ]
 unfold uS
 have top:aM (jR a b s) (0,s.dM)=some (if (a.any fun x=>b.any fun y=>blk s x y) then .inl () else .inr ()):=by
  refine dB a (jR a b s) (fun k=>((k:Int),s.dM)) (fun x=>b.any fun y=>blk s x y) _ _ rfl (fun k x hx=>?_) ?_
  ·have hk:=(List.getElem?_eq_some_iff.1 hx).1
   unfold jR
   have h1:decide ((k:Int)<(a.length:Int))=true:=by simp;omega
   simp only [h1,if_true,Option.bind_some,inner k x hx]
   rw [aR (a:=(k:Int)) (by omega) (by omega)]
   cases (b.any fun y=>blk s x y) <;> simp
  ·simp [jR]
 rw [top]
 unfold clr
 cases (a.any fun x=>b.any fun y=>blk s x y) <;> rfl
end Go.SM
namespace Go.SM
open Go Go.VI Go.Cells
def MK (l:List aF):Prop:=∀ r ∈ l,vR r
end Go.SM
namespace Go.Cells
def OG (s:Int→Int) (a b:Int):Prop:=a<b∧s a≠0∧(∀ z,a≤z→z<b→s z=s a)∧s (a-1)≠s a∧s b≠s a
def MN (s:Int→Int) (l:List (Int×Int)):Prop:=l.Pairwise (fun p q=>p.1<q.1)∧∀ a b,(a,b) ∈ l↔OG s a b
def cut (s:Int→Int) (e:Int):Int→Int:=fun z=>if z<e then s z else 0
section
variable {s:Int→Int} {e e':Int} {l:List (Int×Int)} (h:MN (cut s e) l) (he:e<e') (hs:∀ z,e≤z→z<e'→s z=s e)
include h he hs
end
end Go.Cells
namespace Go.SM
open Go Go.VI Go.Cells
def xsL (l:List aF):List Int:=l.flatMap fun r=>[r.X,r.X+r.W]
def ysL (l:List aF):List Int:=l.flatMap fun r=>[r.Y,r.Y+r.H]
theorem JF {r:aF} (h:vR r):aJ r.X r.W=r.X+r.W∧aJ r.Y r.H=r.Y+r.H:=by
 unfold vR at h
 exact ⟨aR (by omega) (by omega),aR (by omega) (by omega)⟩
theorem fI {α:Type} {l:List α} {k:Nat} {x:α} (h:l[k]?=some x):l.take (k+1)=l.take k++[x]:=by rw [List.take_add_one,h];rfl
def ps (g:Int→Int) (xs:List Int) (k:Nat):Int:=OD (fun i=>(xs.getD (i+1) 0-xs.getD i 0)*g (xs.getD i 0)) k
theorem JS {xs:List Int} (h:xs.Pairwise fun x y=>x<y) {i j:Nat} {x y:Int} (hij:i<j) (hx:xs[i]?=some x) (hy:xs[j]?=some y):x<y:=by
 obtain ⟨a,rfl⟩:=List.getElem?_eq_some_iff.1 hx
 obtain ⟨b,rfl⟩:=List.getElem?_eq_some_iff.1 hy
 exact List.pairwise_iff_getElem.1 h i j a b hij
structure LV (xs:List Int):Prop where
 asc:xs.Pairwise fun x y=>x<y
 within:∀ x ∈ xs,-1048576≤x∧x≤1048576
 len:xs.length≤1000
structure Has (xs ys:List Int) (l:List aF):Prop where
 X:LV xs
 Y:LV ys
 x:∀ c ∈ xsL l,c ∈ xs
 y:∀ c ∈ ysL l,c ∈ ys
 v:MK l
section
variable {xs ys:List Int} {l:List aF} (h:Has xs ys l)
include h
omit h in
theorem ends {x0:Int} {t:List Int} (ha:(x0::t).Pairwise fun x y=>x<y):∀ a ∈ x0::t,x0≤a∧a≤(x0::t).getLast (by simp):=fun a m=>by
 constructor
 ·rcases List.mem_cons.1 m with rfl | m
  ·exact Int.le_refl _
  ·exact Int.le_of_lt ((List.pairwise_cons.1 ha).1 a m)
 ·have e:x0::t=(x0::t).dropLast++[(x0::t).getLast (by simp)]:=(List.dropLast_concat_getLast (by simp)).symm
  rw [e,List.pairwise_append] at ha
  rw [e] at m
  rcases List.mem_append.1 m with m | m
  ·exact Int.le_of_lt (ha.2.2 a m _ (by simp))
  ·simp at m;omega
end
theorem Uq {α:Type} [BEq α] [LawfulBEq α]:∀ {g l:List α},g.Nodup→(∀ x ∈ g,x ∈ l)→g.length≤l.length
 | [],_,_,_=>by simp
 | x::g,l,hn,h=>by
   rw [List.nodup_cons] at hn
   have:=Uq (g:=g) (l:=l.erase x) hn.2 fun y hy=>(List.mem_erase_of_ne (fun e=>hn.1 (by rw [← e];exact hy))).2 (h y (List.mem_cons_of_mem _ hy))
   rw [List.length_erase_of_mem (h x List.mem_cons_self)] at this
   have hp:=List.length_pos_of_mem (h x List.mem_cons_self)
   simp only [List.length_cons];omega
theorem Qb {g l:List Int} (hg:g.Pairwise fun x y=>x<y) (h:∀ x ∈ g,x ∈ l):g.length≤l.length:=by
 have hn:g.Nodup:=hg.imp fun q=>by omega
 exact Uq hn h
end Go.SM
namespace Go.SM
open Go Go.VI
def Pw (s0:Bu):Int→Option (Int ⊕ (Unit ⊕ Unit)):=fun a0 =>
 if (decide (a0<([s0.X1,s0.Y1,s0.X2,s0.Y2].length:Int))) then ((idx [s0.X1,s0.Y1,s0.X2,s0.Y2] a0).bind fun a1=>(if (decide (a1<(-1048576))) then (some true) else (some (decide (a1>1048576)))).bind fun a2=>if a2 then (some (.inr (.inl ()))) else (some (.inl (aJ a0 1)))) else (some (.inr (.inr (()))))
def Na (s0:Bu):Option (Bool):=
 (aM (Pw s0) 0).bind fun a0=>match a0 with | .inl a1=>some false | .inr a2=>some true
def xC (a1:(List aF)):Int→Option (Int ⊕ (Unit ⊕ Unit)):=fun a0 =>
 if (decide (a0<(a1.length:Int))) then ((idx a1 a0).bind fun a3=>(fN a3).bind fun a2=>if (!a2) then (some (.inr (.inl ()))) else (some (.inl (aJ a0 1)))) else (some (.inr (.inr (()))))
def xD (f:Flat):Int→Option (Int ⊕ (Unit ⊕ Unit)):=fun a0 =>
 if (decide (a0<([f.aD,f.bN,f.Forms].length:Int))) then ((idx [f.aD,f.bN,f.Forms] a0).bind fun a1=>if (decide ((a1.length:Int)>48)) then (some (.inr (.inl ()))) else ((aM (xC a1) 0).bind fun a2=>match a2 with | .inl a3=>some (.inr (.inl ())) | .inr a4=>some (.inl (aJ a0 1)))) else (some (.inr (.inr (()))))
def Gl (f:Flat):Int→Option (Int ⊕ (Unit ⊕ Unit)):=fun a0 =>
 if (decide (a0<(f.qZ.length:Int))) then ((idx f.qZ a0).bind fun a2=>(Na a2.Line).bind fun a1=>if (!a1) then (some (.inr (.inl ()))) else (some (.inl (aJ a0 1)))) else (some (.inr (.inr (()))))
def Eb (f:Flat):Option (Int):=
 if ((f.aD.length:Int)==0) then (some 1) else ((aM (xD f) 0).bind fun a0=>match a0 with | .inl a2=>some 1 | .inr a3=>(aM (Gl f) 0).bind fun a1=>match a1 with | .inl a4=>some 1 | .inr a5=>some 0)
def Aa (r0:aF):Option (aF):=
 some (aF.mk (aI (pT r0.Y) r0.H) r0.X r0.H r0.W)
def wL (l:(List aF)):Int×(List aF)→Option (Int×(List aF) ⊕ (List aF)):=fun a0 =>
 if (decide (a0.1<(l.length:Int))) then ((idx l a0.1).bind fun a3=>(Aa a3).bind fun a2=>(app a0.2 [a2]).bind fun a1=>some (.inl ((aJ a0.1 1),a1))) else (some (.inr a0.2))
def uK (l:(List aF)):Option ((List aF)):=
 (aM (wL l) (0,[])).bind fun a0=>some a0
def Jp (s0:Bu):Option (Bu):=
 some (Bu.mk (pT s0.Y1) s0.X1 (pT s0.Y2) s0.X2)
def fE (f:Flat):Int×(List pX)→Option (Int×(List pX) ⊕ (List pX)):=fun a0 =>
 if (decide (a0.1<(f.qZ.length:Int))) then ((idx f.qZ a0.1).bind fun a1=>(Jp a1.Line).bind fun a3=>(app a0.2 [(pX.mk a1.Yi a1.Yj a3 a1.EO a1.Yh)]).bind fun a2=>some (.inl ((aJ a0.1 1),a2))) else (some (.inr a0.2))
def gC (f:Flat):Option (Flat):=
 (uK f.aD).bind fun r7=>(uK f.bN).bind fun r8=>(uK f.Forms).bind fun r9=>(aM (fE f) (0,[])).bind fun a0=>some (Flat.mk r7 r8 r9 a0)
def Da (f:Flat):Option (Flat):=
 (gC f).bind fun r2=>some r2
def vL (a2:(List aF)):(Int×Int×Int×Int×Int)→Option ((Int×Int×Int×Int×Int) ⊕ (Int×Int×Int×Int)):=fun a0 =>
 if (decide (a0.1<(a2.length:Int))) then ((idx a2 a0.1).bind fun a1=>some (.inl ((aJ a0.1 1),(Ad a0.2.1 a1.X),(Ad a0.2.2.1 a1.Y),(aI (imax (aJ a0.2.1 a0.2.2.2.1) (aJ a1.X a1.W)) (Ad a0.2.1 a1.X)),(aI (imax (aJ a0.2.2.1 a0.2.2.2.2) (aJ a1.Y a1.H)) (Ad a0.2.2.1 a1.Y))))) else (some (.inr (a0.2.1,a0.2.2.1,a0.2.2.2.1,a0.2.2.2.2)))
def Fw (l:(List aF)):Option (aF×Int×Int×Int×Int):=
 (idx l 0).bind fun x2=>(slc l 1 (l.length:Int)).bind fun a1=>(aM (vL a1) (0,x2.X,x2.Y,x2.W,x2.H)).bind fun a0=>some ((aF.mk a0.1 a0.2.1 a0.2.2.1 a0.2.2.2),a0.1,a0.2.1,a0.2.2.1,a0.2.2.2)
def Ec (r0:aF) (a_0:Int) (a_1:Int) (a_2:Int) (a_3:Int):Option (aF):=
 some (aF.mk (aI r0.X a_0) (aI r0.Y a_1) r0.W r0.H)
def uV (l:(List aF)) (a_0_0_0:Int) (a_0_0_1:Int) (a_0_0_2:Int) (a_0_0_3:Int):Int×(List aF)→Option (Int×(List aF) ⊕ (List aF)):=fun a0 =>
 if (decide (a0.1<(l.length:Int))) then ((idx l a0.1).bind fun a3=>(Ec a3 a_0_0_0 a_0_0_1 a_0_0_2 a_0_0_3).bind fun a2=>(app a0.2 [a2]).bind fun a1=>some (.inl ((aJ a0.1 1),a1))) else (some (.inr a0.2))
def sZ (l:(List aF)) (a_0_0_0:Int) (a_0_0_1:Int) (a_0_0_2:Int) (a_0_0_3:Int):Option ((List aF)):=
 (aM (uV l a_0_0_0 a_0_0_1 a_0_0_2 a_0_0_3) (0,[])).bind fun a0=>some a0
def Jq (s0:Bu) (a_0:Int) (a_1:Int) (a_2:Int) (a_3:Int):Option (Bu):=
 some (Bu.mk (aI s0.X1 a_0) (aI s0.Y1 a_1) (aI s0.X2 a_0) (aI s0.Y2 a_1))
def fF (f:Flat) (line_0_0:Int) (line_0_1:Int) (line_0_2:Int) (line_0_3:Int):Int×(List pX)→Option (Int×(List pX) ⊕ (List pX)):=fun a0 =>
 if (decide (a0.1<(f.qZ.length:Int))) then ((idx f.qZ a0.1).bind fun a1=>(Jq a1.Line line_0_0 line_0_1 line_0_2 line_0_3).bind fun a3=>(app a0.2 [(pX.mk a1.Yi a1.Yj a3 a1.EO a1.Yh)]).bind fun a2=>some (.inl ((aJ a0.1 1),a2))) else (some (.inr a0.2))
def gD (f:Flat) (rect_0_0:Int) (rect_0_1:Int) (rect_0_2:Int) (rect_0_3:Int) (line_0_0:Int) (line_0_1:Int) (line_0_2:Int) (line_0_3:Int):Option (Flat):=
 (sZ f.aD rect_0_0 rect_0_1 rect_0_2 rect_0_3).bind fun r7=>(sZ f.bN rect_0_0 rect_0_1 rect_0_2 rect_0_3).bind fun r8=>(sZ f.Forms rect_0_0 rect_0_1 rect_0_2 rect_0_3).bind fun r9=>(aM (fF f line_0_0 line_0_1 line_0_2 line_0_3) (0,[])).bind fun a0=>some (Flat.mk r7 r8 r9 a0)
def Db (f:Flat):Option (Flat×Int):=
 (Fw f.aD).bind fun r2=>(gD f r2.1.X r2.1.Y r2.1.W r2.1.H r2.1.X r2.1.Y r2.1.W r2.1.H).bind fun r4=>(Eb r4).bind fun r8=>if (r8 != 0) then (some ((Flat.mk [] [] [] []),4)) else (some (r4,0))
def uB (turns:Int):(Int×(List aF)×(List aF)×(List aF)×(List pX))→Option ((Int×(List aF)×(List aF)×(List aF)×(List pX)) ⊕ ((List aF)×(List aF)×(List aF)×(List pX))):=fun a0 =>
 if (decide (a0.1<turns)) then ((Da (Flat.mk a0.2.1 a0.2.2.1 a0.2.2.2.1 a0.2.2.2.2)).bind fun a1=>some (.inl ((aJ a0.1 1),a1.aD,a1.bN,a1.Forms,a1.qZ))) else (some (.inr (a0.2.1,a0.2.2.1,a0.2.2.2.1,a0.2.2.2.2)))
def Cr (f:Flat):Unit→Option (Unit ⊕ Unit):=fun a0 =>
 if (decide (0<(f.qZ.length:Int))) then (none) else (some (.inr ()))
def zY (f:Flat) (turns:Int):Option (Flat×Int):=
 (Eb f).bind fun r5=>(if (r5 != 0) then (some true) else (if (decide (turns<0)) then (some true) else (some (decide (turns>3))))).bind fun j6=>if j6 then (some ((Flat.mk [] [] [] []),1)) else ((aM (uB turns) (0,f.aD,f.bN,f.Forms,f.qZ)).bind fun a0=>(aM (Cr f) ()).bind fun a2=>(Db (Flat.mk a0.1 a0.2.1 a0.2.2.1 a0.2.2.2)).bind fun a1=>some (a1.1,a1.2))
def xO (l:(List aF)) (x1:Int) (y:Int) (l2:(List aF)):Int×(List aF)→Option (Int×(List aF) ⊕ (List aF)):=fun a0 =>
 if (decide (a0.1<((cpy l2 (0) (List.take (min l.length (l2.length)) l)).length:Int))) then ((idx a0.2 a0.1).bind fun a4=>(idx a0.2 a0.1).bind fun a1=>(idx (List.set a0.2 (Int.toNat a0.1) (aF.mk (aJ a4.X x1) a1.Y a1.W a1.H)) a0.1).bind fun a3=>(idx (List.set a0.2 (Int.toNat a0.1) (aF.mk (aJ a4.X x1) a1.Y a1.W a1.H)) a0.1).bind fun a2=>some (.inl ((aJ a0.1 1),(List.set (List.set a0.2 (Int.toNat a0.1) (aF.mk (aJ a4.X x1) a1.Y a1.W a1.H)) (Int.toNat a0.1) (aF.mk a2.X (aJ a3.Y y) a2.W a2.H))))) else (some (.inr a0.2))
def Bg (l:(List aF)) (x1:Int) (y:Int):Option ((List aF)):=
 (mk (l.length:Int) (aF.mk 0 0 0 0)).bind fun l2=>(aM (xO l x1 y l2) (0,(cpy l2 (0) (List.take (min l.length (l2.length)) l)))).bind fun a0=>some a0
def tH (x0:aU) (at1:aN):Option (aU×Int×ByteArray×ByteArray×Int×Int):=
 (zY (Flat.mk x0.aD x0.bN x0.Forms []) at1.tZ).bind fun r2=>if (r2.2 != 0) then (some ((aU.mk ByteArray.empty ByteArray.empty 0 0 [] [] []),4,ByteArray.empty,ByteArray.empty,0,0)) else ((Bg r2.1.aD at1.X at1.Y).bind fun r9=>(Bg r2.1.bN at1.X at1.Y).bind fun a0=>(Bg r2.1.Forms at1.X at1.Y).bind fun a1=>((oM r9).bind fun a3=>if a3 then ((oM a0).bind fun a4=>if a4 then ((oM a1).bind fun a5=>some (!a5)) else (some true)) else (some true)).bind fun a2=>if a2 then (some ((aU.mk ByteArray.empty ByteArray.empty 0 0 [] [] []),4,ByteArray.empty,ByteArray.empty,0,0)) else (some ((aU.mk x0.Name x0.bD x0.cE x0.bQ r9 a0 a1),0,x0.Name,x0.bD,x0.cE,x0.bQ)))
def tD (x0:aU) (at1:aN):Option (aU×Int×ByteArray×ByteArray×Int×Int):=
 (bB x0).bind fun r4=>if (r4 != 0) then (some ((aU.mk ByteArray.empty ByteArray.empty 0 0 [] [] []),r4,ByteArray.empty,ByteArray.empty,0,0)) else ((lM at1.tZ 0 3).bind fun r8=>if (!r8) then (some ((aU.mk ByteArray.empty ByteArray.empty 0 0 [] [] []),1,ByteArray.empty,ByteArray.empty,0,0)) else (((lM at1.X (-1048576) 1048576).bind fun a2=>if a2 then ((lM at1.Y (-1048576) 1048576).bind fun a3=>some (!a3)) else (some true)).bind fun a1=>if a1 then (some ((aU.mk ByteArray.empty ByteArray.empty 0 0 [] [] []),4,ByteArray.empty,ByteArray.empty,0,0)) else ((tH x0 at1).bind fun a0=>some ((aU.mk a0.1.Name a0.1.bD a0.1.cE a0.1.bQ a0.1.aD a0.1.bN a0.1.Forms),a0.2.1,a0.1.Name,a0.1.bD,a0.1.cE,a0.1.bQ))))
def nJ (a1:Int×(List aF)) (a2:aF):(Int×Int)→Option (Int×(List aF) ⊕ (List aF)):=fun a0 =>
 (app a1.2 [(aF.mk a0.1 a0.2 a2.W a2.H)]).bind fun a3=>some (.inl ((aJ a1.1 1),a3))
def nK (l:(List aF)) (x1:Int) (y:Int):Int×(List aF)→Option (Int×(List aF) ⊕ (List aF)):=fun a1 =>
 if (decide (a1.1<(l.length:Int))) then ((idx l a1.1).bind fun a0=>(if (decide (a0.X>(-2147483648))) then (if (decide (a0.X<2147483648)) then (if (decide (a0.Y>(-2147483648))) then (some (decide (a0.Y<2147483648))) else (some false)) else (some false)) else (some false)).bind fun a2=>if a2 then (nJ a1 a0 ((aJ a0.X x1),(aJ a0.Y y))) else (nJ a1 a0 (a0.X,a0.Y))) else (some (.inr a1.2))
def jM (l:(List aF)) (x1:Int) (y:Int):Option ((List aF)):=
 (aM (nK l x1 y) (0,[])).bind fun a0=>some a0
def kE (x0:aU) (dx:Int) (dy:Int):Option (aU):=
 (jM x0.aD dx dy).bind fun r2=>(jM x0.bN dx dy).bind fun r4=>(jM x0.Forms dx dy).bind fun r6=>some (aU.mk x0.Name x0.bD x0.cE x0.bQ r2 r4 r6)
def lD (l:(List aF)):Int×(List aF)→Option (Int×(List aF) ⊕ (List aF)):=fun a0 =>
 if (decide (a0.1<(l.length:Int))) then ((idx l a0.1).bind fun a1=>(app a0.2 [(aF.mk (pT (aJ a1.Y a1.H)) a1.X a1.H a1.W)]).bind fun a2=>some (.inl ((aJ a0.1 1),a2))) else (some (.inr a0.2))
def iH (l:(List aF)):Option ((List aF)):=
 (aM (lD l) (0,[])).bind fun a0=>some a0
def iY (turn:Int):(Int×(List aF)×(List aF)×(List aF))→Option ((Int×(List aF)×(List aF)×(List aF)) ⊕ ((List aF)×(List aF)×(List aF))):=fun a0 =>
 if (decide (a0.1<turn)) then ((iH a0.2.1).bind fun a1=>(iH a0.2.2.1).bind fun a2=>(iH a0.2.2.2).bind fun a3=>some (.inl ((aJ a0.1 1),a1,a2,a3))) else (some (.inr (a0.2.1,a0.2.2.1,a0.2.2.2)))
def gG (x0:aU) (turn:Int):Option (aU×ByteArray×ByteArray×Int×Int):=
 (kE x0 0 0).bind fun r2=>(aM (iY turn) (0,r2.aD,r2.bN,r2.Forms)).bind fun a1=>(jN a1.1).bind fun a2=>(kE (aU.mk r2.Name r2.bD r2.cE r2.bQ a1.1 a1.2.1 a1.2.2) (pT a2.1) (pT a2.2)).bind fun a0=>some (a0,a0.Name,a0.bD,a0.cE,a0.bQ)
def gU (x0:aU) (at1:aN):Option (aU×Int×ByteArray×ByteArray×Int×Int):=
 (cO x0).bind fun r2=>if (r2 != 0) then (some ((aU.mk ByteArray.empty ByteArray.empty 0 0 [] [] []),r2,ByteArray.empty,ByteArray.empty,0,0)) else ((if (decide (at1.tZ<0)) then (some true) else (some (decide (at1.tZ>3)))).bind fun j4=>if j4 then (some ((aU.mk ByteArray.empty ByteArray.empty 0 0 [] [] []),1,ByteArray.empty,ByteArray.empty,0,0)) else (((fB at1.X).bind fun a4=>if a4 then ((fB at1.Y).bind fun a5=>some (!a5)) else (some true)).bind fun a2=>if a2 then (some ((aU.mk ByteArray.empty ByteArray.empty 0 0 [] [] []),4,ByteArray.empty,ByteArray.empty,0,0)) else ((gG x0 at1.tZ).bind fun a1=>(kE (aU.mk a1.1.Name a1.1.bD a1.1.cE a1.1.bQ a1.1.aD a1.1.bN a1.1.Forms) at1.X at1.Y).bind fun a0=>((cG a0.aD).bind fun a6=>if a6 then ((cG a0.bN).bind fun a7=>if a7 then ((cG a0.Forms).bind fun a8=>some (!a8)) else (some true)) else (some true)).bind fun a3=>if a3 then (some ((aU.mk ByteArray.empty ByteArray.empty 0 0 [] [] []),4,ByteArray.empty,ByteArray.empty,0,0)) else (some (a0,0,a0.Name,a0.bD,a0.cE,a0.bQ)))))
def rD (n:Int) (h380:(List Int)):Int→Option (Int ⊕ Int):=fun a0 =>
 (if (decide (a0>0)) then ((idx h380 (aI a0 1)).bind fun a2=>some (decide (a2>n))) else (some false)).bind fun a1=>if a1 then (some (.inl (aI a0 1))) else (some (.inr a0))
def rE (a3:Int):Int×(List Int)→Option (Int×(List Int) ⊕ (List Int)):=fun a0 =>
 if (decide (a0.1>a3)) then ((idx a0.2 (aI a0.1 1)).bind fun a1=>(idx a0.2 a0.1).bind fun a2=>some (.inl ((aI a0.1 1),(List.set a0.2 (Int.toNat a0.1) a1)))) else (some (.inr a0.2))
def gH (n:Int) (h380:(List Int)):Option ((List Int)):=
 (aM (rD n h380) (h380.length:Int)).bind fun a1=>(if (decide (a1>0)) then ((idx h380 (aI a1 1)).bind fun a5=>some (a5==n)) else (some false)).bind fun a3=>if a3 then (some h380) else ((app h380 [0]).bind fun a2=>(aM (rE a1) ((aI (a2.length:Int) 1),a2)).bind fun a0=>(idx a0 a1).bind fun a4=>some (List.set a0 (Int.toNat a1) n))
def tF (b:(List aF)) (a2:aF):Int→Option (Int ⊕ (Unit ⊕ Unit)):=fun a0 =>
 if (decide (a0<(b.length:Int))) then ((idx b a0).bind fun a3=>(wM a2 a3).bind fun a1=>if a1 then (some (.inr (.inl ()))) else (some (.inl (aJ a0 1)))) else (some (.inr (.inr (()))))
def tG (a:(List aF)) (b:(List aF)):Int→Option (Int ⊕ (Unit ⊕ Unit)):=fun a0 =>
 if (decide (a0<(a.length:Int))) then ((idx a a0).bind fun a1=>(aM (tF b a1) 0).bind fun a2=>match a2 with | .inl a3=>some (.inr (.inl ())) | .inr a4=>some (.inl (aJ a0 1))) else (some (.inr (.inr (()))))
def xP (a:(List aF)) (b:(List aF)):Option (Bool):=
 (aM (tG a b) 0).bind fun a0=>match a0 with | .inl a1=>some true | .inr a2=>some false
def Gi:(Int×Int)→Option (Int):=fun j3 =>
 (Kh (ByteArray.mk #[0,1,2,2,3,3,3,3,4,4,4,4,4,4,4,4,5,5,5,5,5,5,5,5,5,5,5,5,5,5,5,5,6,6,6,6,6,6,6,6,6,6,6,6,6,6,6,6,6,6,6,6,6,6,6,6,6,6,6,6,6,6,6,6,7,7,7,7,7,7,7,7,7,7,7,7,7,7,7,7,7,7,7,7,7,7,7,7,7,7,7,7,7,7,7,7,7,7,7,7,7,7,7,7,7,7,7,7,7,7,7,7,7,7,7,7,7,7,7,7,7,7,7,7,7,7,7,7,8,8,8,8,8,8,8,8,8,8,8,8,8,8,8,8,8,8,8,8,8,8,8,8,8,8,8,8,8,8,8,8,8,8,8,8,8,8,8,8,8,8,8,8,8,8,8,8,8,8,8,8,8,8,8,8,8,8,8,8,8,8,8,8,8,8,8,8,8,8,8,8,8,8,8,8,8,8,8,8,8,8,8,8,8,8,8,8,8,8,8,8,8,8,8,8,8,8,8,8,8,8,8,8,8,8,8,8,8,8,8,8,8,8,8,8,8,8,8,8,8,8,8,8,8,8,8,8]) (IntKind.wrap .u8 j3.1)).bind fun x5=>some (aJ j3.2 (IntKind.wrap .i64 x5))
def Gj:(Int×Int)→Option (Int):=fun j2 =>
 if (decide (j2.1 ≥ 256)) then (Gi ((Int.fdiv j2.1 (2^(min (Int.toNat 8) 64))),(aJ j2.2 8))) else (Gi (j2.1,j2.2))
def Gk:(Int×Int)→Option (Int):=fun j1 =>
 if (decide (j1.1 ≥ 65536)) then (Gj ((Int.fdiv j1.1 (2^(min (Int.toNat 16) 64))),(aJ j1.2 16))) else (Gj (j1.1,j1.2))
def Rh (x0:Int):Option (Int):=
 if (decide (x0 ≥ 4294967296)) then (Gk ((Int.fdiv x0 (2^(min (Int.toNat 32) 64))),32)) else (Gk (x0,0))
def Mt (x0:Int):Option (Int):=
 (Rh x0).bind fun r2=>some r2
def sD (x0:Int):Option (Bool):=
 some (x0 != x0)
def uA (x0:Int) (y:Int):Option (Int):=
 (sD x0).bind fun r2=>(sD y).bind fun r4=>if r2 then (if r4 then (some 0) else (some (-1))) else (if r4 then (some 1) else (if (decide (x0<y)) then (some (-1)) else (if (decide (x0>y)) then (some 1) else (some 0))))
def uT (length:Int):Option (Int):=
 (Mt (IntKind.wrap .u64 length)).bind fun r2=>if (decide (0≤r2)) then (some (IntKind.wrap .u64 (1*2^(min (Int.toNat r2) 64)))) else none
def wF (h0_0:Int):Option (Int):=
 some (gK .u64 (gK .u64 (gK .u64 h0_0 (IntKind.wrap .u64 (h0_0*2^(min (Int.toNat 13) 64)))) (Int.fdiv (gK .u64 h0_0 (IntKind.wrap .u64 (h0_0*2^(min (Int.toNat 13) 64)))) (2^(min (Int.toNat 7) 64)))) (IntKind.wrap .u64 ((gK .u64 (gK .u64 h0_0 (IntKind.wrap .u64 (h0_0*2^(min (Int.toNat 13) 64)))) (Int.fdiv (gK .u64 h0_0 (IntKind.wrap .u64 (h0_0*2^(min (Int.toNat 13) 64)))) (2^(min (Int.toNat 7) 64))))*2^(min (Int.toNat 17) 64))))
def qJ (a1:Int×Int×(List Int)):Int×(List Int)→Option (Int×Int×(List Int) ⊕ Int×(List Int)):=fun a0 =>
 some (.inl (a0.1,(aJ a1.2.1 1),a0.2))
def Ey (h380:(List Int)) (a1:Int):Int×Int×(List Int)→Option (Int×Int×(List Int) ⊕ Int×(List Int)):=fun a0 =>
 if (decide (a0.2.1<((Int.toNat (h380.length:Int)-Int.toNat a1:Nat):Int))) then ((idx (List.take (Int.toNat (h380.length:Int)-Int.toNat a1) (List.drop (Int.toNat a1) a0.2.2)) a0.2.1).bind fun a2=>(idx (List.take (Int.toNat (h380.length:Int)-Int.toNat a1) (List.drop (Int.toNat a1) a0.2.2)) (aI a0.2.1 1)).bind fun a3=>if (a2 != a3) then ((idx (List.take (Int.toNat (h380.length:Int)-Int.toNat a1) (List.drop (Int.toNat a1) a0.2.2)) a0.2.1).bind fun a4=>(idx a0.2.2 a0.1).bind fun a5=>qJ a0 ((aJ a0.1 1),(List.set a0.2.2 (Int.toNat a0.1) a4))) else (qJ a0 (a0.1,a0.2.2))) else (some (.inr (a0.1,a0.2.2)))
def Ez (h380:(List Int)):Int→Option (Int ⊕ ((List Int) ⊕ Unit)):=fun a1 =>
 if (decide (a1<(h380.length:Int))) then ((idx h380 a1).bind fun a3=>(idx h380 (aI a1 1)).bind fun a4=>if (a3==a4) then (if (decide ((0:Int)≤a1)&&(decide (a1≤(h380.length:Int))&&decide ((h380.length:Int)≤(h380.length:Int)))) then ((aM (Ey h380 a1) (a1,1,h380)).bind fun a0=>if (decide ((0:Int)≤a0.1)&&(decide (a0.1≤(a0.2.length:Int))&&decide ((a0.2.length:Int)≤(a0.2.length:Int)))) then ((slc (cpy a0.2 (Int.toNat a0.1) (List.replicate (Int.toNat (a0.2.length:Int)-Int.toNat a0.1) 0)) 0 a0.1).bind fun a2=>some (.inr (.inl a2))) else none) else none) else (some (.inl (aJ a1 1)))) else (some (.inr (.inr (()))))
def tL (h380:(List Int)):Option ((List Int)):=
 if (decide ((h380.length:Int)<2)) then (some h380) else ((aM (Ez h380) 1).bind fun a1=>match a1 with | .inl a0=>some a0 | .inr a2=>some h380)
end Go.SM
namespace Go.SM
open Go Go.VI Go.Cells
theorem Kp {l:List Int} (h:l.Pairwise fun x y=>x<y) (hl:l.length≤10000) (n:Int) :
  ∃ r,gH n l=some r∧r.Pairwise (fun x y=>x<y)∧(∀ x,x ∈ r↔x ∈ l∨x=n)∧r.length≤l.length+1:=by
 obtain ⟨i',q1,i,rfl,hi,ha,hb⟩:=nD (fun s:Int=>s.toNat)
  (fun s:Int=>∃ k:Nat,s=k∧k≤l.length∧∀ x ∈ l.drop k,n<x)
  (fun r:Int=>∃ k:Nat,r=k∧k≤l.length∧(∀ x ∈ l.drop k,n<x)∧(0<k→∀ y,l[k-1]?=some y→y≤n)) (rD n l) (by
   rintro s ⟨k,rfl,hk,hI⟩
   unfold rD
   by_cases h0:0<k
   ·obtain ⟨x,hx⟩:∃ x,l[k-1]?=some x:=⟨_,List.getElem?_eq_getElem (by omega)⟩
    have e1:aI (k:Int) 1=((k-1:Nat):Int):=by rw [bF (by omega) (by omega)];omega
    have d:decide ((k:Int)>0)=true:=by simp;omega
    simp only [d,if_true,e1,bE hx,Option.bind_some]
    by_cases hg:x>n
    ·left
     refine ⟨((k-1:Nat):Int),by simp [hg],⟨k-1,rfl,by omega,fun y hy=>?_⟩,by omega⟩
     rw [List.drop_eq_getElem_cons (show k-1<l.length by omega),show k-1+1=k by omega] at hy
     rcases List.mem_cons.1 hy with rfl | hy
     ·rw [List.getElem?_eq_getElem (by omega)] at hx;injection hx with hx;rw [hx];exact hg
     ·exact hI y hy
    ·right
     refine ⟨(k:Int),by simp [hg],k,rfl,hk,hI,fun _ y hy=>?_⟩
     rw [hx] at hy;injection hy with hy;omega
   ·right
    have d:decide ((k:Int)>0)=false:=by simp;omega
    exact ⟨(k:Int),by simp only [d,Bool.false_eq_true,if_false,Option.bind_some],k,rfl,hk,hI,fun q=>absurd q h0⟩) (l.length:Int) ⟨l.length,rfl,Nat.le_refl _,by simp⟩
 unfold gH
 rw [q1,Option.bind_some]
 have hj:∃ b:Bool,(if decide ((i:Int)>0) then (idx l (aI (i:Int) 1)).bind (fun x48=>some (x48==n)) else some false)=some b∧(b=true↔0<i∧l[i-1]?=some n):=by
  by_cases h0:0<i
  ·obtain ⟨x,hx⟩:∃ x,l[i-1]?=some x:=⟨_,List.getElem?_eq_getElem (by omega)⟩
   have e1:aI (i:Int) 1=((i-1:Nat):Int):=by rw [bF (by omega) (by omega)];omega
   have d:decide ((i:Int)>0)=true:=by simp;omega
   refine ⟨x==n,by simp only [d,if_true,e1,bE hx,Option.bind_some], ?_⟩
   rw [beq_iff_eq,hx]
   exact ⟨fun q=>⟨h0,by rw [q]⟩,fun q=>Option.some.inj q.2⟩
  ·have d:decide ((i:Int)>0)=false:=by simp;omega
   exact ⟨false,by simp only [d,Bool.false_eq_true,if_false],by simp;omega⟩
 obtain ⟨b,hj1,hj2⟩:=hj
 rw [hj1,Option.bind_some]
 cases b with
 | true =>
   obtain ⟨h0,hn⟩:=hj2.1 rfl
   refine ⟨l,rfl,h,fun x=>⟨.inl,fun q=>q.elim id fun e=>by rw [e];exact List.mem_of_getElem? hn⟩,by omega⟩
 | false =>
   have hnot:¬ (0<i∧l[i-1]?=some n):=fun q=>by have:=hj2.2 q;cases this
   rw [if_neg (by simp),jZ (by simp [LIM];omega)]
   have hlen:aI ((l++[0]).length:Int) 1=(l.length:Int):=by rw [List.length_append,List.length_singleton,bF (by omega) (by omega)];omega
   obtain ⟨r,t1,z,rfl⟩:=nD (fun s:Int×List Int=>(s.1-(i:Int)).toNat)
    (fun s:Int×List Int=>∃ j:Nat,s.1=j∧i≤j∧j≤l.length∧∃ z,s.2=l.take j++z::l.drop j)
    (fun r:List Int=>∃ z,r=l.take i++z::l.drop i) (rE (i:Int)) (by
     rintro ⟨s,c⟩ ⟨j,hs,hij,hjl,z,hc⟩
     simp only at hs hc
     subst hs hc
     unfold rE
     by_cases hg:i<j
     ·left
      have d:decide ((j:Int)>(i:Int))=true:=by simp;omega
      have e1:aI (j:Int) 1=((j-1:Nat):Int):=by rw [bF (by omega) (by omega)];omega
      have ht:(l.take j).length=j:=by rw [List.length_take];omega
      have g1:(l.take j++z::l.drop j)[j-1]?=some (l[j-1]'(by omega)):=by
       rw [List.getElem?_append_left (by omega),List.getElem?_take,if_pos (by omega),List.getElem?_eq_getElem (by omega)]
      have g2:(l.take j++z::l.drop j)[j]?=some z:=by rw [List.getElem?_append_right (by omega),ht];simp
      simp only [d,if_true,e1,bE g1,bE g2,Option.bind_some,Int.toNat_natCast]
      refine ⟨_,rfl,⟨j-1,rfl,by omega,by omega,l[j-1]'(by omega), ?_⟩,by simp only;omega⟩
      simp only
      rw [List.set_append_right _ _ (by omega),ht]
      have e2:l.take j=l.take (j-1)++[l[j-1]'(by omega)]:=by
       conv=>lhs;rw [show j=(j-1)+1 by omega]
       rw [List.take_add_one,List.getElem?_eq_getElem (by omega)];rfl
      have e3:l.drop (j-1)=l[j-1]'(by omega)::l.drop j:=by
       rw [List.drop_eq_getElem_cons (show j-1<l.length by omega),show j-1+1=j by omega]
      rw [e2,e3,Nat.sub_self,List.set_cons_zero,List.append_assoc];rfl
     ·right
      have d:decide ((j:Int)>(i:Int))=false:=by simp;omega
      obtain rfl:j=i:=by omega
      exact ⟨l.take j++z::l.drop j,by simp only [d,Bool.false_eq_true,if_false],z,rfl⟩) (aI ((l++[0]).length:Int) 1,l++[0]) ⟨l.length,hlen,hi,Nat.le_refl _,0,by simp⟩
   have ht:(l.take i).length=i:=by rw [List.length_take];omega
   have g2:(l.take i++z::l.drop i)[i]?=some z:=by rw [List.getElem?_append_right (by omega),ht];simp
   have e4:(l.take i++z::l.drop i).set i n=l.take i++n::l.drop i:=by rw [List.set_append_right _ _ (by omega),ht];simp
   simp only [Option.bind_some,t1,bE g2,Int.toNat_natCast,e4]
   have hlow:∀ x ∈ l.take i,x<n:=fun x hx=>by
    rcases Nat.eq_zero_or_pos i with q | q
    ·subst q;simp at hx
    ·obtain ⟨y,hy⟩:∃ y,l[i-1]?=some y:=⟨_,List.getElem?_eq_getElem (by omega)⟩
     have hyn:y<n:=by
      have h1:=hb q y hy
      have h2:y≠n:=fun e=>hnot ⟨q,by rw [hy,e]⟩
      omega
     obtain ⟨k,hk⟩:=List.mem_iff_getElem?.1 hx
     have hkl:=bY hk
     rw [List.getElem?_take,if_pos (by omega)] at hk
     by_cases e:k=i-1
     ·subst e;rw [hy] at hk;injection hk with hk;omega
     ·have:=JS h (show k<i-1 by omega) hk hy;omega
   refine ⟨_,rfl, ?_,fun x=>?_,by rw [List.length_append,List.length_cons,List.length_take,List.length_drop];omega⟩
   ·have hp:=h
    rw [← List.take_append_drop i l,List.pairwise_append] at hp
    rw [List.pairwise_append,List.pairwise_cons]
    refine ⟨hp.1,⟨ha,hp.2.1⟩,fun x hx y hy=>?_⟩
    rcases List.mem_cons.1 hy with rfl | hy
    ·exact hlow x hx
    ·exact hp.2.2 x hx y hy
   ·conv=>rhs;rw [← List.take_append_drop i l]
    simp only [List.mem_append,List.mem_cons]
    grind
end Go.SM
end
