/- What the functions compute, part 1. -/
import Derived.Test.YtgbiimcgilaklaaGreatVHC3
import Derived.Test.YtgbiimcgilaklaaGreatVHC4
import Derived.Lib.IndexMore
set_option linter.unusedVariables false
set_option linter.unusedSimpArgs false
set_option linter.unusedSectionVars false
open Bool renaming false_eq_true→j9,not_eq_eq_eq_not→L9,not_false→E0,not_true→u5
open ByteArray renaming mk→I1
open Classical renaming em→L7
open Int renaming fdiv→H7,fdiv_eq_ediv_of_nonneg→R5,le_refl→w8,lt_or_le→F4,min_eq_left→V9,tdiv_eq_ediv_of_nonneg→R4,toNat→l4,toNat_natCast→y9
open Go.IntKind renaming bits→P9,max→Q4,min→R3,signed→O9,u64→N8,wrap→o6
open List renaming drop→N0,drop_drop→O5,getD_eq_getElem?_getD→m8,getElem?_drop→E8,getElem?_eq_getElem→l8,getElem?_eq_some_iff→m9,getElem?_set→G6,getElem?_take→D9,length_set→v8,map→l7,mem_append→q9,mem_cons→H4,mem_cons_of_mem→F7,mem_cons_self→F8,mem_singleton→J4,pairwise_append→J5,pairwise_cons→J2,pairwise_iff_getElem→N3,replicate→q8,set→m7,take→L6,take_add_one→G5,take_of_length_le→N9
open Option renaming bind_some→i9
noncomputable section
namespace Go.Cells
def pL (f:Nat→Int):Nat→Int
 | 0=>0
 | n+1=>pL f n+f n
def S (a b:Int) (f:Int→Int):Int:=pL (fun k=>f (a+k)) (b-a).toNat
theorem xI {f g:Nat→Int}:∀ {n:Nat},(∀ k,k<n→f k=g k)→pL f n=pL g n
 | 0,_=>rfl
 | n+1,h=>by simp only [pL];rw [xI fun k hk=>h k (by omega),h n (by omega)]
def Kn {β:Type} (g:Int→β):List Int→Prop
 | []=>True
 | [_]=>True
 | x::y::t=>x<y∧(∀ z,x≤z→z<y→g z=g x)∧Kn g (y::t)
def one (b:Bool):Int:=if b then 1 else 0
def rB (M:Int) (p:Int→Int→Bool):Int:=S (-M) M fun x=>S (-M) M fun y=>one (p x y)
end Go.Cells
namespace Go.VI
theorem mH {S R:Type} (μ:S→Nat) (I:S→Prop) (Q:R→Prop) (body:S→Option (S ⊕ R))
  (step:∀ s,I s→(∃ s',body s=some (.inl s')∧I s'∧μ s'<μ s)∨(∃ r,body s=some (.inr r)∧Q r)):∀ s,I s→∃ r,aM body s=some r∧Q r:=by
 have key:∀ (n:Nat) s,μ s<n→I s→∃ r,aM body s=some r∧Q r:=by
  intro n
  induction n with
  | zero=>intro s h;exact absurd h (Nat.not_lt_zero _)
  | succ n ih =>
    intro s h hs
    rcases step s hs with ⟨s',e,hs',hm⟩ | ⟨r,e,hr⟩
    ·rw [iY e];exact ih s' (by omega) hs'
    ·exact ⟨r,dK e,hr⟩
 exact fun s hs=>key (μ s+1) s (Nat.lt_succ_self _) hs
section
variable {α:Type} (d:α)
def gz (l:List α) (i:Int):α:=l.getD i.toNat d
theorem iH {l:List α} {i:Int} (h:0≤i) (h2:i<l.length):idx l i=some (gz d l i):=by
 unfold idx gz
 rw [if_pos h,m8,l8 (by omega)]
 rfl
theorem QJ {l:List α} {i k:Int} (hi:0≤i) (hk:0≤k) (h:i<l.length) (v:α):gz d (l.set i.toNat v) k=if k=i then v else gz d l k:=by
 unfold gz
 rw [m8,m8,G6]
 by_cases e:k=i
 ·subst e
  rw [if_pos rfl,if_pos (by omega),if_pos rfl];rfl
 ·rw [if_neg (by omega),if_neg e]
def sw (l:List α) (i j:Int):List α:=(l.set i.toNat (gz d l j)).set j.toNat (gz d l i)
theorem Yj (l:List α) (i j:Int):(sw d l i j).length=l.length:=by simp [sw]
theorem rM {l:List α} {i j k:Int} (hi:0≤i) (hj:0≤j) (hk:0≤k) (h1:i<l.length) (h2:j<l.length):gz d (sw d l i j) k=if k=j then gz d l i else if k=i then gz d l j else gz d l k:=by
 unfold sw
 rw [QJ d hj hk (by rw [v8];exact h2),QJ d hi hk h1]
inductive On (a b:Int):List α→List α→Prop
 | refl (l:List α):On a b l l
 | step {l l':List α} (h:On a b l l') (i j:Int) (hi:a≤i) (hi':i<b) (hj:a≤j) (hj':j<b) (ha:0≤a) (hb:b≤l'.length):On a b l (sw d l' i j)
theorem On.len {a b:Int} {l l':List α} (h:On d a b l l'):l'.length=l.length:=by
 induction h with
 | refl=>rfl
 | step h i j _ _ _ _ _ _ ih=>rw [Yj,ih]
theorem On.trans {a b:Int} {l l' l'':List α} (h:On d a b l l') (h':On d a b l' l''):On d a b l l'':=by
 induction h' with
 | refl=>exact h
 | step _ i j hi hi' hj hj' ha hb ih=>exact .step ih i j hi hi' hj hj' ha hb
theorem On.mono {a b a' b':Int} {l l':List α} (h:On d a b l l') (h0:0≤a') (h1:a'≤a) (h2:b≤b') (h3:b'≤l.length):On d a' b' l l':=by
 induction h with
 | refl=>exact .refl _
 | step h i j hi hi' hj hj' ha hb ih=>exact .step ih i j (by omega) (by omega) (by omega) (by omega) h0 (by rw [h.len];exact h3)
theorem On.out {a b:Int} {l l':List α} (h:On d a b l l') {k:Int} (hk:0≤k) (hk':k<a∨b≤k):gz d l' k=gz d l k:=by
 induction h with
 | refl=>rfl
 | step h i j hi hi' hj hj' ha hb ih =>
   rw [rM d (by omega) (by omega) hk (by omega) (by omega),if_neg (by omega),if_neg (by omega),ih]
theorem On.all {a b:Int} {l l':List α} (h:On d a b l l') (Q:α→Prop) (hq:∀ k,a≤k→k<b→Q (gz d l k)):∀ k,a≤k→k<b→Q (gz d l' k):=by
 induction h with
 | refl=>exact hq
 | step h i j hi hi' hj hj' ha hb ih =>
   intro k h1 h2
   rw [rM d (by omega) (by omega) (by omega) (by omega) (by omega)]
   split
   ·exact ih i hi hi'
   ·split
    ·exact ih j hj hj'
    ·exact ih k h1 h2
theorem WW {l:List α} {i j:Int} (hi:0≤i) (hj:0≤j) (h1:i<l.length) (h2:j<l.length):(sw d l i j).Perm l:=by
 unfold sw gz
 have e1:l.getD i.toNat d=l[i.toNat]'(by omega):=by rw [m8,l8 (by omega)];rfl
 have e2:l.getD j.toNat d=l[j.toNat]'(by omega):=by rw [m8,l8 (by omega)];rfl
 rw [e1,e2]
 exact List.set_set_perm (by omega) (by omega)
theorem On.perm {a b:Int} {l l':List α} (h:On d a b l l'):l'.Perm l:=by
 induction h with
 | refl=>exact .refl _
 | step h i j hi hi' hj hj' ha hb ih=>exact (WW d (by omega) (by omega) (by omega) (by omega)).trans ih
def Asc (lt:α→α→Bool) (a b:Int) (l:List α):Prop:=∀ i j,a≤i→i<j→j<b→lt (gz d l j) (gz d l i)=false
structure Sd (lt:α→α→Bool):Prop where
 asymm:∀ x y,lt x y=true→lt y x=false
 neg:∀ x y z,lt x z=true→lt x y=true∨lt y z=true
theorem Sd.le_trans {lt:α→α→Bool} (w:Sd lt) {x y z:α} (h1:lt y x=false) (h2:lt z y=false):lt z x=false:=by
 cases h:lt z x with
 | false=>rfl
 | true=>rcases w.neg z y x h with q | q <;> simp_all
theorem Sd.irrefl {lt:α→α→Bool} (w:Sd lt) (x:α):lt x x=false:=by
 cases h:lt x x with
 | false=>rfl
 | true=>have:=w.asymm x x h;simp_all
end
end Go.VI
namespace Go.SM
open Go Go.VI
abbrev Br (α:Type):Type 1:=∀ (β:Type),α→α→(Bool→Option β)→Option β
def brC {α:Type} (cmp:α→α→Option Int):Br α:=fun _ x y k=>(cmp x y).bind fun r=>k (decide (r<0))
def brL {α:Type} (less:α→α→Option Bool):Br α:=fun _ x y k=>(less x y).bind k
def oY:(Int×Int)→Option (Int):=fun j3 =>
 (Zn (I1 #[0,1,2,2,3,3,3,3,4,4,4,4,4,4,4,4,5,5,5,5,5,5,5,5,5,5,5,5,5,5,5,5,6,6,6,6,6,6,6,6,6,6,6,6,6,6,6,6,6,6,6,6,6,6,6,6,6,6,6,6,6,6,6,6,7,7,7,7,7,7,7,7,7,7,7,7,7,7,7,7,7,7,7,7,7,7,7,7,7,7,7,7,7,7,7,7,7,7,7,7,7,7,7,7,7,7,7,7,7,7,7,7,7,7,7,7,7,7,7,7,7,7,7,7,7,7,7,7,8,8,8,8,8,8,8,8,8,8,8,8,8,8,8,8,8,8,8,8,8,8,8,8,8,8,8,8,8,8,8,8,8,8,8,8,8,8,8,8,8,8,8,8,8,8,8,8,8,8,8,8,8,8,8,8,8,8,8,8,8,8,8,8,8,8,8,8,8,8,8,8,8,8,8,8,8,8,8,8,8,8,8,8,8,8,8,8,8,8,8,8,8,8,8,8,8,8,8,8,8,8,8,8,8,8,8,8,8,8,8,8,8,8,8,8,8,8,8,8,8,8,8,8,8,8,8,8]) (o6 .u8 j3.1)).bind fun x5=>some (aQ j3.2 (o6 .i64 x5))
def tH:(Int×Int)→Option (Int):=fun j2 =>
 if (decide (j2.1 ≥ 256)) then (oY ((H7 j2.1 (2^(min (l4 8) 64))),(aQ j2.2 8))) else (oY (j2.1,j2.2))
def xO:(Int×Int)→Option (Int):=fun j1 =>
 if (decide (j1.1 ≥ 65536)) then (tH ((H7 j1.1 (2^(min (l4 16) 64))),(aQ j1.2 16))) else (tH (j1.1,j1.2))
def Iw (x0:Int):Option (Int):=
 if (decide (x0 ≥ 4294967296)) then (xO ((H7 x0 (2^(min (l4 32) 64))),32)) else (xO (x0,0))
def Ed (x0:Int):Option (Int):=
 (Iw x0).bind fun r2=>some r2
def vT (length:Int):Option (Int):=
 (Ed (o6 .u64 length)).bind fun r2=>if (decide (0≤r2)) then (some (o6 .u64 (1*2^(min (l4 r2) 64)))) else none
def Cn (a0:Int):Option (Int):=
 some (iX .u64 (iX .u64 (iX .u64 a0 (o6 .u64 (a0*2^(min (l4 13) 64)))) (H7 (iX .u64 a0 (o6 .u64 (a0*2^(min (l4 13) 64)))) (2^(min (l4 7) 64)))) (o6 .u64 ((iX .u64 (iX .u64 a0 (o6 .u64 (a0*2^(min (l4 13) 64)))) (H7 (iX .u64 a0 (o6 .u64 (a0*2^(min (l4 13) 64)))) (2^(min (l4 7) 64))))*2^(min (l4 17) 64))))
def sR {α:Type} (br:Br α) (a:Int):Int×(List α)→Option (Int×(List α) ⊕ (List α)):=fun a0 =>
 (if (decide (a0.1>a)) then ((idx a0.2 a0.1).bind fun a4=>(idx a0.2 (aK a0.1 1)).bind fun a5=>br _ a4 a5 fun a3=>some a3) else (some false)).bind fun a2=>if a2 then ((idx a0.2 (aK a0.1 1)).bind fun a1=>(idx a0.2 a0.1).bind fun a6=>(idx a0.2 a0.1).bind fun a7=>(idx (m7 a0.2 (l4 a0.1) a1) (aK a0.1 1)).bind fun a8=>some (.inl ((aK a0.1 1),(m7 (m7 a0.2 (l4 a0.1) a1) (l4 (aK a0.1 1)) a6)))) else (some (.inr a0.2))
def xT {α:Type} (br:Br α) (a:Int) (b:Int):Int×(List α)→Option (Int×(List α) ⊕ (List α)):=fun a0 =>
 if (decide (a0.1<b)) then ((aM (sR br a) (a0.1,a0.2)).bind fun a1=>some (.inl ((aQ a0.1 1),a1))) else (some (.inr a0.2))
def pE {α:Type} (br:Br α) (a:Int) (b:Int) (h0:(List α)):Option ((List α)):=
 (aM (xT br a b) ((aQ a 1),h0)).bind fun a0=>some a0
def mS {α:Type} (br:Br α) (first:Int) (a0:Int×(List α)):Int→Option (Int×(List α) ⊕ ((List α) ⊕ (List α))):=fun a1 =>
 (idx a0.2 (aQ first a0.1)).bind fun a4=>(idx a0.2 (aQ first a1)).bind fun a5=>br _ a4 a5 fun a3=>if (!a3) then (some (.inr (.inr a0.2))) else ((idx a0.2 (aQ first a1)).bind fun a2=>(idx a0.2 (aQ first a0.1)).bind fun a6=>(idx a0.2 (aQ first a0.1)).bind fun a7=>(idx (m7 a0.2 (l4 (aQ first a0.1)) a2) (aQ first a1)).bind fun a8=>some (.inl (a1,(m7 (m7 a0.2 (l4 (aQ first a0.1)) a2) (l4 (aQ first a1)) a6))))
def Gl {α:Type} (br:Br α) (hi:Int) (first:Int):Int×(List α)→Option (Int×(List α) ⊕ ((List α) ⊕ (List α))):=fun a0 =>
 if (decide ((aQ (gZ 2 a0.1) 1) ≥ hi)) then (some (.inr (.inl a0.2))) else ((if (decide ((aQ (aQ (gZ 2 a0.1) 1) 1)<hi)) then ((idx a0.2 (aQ first (aQ (gZ 2 a0.1) 1))).bind fun a3=>(idx a0.2 (aQ (aQ first (aQ (gZ 2 a0.1) 1)) 1)).bind fun a4=>br _ a3 a4 fun a2=>some a2) else (some false)).bind fun a1=>if a1 then (mS br first a0 (aQ (aQ (gZ 2 a0.1) 1) 1)) else (mS br first a0 (aQ (gZ 2 a0.1) 1)))
def uB {α:Type} (br:Br α) (lo:Int) (hi:Int) (first:Int) (h0:(List α)):Option ((List α)):=
 (aM (Gl br hi first) (lo,h0)).bind fun a2=>match a2 with | .inl a0=>some a0 | .inr a1=>some a1
def Gi {α:Type} (br:Br α) (a:Int) (b:Int):Int×(List α)→Option (Int×(List α) ⊕ (List α)):=fun a0 =>
 if (decide (a0.1 ≥ 0)) then ((uB br a0.1 (aK b a) a a0.2).bind fun a1=>some (.inl ((aK a0.1 1),a1))) else (some (.inr a0.2))
def Gj {α:Type} (br:Br α) (a:Int):Int×(List α)→Option (Int×(List α) ⊕ (List α)):=fun a0 =>
 if (decide (a0.1 ≥ 0)) then ((idx a0.2 (aQ a a0.1)).bind fun a1=>(idx a0.2 a).bind fun a3=>(idx a0.2 a).bind fun a4=>(idx (m7 a0.2 (l4 a) a1) (aQ a a0.1)).bind fun a5=>(uB br 0 a0.1 a (m7 (m7 a0.2 (l4 a) a1) (l4 (aQ a a0.1)) a3)).bind fun a2=>some (.inl ((aK a0.1 1),a2))) else (some (.inr a0.2))
def Ao {α:Type} (br:Br α) (a:Int) (b:Int) (h0:(List α)):Option ((List α)):=
 (aM (Gi br a b) ((uI (aK (aK b a) 1) 2),h0)).bind fun a1=>(aM (Gj br a) ((aK (aK b a) 1),a1)).bind fun a0=>some a0
def iG {α:Type} (br:Br α) (a:Int) (a0:Int×Int×(List α)):Int→Option (Int×Int×(List α) ⊕ (List α)):=fun a1 =>
 (idx a0.2.2 (aQ a a1)).bind fun a2=>(idx a0.2.2 a0.1).bind fun a3=>(idx a0.2.2 a0.1).bind fun a4=>(idx (m7 a0.2.2 (l4 a0.1) a2) (aQ a a1)).bind fun a5=>some (.inl ((aQ a0.1 1),(iX .u64 (iX .u64 (iX .u64 a0.2.1 (o6 .u64 (a0.2.1*2^(min (l4 13) 64)))) (H7 (iX .u64 a0.2.1 (o6 .u64 (a0.2.1*2^(min (l4 13) 64)))) (2^(min (l4 7) 64)))) (o6 .u64 ((iX .u64 (iX .u64 a0.2.1 (o6 .u64 (a0.2.1*2^(min (l4 13) 64)))) (H7 (iX .u64 a0.2.1 (o6 .u64 (a0.2.1*2^(min (l4 13) 64)))) (2^(min (l4 7) 64))))*2^(min (l4 17) 64)))),(m7 (m7 a0.2.2 (l4 a0.1) a2) (l4 (aQ a a1)) a3)))
def xS {α:Type} (br:Br α) (a:Int) (b:Int) (r2:Int):Int×Int×(List α)→Option (Int×Int×(List α) ⊕ (List α)):=fun a0 =>
 if (decide (a0.1≤(aQ (aQ a (gZ (uI (aK b a) 4) 2)) 1))) then ((Cn a0.2.1).bind fun a1=>if (decide ((o6 .i64 (Pt .u64 a1 (o6 .u64 (r2-1)))) ≥ (aK b a))) then (iG br a a0 (aK (o6 .i64 (Pt .u64 a1 (o6 .u64 (r2-1)))) (aK b a))) else (iG br a a0 (o6 .i64 (Pt .u64 a1 (o6 .u64 (r2-1)))))) else (some (.inr a0.2.2))
def oZ {α:Type} (br:Br α) (a:Int) (b:Int) (h0:(List α)):Option ((List α)):=
 if (decide ((aK b a) ≥ 8)) then ((vT (aK b a)).bind fun r2=>(aM (xS br a b r2) ((aK (aQ a (gZ (uI (aK b a) 4) 2)) 1),(o6 .u64 (aK b a)),h0)).bind fun a0=>some a0) else (some h0)
def Ap {α:Type} (br:Br α) (data:(List α)) (a:Int) (b:Int) (a0:Int):Option (Int×Int×Int):=
 (idx data b).bind fun a2=>(idx data a).bind fun a3=>br _ a2 a3 fun a1=>if a1 then (some (b,a,(aQ a0 1))) else (some (a,b,a0))
def Cm {α:Type} (br:Br α) (data:(List α)) (a:Int) (b:Int) (c:Int) (a0:Int):Option (Int×Int):=
 (Ap br data a b a0).bind fun r2=>(Ap br data r2.2.1 c r2.2.2).bind fun r4=>(Ap br data r2.1 r4.1 r4.2.2).bind fun r6=>some (r6.2.1,r6.2.2)
def iI {α:Type} (br:Br α) (data:(List α)) (a:Int) (a0:Int):Option (Int×Int):=
 (Cm br data (aK a 1) a (aQ a 1) a0).bind fun r2=>some (r2.1,r2.2)
def jU {α:Type} (br:Br α):(Int×Int)→Option (Int×Int):=fun a0 =>
 if (a0.2==0) then (some (a0.1,1)) else (if (a0.2==12) then (some (a0.1,2)) else (some (a0.1,0)))
def jV {α:Type} (br:Br α) (data:(List α)):(Int×Int×Int×Int)→Option (Int×Int):=fun a0 =>
 (Cm br data a0.1 a0.2.1 a0.2.2.1 a0.2.2.2).bind fun a1=>jU br (a1.1,a1.2)
def tJ {α:Type} (br:Br α) (data:(List α)) (a:Int) (b:Int):Option (Int×Int):=
 if (decide ((aK b a) ≥ 8)) then (if (decide ((aK b a) ≥ 50)) then ((iI br data (aQ a (gZ (uI (aK b a) 4) 1)) 0).bind fun a0=>(iI br data (aQ a (gZ (uI (aK b a) 4) 2)) a0.2).bind fun a1=>(iI br data (aQ a (gZ (uI (aK b a) 4) 3)) a1.2).bind fun a2=>jV br data (a0.1,a1.1,a2.1,a2.2)) else (jV br data ((aQ a (gZ (uI (aK b a) 4) 1)),(aQ a (gZ (uI (aK b a) 4) 2)),(aQ a (gZ (uI (aK b a) 4) 3)),0))) else (jU br ((aQ a (gZ (uI (aK b a) 4) 2)),0))
def zZ {α:Type} (br:Br α):Int×Int×(List α)→Option (Int×Int×(List α) ⊕ (List α)):=fun a0 =>
 if (decide (a0.1<a0.2.1)) then ((idx a0.2.2 a0.2.1).bind fun a1=>(idx a0.2.2 a0.1).bind fun a2=>(idx a0.2.2 a0.1).bind fun a3=>(idx (m7 a0.2.2 (l4 a0.1) a1) a0.2.1).bind fun a4=>some (.inl ((aQ a0.1 1),(aK a0.2.1 1),(m7 (m7 a0.2.2 (l4 a0.1) a1) (l4 a0.2.1) a2)))) else (some (.inr a0.2.2))
def qY {α:Type} (br:Br α) (a:Int) (b:Int) (h0:(List α)):Option ((List α)):=
 (aM (zZ br) (a,(aK b 1),h0)).bind fun a0=>some a0
def fG {α:Type} (br:Br α) (a1:Int×Int×(List α)):Int×(List α)→Option (Int×Int×(List α) ⊕ (Bool×(List α) ⊕ (List α))):=fun a0 =>
 some (.inl (a0.1,(aQ a1.2.1 1),a0.2))
def jW {α:Type} (br:Br α) (b:Int) (a1:Int×Int×(List α)):Int→Option (Int ⊕ Int):=fun a0 =>
 (if (decide (a0<b)) then ((idx a1.2.2 a0).bind fun a4=>(idx a1.2.2 (aK a0 1)).bind fun a5=>br _ a4 a5 fun a3=>some (!a3)) else (some false)).bind fun a2=>if a2 then (some (.inl (aQ a0 1))) else (some (.inr a0))
def jX {α:Type} (br:Br α) (b:Int):Int×(List α)→Option (Int×(List α) ⊕ (List α)):=fun a0 =>
 if (decide (a0.1<b)) then ((idx a0.2 a0.1).bind fun a3=>(idx a0.2 (aK a0.1 1)).bind fun a4=>br _ a3 a4 fun a2=>if (!a2) then (some (.inr a0.2)) else ((idx a0.2 (aK a0.1 1)).bind fun a1=>(idx a0.2 a0.1).bind fun a5=>(idx a0.2 a0.1).bind fun a6=>(idx (m7 a0.2 (l4 a0.1) a1) (aK a0.1 1)).bind fun a7=>some (.inl ((aQ a0.1 1),(m7 (m7 a0.2 (l4 a0.1) a1) (l4 (aK a0.1 1)) a5))))) else (some (.inr a0.2))
def eS {α:Type} (br:Br α) (b:Int) (a2:Int×Int×(List α)) (a0:Int):(List α)→Option (Int×Int×(List α) ⊕ (Bool×(List α) ⊕ (List α))):=fun a1 =>
 if (decide ((aK b a0) ≥ 2)) then ((aM (jX br b) ((aQ a0 1),a1)).bind fun a3=>fG br a2 (a0,a3)) else (fG br a2 (a0,a1))
def jY {α:Type} (br:Br α):Int×(List α)→Option (Int×(List α) ⊕ (List α)):=fun a0 =>
 if (decide (a0.1 ≥ 1)) then ((idx a0.2 a0.1).bind fun a3=>(idx a0.2 (aK a0.1 1)).bind fun a4=>br _ a3 a4 fun a2=>if (!a2) then (some (.inr a0.2)) else ((idx a0.2 (aK a0.1 1)).bind fun a1=>(idx a0.2 a0.1).bind fun a5=>(idx a0.2 a0.1).bind fun a6=>(idx (m7 a0.2 (l4 a0.1) a1) (aK a0.1 1)).bind fun a7=>some (.inl ((aK a0.1 1),(m7 (m7 a0.2 (l4 a0.1) a1) (l4 (aK a0.1 1)) a5))))) else (some (.inr a0.2))
def pR {α:Type} (br:Br α) (a:Int) (b:Int):Int×Int×(List α)→Option (Int×Int×(List α) ⊕ (Bool×(List α) ⊕ (List α))):=fun a0 =>
 if (decide (a0.2.1<5)) then ((aM (jW br b a0) a0.1).bind fun a1=>if (a1==b) then (some (.inr (.inl (true,a0.2.2)))) else (if (decide ((aK b a)<50)) then (some (.inr (.inl (false,a0.2.2)))) else ((idx a0.2.2 (aK a1 1)).bind fun a2=>(idx a0.2.2 a1).bind fun a3=>(idx a0.2.2 a1).bind fun a5=>(idx (m7 a0.2.2 (l4 a1) a2) (aK a1 1)).bind fun a6=>if (decide ((aK a1 a) ≥ 2)) then ((aM (jY br) ((aK a1 1),(m7 (m7 a0.2.2 (l4 a1) a2) (l4 (aK a1 1)) a3))).bind fun a4=>eS br b a0 a1 a4) else (eS br b a0 a1 (m7 (m7 a0.2.2 (l4 a1) a2) (l4 (aK a1 1)) a3))))) else (some (.inr (.inr a0.2.2)))
def gM {α:Type} (br:Br α) (a:Int) (b:Int) (h0:(List α)):Option (Bool×(List α)):=
 (aM (pR br a b) ((aQ a 1),0,h0)).bind fun a2=>match a2 with | .inl a0=>some (a0.1,a0.2) | .inr a1=>some (false,a1)
def rK {α:Type} (br:Br α) (a:Int) (a1:Int×Int×(List α)):Int→Option (Int ⊕ Int):=fun a0 =>
 (if (decide (a0≤a1.2.1)) then ((idx a1.2.2 a).bind fun a4=>(idx a1.2.2 a0).bind fun a5=>br _ a4 a5 fun a3=>some (!a3)) else (some false)).bind fun a2=>if a2 then (some (.inl (aQ a0 1))) else (some (.inr a0))
def rL {α:Type} (br:Br α) (a:Int) (a1:Int×Int×(List α)) (a4:Int):Int→Option (Int ⊕ Int):=fun a0 =>
 (if (decide (a4≤a0)) then ((idx a1.2.2 a).bind fun a5=>(idx a1.2.2 a0).bind fun a6=>br _ a5 a6 fun a3=>some a3) else (some false)).bind fun a2=>if a2 then (some (.inl (aK a0 1))) else (some (.inr a0))
def wT {α:Type} (br:Br α) (a:Int):Int×Int×(List α)→Option (Int×Int×(List α) ⊕ Int×(List α)):=fun a0 =>
 (aM (rK br a a0) a0.1).bind fun a1=>(aM (rL br a a0 a1) a0.2.1).bind fun a2=>if (decide (a1>a2)) then (some (.inr (a1,a0.2.2))) else ((idx a0.2.2 a2).bind fun a3=>(idx a0.2.2 a1).bind fun a4=>(idx a0.2.2 a1).bind fun a5=>(idx (m7 a0.2.2 (l4 a1) a3) a2).bind fun a6=>some (.inl ((aQ a1 1),(aK a2 1),(m7 (m7 a0.2.2 (l4 a1) a3) (l4 a2) a4))))
def nG {α:Type} (br:Br α) (a:Int) (b:Int) (pivot:Int) (h0:(List α)):Option (Int×(List α)):=
 (idx h0 pivot).bind fun x9=>(idx h0 a).bind fun a1=>(idx h0 a).bind fun a2=>(idx (m7 h0 (l4 a) x9) pivot).bind fun a3=>(aM (wT br a) ((aQ a 1),(aK b 1),(m7 (m7 h0 (l4 a) x9) (l4 pivot) a1))).bind fun a0=>some (a0.1,a0.2)
def yZ {α:Type} (br:Br α) (a:Int) (b:Int) (pivot:Int) (h0:(List α)) (x9:α) (a5:α):Int→Option (Int ⊕ Int):=fun a0 =>
 (if (decide (a0≤(aK b 1))) then ((idx (m7 (m7 h0 (l4 a) x9) (l4 pivot) a5) a0).bind fun a3=>(idx (m7 (m7 h0 (l4 a) x9) (l4 pivot) a5) a).bind fun a4=>br _ a3 a4 fun a2=>some a2) else (some false)).bind fun a1=>if a1 then (some (.inl (aQ a0 1))) else (some (.inr a0))
def zE {α:Type} (br:Br α) (a:Int) (pivot:Int) (h0:(List α)) (x9:α) (a6:α) (a3:Int):Int→Option (Int ⊕ Int):=fun a0 =>
 (if (decide (a3≤a0)) then ((idx (m7 (m7 h0 (l4 a) x9) (l4 pivot) a6) a0).bind fun a4=>(idx (m7 (m7 h0 (l4 a) x9) (l4 pivot) a6) a).bind fun a5=>br _ a4 a5 fun a2=>some (!a2)) else (some false)).bind fun a1=>if a1 then (some (.inl (aK a0 1))) else (some (.inr a0))
def zI {α:Type} (br:Br α) (a:Int) (a1:Int×Int×(List α)):Int→Option (Int ⊕ Int):=fun a0 =>
 (if (decide (a0≤a1.2.1)) then ((idx a1.2.2 a0).bind fun a4=>(idx a1.2.2 a).bind fun a5=>br _ a4 a5 fun a3=>some a3) else (some false)).bind fun a2=>if a2 then (some (.inl (aQ a0 1))) else (some (.inr a0))
def zJ {α:Type} (br:Br α) (a:Int) (a1:Int×Int×(List α)) (a4:Int):Int→Option (Int ⊕ Int):=fun a0 =>
 (if (decide (a4≤a0)) then ((idx a1.2.2 a0).bind fun a5=>(idx a1.2.2 a).bind fun a6=>br _ a5 a6 fun a3=>some (!a3)) else (some false)).bind fun a2=>if a2 then (some (.inl (aK a0 1))) else (some (.inr a0))
def zK {α:Type} (br:Br α) (a:Int):Int×Int×(List α)→Option (Int×Int×(List α) ⊕ Int×(List α)):=fun a0 =>
 (aM (zI br a a0) a0.1).bind fun a1=>(aM (zJ br a a0 a1) a0.2.1).bind fun a2=>if (decide (a1>a2)) then (some (.inr (a2,a0.2.2))) else ((idx a0.2.2 a2).bind fun a3=>(idx a0.2.2 a1).bind fun a4=>(idx a0.2.2 a1).bind fun a5=>(idx (m7 a0.2.2 (l4 a1) a3) a2).bind fun a6=>some (.inl ((aQ a1 1),(aK a2 1),(m7 (m7 a0.2.2 (l4 a1) a3) (l4 a2) a4))))
def uH {α:Type} (br:Br α) (a:Int) (b:Int) (pivot:Int) (h0:(List α)):Option (Int×Bool×(List α)):=
 (idx h0 pivot).bind fun x9=>(idx h0 a).bind fun a3=>(idx h0 a).bind fun b6=>(idx (m7 h0 (l4 a) x9) pivot).bind fun b7=>(aM (yZ br a b pivot h0 x9 a3) (aQ a 1)).bind fun a2=>(aM (zE br a pivot h0 x9 a3 a2) (aK b 1)).bind fun a1=>if (decide (a2>a1)) then ((idx (m7 (m7 h0 (l4 a) x9) (l4 pivot) a3) a).bind fun a6=>(idx (m7 (m7 h0 (l4 a) x9) (l4 pivot) a3) a1).bind fun a8=>(idx (m7 (m7 h0 (l4 a) x9) (l4 pivot) a3) a1).bind fun b2=>(idx (m7 (m7 (m7 h0 (l4 a) x9) (l4 pivot) a3) (l4 a1) a6) a).bind fun b3=>some (a1,true,(m7 (m7 (m7 (m7 h0 (l4 a) x9) (l4 pivot) a3) (l4 a1) a6) (l4 a) a8))) else ((idx (m7 (m7 h0 (l4 a) x9) (l4 pivot) a3) a1).bind fun a7=>(idx (m7 (m7 h0 (l4 a) x9) (l4 pivot) a3) a2).bind fun a9=>(idx (m7 (m7 h0 (l4 a) x9) (l4 pivot) a3) a2).bind fun b4=>(idx (m7 (m7 (m7 h0 (l4 a) x9) (l4 pivot) a3) (l4 a2) a7) a1).bind fun b5=>(aM (zK br a) ((aQ a2 1),(aK a1 1),(m7 (m7 (m7 (m7 h0 (l4 a) x9) (l4 pivot) a3) (l4 a2) a7) (l4 a1) a9))).bind fun a0=>(idx a0.2 a).bind fun a4=>(idx a0.2 a0.1).bind fun a5=>(idx a0.2 a0.1).bind fun b0=>(idx (m7 a0.2 (l4 a0.1) a4) a).bind fun b1=>some (a0.1,false,(m7 (m7 a0.2 (l4 a0.1) a4) (l4 a) a5)))
def oO {α:Type} (br:Br α) (self:Int→Int→Int→(List α)→Option ((List α))) (a1:Int×Int×Int×Bool×Bool×(List α)) (a3:Int×(List α)) (a4:Int×Int×(List α)):Bool×Bool×(List α)→Option (Int×Int×Int×Bool×Bool×(List α) ⊕ (List α)):=fun a2 =>
 (if (decide (a1.1>0)) then ((idx a2.2.2 (aK a1.1 1)).bind fun b0=>(idx a2.2.2 a4.1).bind fun b1=>br _ b0 b1 fun a7=>some (!a7)) else (some false)).bind fun a6=>if a6 then ((nG br a1.1 a1.2.1 a4.1 a2.2.2).bind fun a5=>some (.inl (a5.1,a1.2.1,a3.1,a2.1,a2.2.1,a5.2))) else ((uH br a1.1 a1.2.1 a4.1 a2.2.2).bind fun a0=>if (decide ((aK a0.1 a1.1)<(aK a1.2.1 a0.1))) then ((self a1.1 a0.1 a3.1 a0.2.2).bind fun a8=>some (.inl ((aQ a0.1 1),a1.2.1,a3.1,(decide ((aK a0.1 a1.1) ≥ (uI (aK a1.2.1 a1.1) 8))),a0.2.1,a8))) else ((self (aQ a0.1 1) a1.2.1 a3.1 a0.2.2).bind fun a9=>some (.inl (a1.1,a0.1,a3.1,(decide ((aK a1.2.1 a0.1) ≥ (uI (aK a1.2.1 a1.1) 8))),a0.2.1,a9))))
def oQ {α:Type} (br:Br α) (self:Int→Int→Int→(List α)→Option ((List α))) (a3:Int×Int×Int×Bool×Bool×(List α)) (a4:Int×(List α)):Int×Int×(List α)→Option (Int×Int×Int×Bool×Bool×(List α) ⊕ (List α)):=fun a0 =>
 (if a3.2.2.2.1 then (if a3.2.2.2.2.1 then (some (true,true,(a0.2.1==1))) else (some (true,false,false))) else (some (false,a3.2.2.2.2.1,false))).bind fun a1=>if a1.2.2 then ((gM br a3.1 a3.2.1 a0.2.2).bind fun a2=>if a2.1 then (some (.inr a2.2)) else (oO br self a3 a4 a0 (a1.1,a1.2.1,a2.2))) else (oO br self a3 a4 a0 (a1.1,a1.2.1,a0.2.2))
def oR {α:Type} (br:Br α) (self:Int→Int→Int→(List α)→Option ((List α))) (a2:Int×Int×Int×Bool×Bool×(List α)):Int×(List α)→Option (Int×Int×Int×Bool×Bool×(List α) ⊕ (List α)):=fun a0 =>
 (tJ br a0.2 a2.1 a2.2.1).bind fun a1=>if (a1.2==2) then ((qY br a2.1 a2.2.1 a0.2).bind fun a3=>oQ br self a2 a0 ((aK (aK a2.2.1 1) (aK a1.1 a2.1)),1,a3)) else (oQ br self a2 a0 (a1.1,a1.2,a0.2))
def Di {α:Type} (br:Br α) (self:Int→Int→Int→(List α)→Option ((List α))):Int×Int×Int×Bool×Bool×(List α)→Option (Int×Int×Int×Bool×Bool×(List α) ⊕ (List α)):=fun a0 =>
 if (decide ((aK a0.2.1 a0.1)≤12)) then ((pE br a0.1 a0.2.1 a0.2.2.2.2.2).bind fun a1=>some (.inr a1)) else (if (a0.2.2.1==0) then ((Ao br a0.1 a0.2.1 a0.2.2.2.2.2).bind fun a2=>some (.inr a2)) else (if (!a0.2.2.2.1) then ((oZ br a0.1 a0.2.1 a0.2.2.2.2.2).bind fun a3=>oR br self a0 ((aK a0.2.2.1 1),a3)) else (oR br self a0 (a0.2.2.1,a0.2.2.2.2.2))))
def kW {α:Type} (br:Br α) (self:Int→Int→Int→(List α)→Option ((List α))) (a:Int) (b:Int) (limit:Int) (h0:(List α)):Option ((List α)):=
 (aM (Di br self) (a,b,limit,true,true,h0)).bind fun a0=>some a0
def jZ {α:Type} (br:Br α):Nat→Int→Int→Int→(List α)→Option ((List α))
 | 0=>fun _ _ _ _=>none
 | n+1=>kW br (jZ br n)
def Gk {α:Type} (br:Br α) (a:Int) (b:Int) (limit:Int) (h0:(List α)):Option ((List α)):=jZ br 1000 a b limit h0
def uA {α:Type} (br:Br α) (h0:(List α)):Option ((List α)):=
 (Ed (o6 .u64 (h0.length:Int))).bind fun r3=>(Gk br 0 (h0.length:Int) r3 h0).bind fun r4=>some r4
structure Ir {α:Type} (P:α→Prop) (d:α) (l:List α):Prop where
 len:(l.length:Int)≤1073741824
 all:∀ k:Int,0≤k→k<l.length→P (gz d l k)
theorem Ir.on {α:Type} {P:α→Prop} {d:α} {a b:Int} {l l':List α} (h:Ir P d l) (ho:On d a b l l'):Ir P d l':=by
 induction ho with
 | refl=>exact h
 | step ho i j hi hi' hj hj' ha hb ih =>
   refine ⟨by rw [Yj];exact ih.len,fun k h1 h2=>?_⟩
   rw [Yj] at h2
   rw [rM d (by omega) (by omega) h1 (by omega) (by omega)]
   split
   ·exact ih.all _ (by omega) (by omega)
   ·split
    ·exact ih.all _ (by omega) (by omega)
    ·exact ih.all _ h1 h2
section
variable {α:Type} {br:Br α} {lt:α→α→Bool} {P:α→Prop} {d:α} (hbr:∀ (β:Type) (x y:α) (k:Bool→Option β),P x→P y→br β x y k=k (lt x y)) (w:Sd lt)
include hbr w
theorem MP {a i:Int} {l0:List α} (ha:0≤a) (hi:a<i) (hil:i<l0.length) (hf0:Ir P d l0) (h0:Asc d lt a i l0) :
  ∃ l',aM (sR br a) (i,l0)=some l'∧On d a (i+1) l0 l'∧Asc d lt a (i+1) l':=by
 refine mH (fun s=>(s.1-a).toNat) (fun s=>a≤s.1∧s.1≤i∧On d a (i+1) l0 s.2∧∀ p q:Int,a≤p→p<q→q≤i→q≠s.1→lt (gz d s.2 q) (gz d s.2 p)=false)
  (fun l'=>On d a (i+1) l0 l'∧Asc d lt a (i+1) l') (sR br a) ?_ (i,l0) ⟨by omega,w8 _,.refl _,fun p q h1 h2 h3 h4=>h0 p q h1 h2 (by simp only at h4;omega)⟩
 rintro ⟨j,l⟩ ⟨h1,h2,hon,hI⟩
 simp only at h1 h2 hon hI ⊢
 have hf:=hf0.on hon
 have hl:=hon.len
 have hL:=hf.len
 unfold sR
 by_cases hja:j>a
 ·cases hc:lt (gz d l j) (gz d l (j-1)) with
  | true =>
    left
    refine ⟨(j-1,sw d l j (j-1)), ?_,⟨by simp only;omega,by simp only;omega,.step hon j (j-1) (by omega) (by omega) (by omega) (by omega) ha (by omega), ?_⟩,by simp only;omega⟩
    ·simp (disch:=first | omega | (simp only [v8];omega) | (refine hf.all _ ?_ ?_ <;> omega)) only [hja,decide_true,if_true,bP,iH d,i9,hbr,hc]
     rfl
    ·simp only
     intro p q p1 p2 p3 p4
     rw [rM d (by omega) (by omega) (by omega) (by omega) (by omega),rM d (by omega) (by omega) (by omega) (by omega) (by omega)]
     rw [if_neg p4]
     by_cases e1:q=j
     ·rw [if_pos e1]
      by_cases e2:p=j-1
      ·rw [if_pos e2];exact w.asymm _ _ hc
      ·rw [if_neg e2,if_neg (by omega)]
       exact hI p (j-1) (by omega) (by omega) (by omega) (by omega)
     ·rw [if_neg e1]
      by_cases e2:p=j-1
      ·rw [if_pos e2];exact hI j q (by omega) (by omega) p3 e1
      ·rw [if_neg e2]
       by_cases e3:p=j
       ·rw [if_pos e3];exact hI (j-1) q (by omega) (by omega) p3 e1
       ·rw [if_neg e3];exact hI p q p1 p2 p3 e1
  | false =>
    right
    refine ⟨l, ?_,hon, ?_⟩
    ·simp (disch:=first | omega | (simp only [v8];omega) | (refine hf.all _ ?_ ?_ <;> omega)) only [hja,decide_true,if_true,bP,iH d,i9,hbr,hc,j9,if_false]
    ·intro p q p1 p2 p3
     by_cases e1:q=j
     ·subst e1
      by_cases e2:p=q-1
      ·subst e2;exact hc
      ·exact w.le_trans (hI p (q-1) p1 (by omega) (by omega) (by omega)) hc
     ·exact hI p q p1 p2 (by omega) e1
 ·right
  refine ⟨l, ?_,hon, ?_⟩
  ·simp only [hja,decide_false,j9,if_false,i9]
  ·intro p q p1 p2 p3
   exact hI p q p1 p2 (by omega) (by omega)
theorem Sr {a b:Int} {l0:List α} (ha:0≤a) (hab:a≤b) (hb:b≤l0.length) (hf0:Ir P d l0) :
  ∃ l',pE br a b l0=some l'∧On d a b l0 l'∧Asc d lt a b l':=by
 have hL:=hf0.len
 obtain ⟨l',h1,h2,h3⟩:=mH (fun s=>(b-s.1).toNat) (fun s=>a<s.1∧On d a b l0 s.2∧Asc d lt a (min s.1 b) s.2)
  (fun l'=>On d a b l0 l'∧Asc d lt a b l') (xT br a b) (by
   rintro ⟨i,l⟩ ⟨h1,hon,hI⟩
   simp only at h1 hon hI ⊢
   have hf:=hf0.on hon
   have hl:=hon.len
   unfold xT
   by_cases hib:i<b
   ·left
    obtain ⟨l',q1,q2,q3⟩:=MP hbr w ha h1 (by omega) hf (by rwa [V9 (by omega)] at hI)
    refine ⟨(i+1,l'), ?_,⟨by simp only;omega,hon.trans d (q2.mono d ha (w8 _) (by omega) (by omega)), ?_⟩,by simp only;omega⟩
    ·simp (disch:=omega) only [hib,decide_true,if_true,q1,i9,bA]
    ·simp only
     rw [V9 (by omega)];exact q3
   ·right
    refine ⟨l, ?_,hon, ?_⟩
    ·simp only [hib,decide_false,j9,if_false]
    ·rwa [Int.min_eq_right (by omega)] at hI) (a+1,l0) ⟨by simp only;omega,.refl _,fun p q p1 p2 p3=>by simp only at p3;omega⟩
 refine ⟨l', ?_,h2,h3⟩
 unfold pE
 simp (disch:=omega) only [bA,h1,i9]
end
def Ol {α:Type} (d:α) (lt:α→α→Bool) (first lo hi:Int) (r:Int) (l:List α):Prop:=∀ p c:Int,lo≤p→p≠r→c<hi→(c=2*p+1∨c=2*p+2)→lt (gz d l (first+p)) (gz d l (first+c))=false
section
variable {α:Type} {br:Br α} {lt:α→α→Bool} {P:α→Prop} {d:α} (hbr:∀ (β:Type) (x y:α) (k:Bool→Option β),P x→P y→br β x y k=k (lt x y)) (w:Sd lt)
include w
theorem QP {first hi:Int} {l:List α} (h:Ol d lt first 0 hi (-1) l):∀ n:Nat,∀ c:Int,0≤c→c≤n→c<hi→lt (gz d l first) (gz d l (first+c))=false:=by
 intro n
 induction n with
 | zero => intro c h1 h2 h3;obtain rfl:c = 0 := by omega
           rw [Int.add_zero];exact w.irrefl _
 | succ n ih =>
   intro c h1 h2 h3
   by_cases e:c=0
   ·subst e;rw [Int.add_zero];exact w.irrefl _
   ·have e1:=ih ((c-1) / 2) (by omega) (by omega) (by omega)
    have e2:=h ((c-1) / 2) c (by omega) (by omega) h3 (by omega)
    exact w.le_trans e2 e1
include hbr
theorem Uf {first lo hi:Int} {l0:List α} (h1:0≤first) (h2:0≤lo) (h3:first+hi≤l0.length) (hf0:Ir P d l0) (h0:Ol d lt first lo hi lo l0) (hlo:lo≤l0.length) :
  ∃ l',uB br lo hi first l0=some l'∧On d (first+lo) (first+hi) l0 l'∧Ol d lt first lo hi (-1) l':=by
 have hL:=hf0.len
 obtain ⟨r,q1,q2⟩:=mH (fun s:Int×List α=>(hi-s.1).toNat)
  (fun s:Int×List α=>lo≤s.1∧s.1≤(l0.length:Int)∧On d (first+lo) (first+hi) l0 s.2∧Ol d lt first lo hi s.1 s.2∧∀ p c:Int,lo≤p→(s.1=2*p+1∨s.1=2*p+2)→(c=2*s.1+1∨c=2*s.1+2)→c<hi→lt (gz d s.2 (first+p)) (gz d s.2 (first+c))=false)
  (fun r:List α ⊕ List α=>∃ l',(r=.inl l'∨r=.inr l')∧On d (first+lo) (first+hi) l0 l'∧Ol d lt first lo hi (-1) l') (Gl br hi first) (by
   rintro ⟨r,l⟩ ⟨i1,i2,hon,hI,hG⟩
   simp only at i1 i2 hon hI hG ⊢
   have hf:=hf0.on hon
   have hl:=hon.len
   unfold Gl
   have e1:aQ (gZ 2 r) 1=2*r+1:=by rw [Fl (by omega) (by omega),bA (by omega) (by omega)]
   simp only [e1]
   by_cases hc:2*r+1 ≥ hi
   ·right
    refine ⟨.inl l,by simp only [hc,decide_true,if_true],l,.inl rfl,hon,fun p c p1 p2 p3 p4=>?_⟩
    by_cases e:p=r
    ·omega
    ·exact hI p c p1 e p3 p4
   ·-- the greater child
    have key:∀ ch:Int,(ch=2*r+1∨ch=2*r+2)→ch<hi→(∀ c:Int,(c=2*r+1∨c=2*r+2)→c<hi→lt (gz d l (first+ch)) (gz d l (first+c))=false) →
      (∃ s',mS br first (r,l) ch=some (.inl s')∧(lo≤s'.1∧s'.1≤l0.length∧On d (first+lo) (first+hi) l0 s'.2∧Ol d lt first lo hi s'.1 s'.2∧∀ p c:Int,lo≤p→(s'.1=2*p+1∨s'.1=2*p+2)→(c=2*s'.1+1∨c=2*s'.1+2)→c<hi→lt (gz d s'.2 (first+p)) (gz d s'.2 (first+c))=false)∧(hi-s'.1).toNat<(hi-r).toNat) ∨
      (∃ x,mS br first (r,l) ch=some (.inr x)∧∃ l',(x=.inl l'∨x=.inr l')∧On d (first+lo) (first+hi) l0 l'∧Ol d lt first lo hi (-1) l'):=by
     intro ch c1 c2 c3
     have a1:aQ first r=first+r:=bA (by omega) (by omega)
     have a2:aQ first ch=first+ch:=bA (by omega) (by omega)
     unfold mS
     cases hlt:lt (gz d l (first+r)) (gz d l (first+ch)) with
     | false =>
       right
       refine ⟨.inr l, ?_,l,.inr rfl,hon,fun p c p1 p2 p3 p4=>?_⟩
       ·simp (disch:=first | omega | (simp only [v8];omega) | (refine hf.all _ ?_ ?_ <;> omega)) only [a1,a2,iH d,i9,hbr,hlt,E0,if_true]
       ·by_cases e:p=r
        ·subst e;exact w.le_trans (c3 c p4 p3) hlt
        ·exact hI p c p1 e p3 p4
     | true =>
       left
       refine ⟨(ch,sw d l (first+r) (first+ch)), ?_,⟨by simp only;omega,by simp only;omega,.step hon _ _ (by omega) (by omega) (by omega) (by omega) (by omega) (by omega), ?_, ?_⟩,by simp only;omega⟩
       ·simp (disch:=first | omega | (simp only [v8];omega) | (refine hf.all _ ?_ ?_ <;> omega)) only [a1,a2,iH d,i9,hbr,hlt,u5,j9,if_false]
        rfl
       ·intro p c p1 p2 p3 p4
        simp only at p2 ⊢
        rw [rM d (by omega) (by omega) (by omega) (by omega) (by omega),rM d (by omega) (by omega) (by omega) (by omega) (by omega)]
        by_cases e1:p=r
        ·rw [if_neg (by omega),if_pos (by omega)]
         by_cases e2:c=ch
         ·rw [if_pos (by omega)];exact w.asymm _ _ hlt
         ·rw [if_neg (by omega),if_neg (by omega)];exact c3 c (by omega) p3
        ·rw [if_neg (by omega),if_neg (by omega)]
         by_cases e2:c=r
         ·rw [if_neg (by omega),if_pos (by omega)];exact hG p ch p1 (by omega) c1 c2
         ·rw [if_neg (by omega),if_neg (by omega)];exact hI p c p1 e1 p3 p4
       ·intro p c p1 p2 p3 p4
        simp only at p2 p3
        simp only
        obtain rfl:p=r:=by omega
        rw [rM d (by omega) (by omega) (by omega) (by omega) (by omega),rM d (by omega) (by omega) (by omega) (by omega) (by omega)]
        rw [if_neg (by omega),if_pos rfl,if_neg (by omega),if_neg (by omega)]
        exact hI ch c (by omega) (by omega) p4 p3
    have b1:aQ first (2*r+1)=first+(2*r+1):=bA (by omega) (by omega)
    have b2:aQ (first+(2*r+1)) 1=first+(2*r+2):=by rw [bA (by omega) (by omega)];omega
    have b3:aQ (2*r+1) 1=2*r+2:=by rw [bA (by omega) (by omega)];omega
    simp only [hc,decide_false,j9,if_false,b1,b2,b3]
    by_cases h2c:2*r+2<hi
    ·cases hcc:lt (gz d l (first+(2*r+1))) (gz d l (first+(2*r+2))) with
     | true =>
       simp (disch:=first | omega | (refine hf.all _ ?_ ?_ <;> omega)) only [h2c,decide_true,if_true,iH d,i9,hbr,hcc]
       refine key (2*r+2) (.inr rfl) h2c fun c p1 p2=>?_
       rcases p1 with rfl | rfl
       ·exact w.asymm _ _ hcc
       ·exact w.irrefl _
     | false =>
       simp (disch:=first | omega | (refine hf.all _ ?_ ?_ <;> omega)) only [h2c,decide_true,if_true,iH d,i9,hbr,hcc,j9,if_false]
       refine key (2*r+1) (.inl rfl) (by omega) fun c p1 p2=>?_
       rcases p1 with rfl | rfl
       ·exact w.irrefl _
       ·exact hcc
    ·simp only [h2c,decide_false,j9,if_false,i9]
     refine key (2*r+1) (.inl rfl) (by omega) fun c p1 p2=>?_
     obtain rfl:c=2*r+1:=by omega
     exact w.irrefl _) (lo,l0) ⟨w8 _,hlo,.refl _,h0,fun p c p1 p2=>by simp only at p2;omega⟩
 obtain ⟨l',hr,q3,q4⟩:=q2
 refine ⟨l', ?_,q3,q4⟩
 unfold uB
 rw [q1]
 rcases hr with rfl | rfl <;> rfl
theorem EN {a b:Int} {l0:List α} (ha:0≤a) (hab:a≤b) (hb:b≤l0.length) (hf0:Ir P d l0) :
  ∃ l',Ao br a b l0=some l'∧On d a b l0 l'∧Asc d lt a b l':=by
 have hL:=hf0.len
 have s1:aK b a=b-a:=bP (by omega) (by omega)
 have s2:aK (b-a) 1=b-a-1:=bP (by omega) (by omega)
 have ht:0≤(b-a-1).tdiv 2∧(b-a-1).tdiv 2≤b-a∧b-a-1<2*(b-a-1).tdiv 2+2:=by
  by_cases h:0≤b-a-1
  ·rw [R4 h];omega
  ·rw [show b-a-1=-1 from by omega,show Int.tdiv (-1) 2=0 from rfl];omega
 have s3:uI (b-a-1) 2=(b-a-1).tdiv 2:=zX _ (by omega) (by omega)
 obtain ⟨l1,q1,q2,q3⟩:=mH (fun s:Int×List α=>(s.1+1).toNat) (fun s:Int×List α=>-1≤s.1∧s.1≤b-a∧On d a b l0 s.2∧Ol d lt a (s.1+1) (b-a) (-1) s.2)
  (fun l'=>On d a b l0 l'∧Ol d lt a 0 (b-a) (-1) l') (Gi br a b) (by
   rintro ⟨i,l⟩ ⟨i1,i2,hon,hI⟩
   simp only at i1 i2 hon hI ⊢
   have hf:=hf0.on hon
   have hl:=hon.len
   unfold Gi
   by_cases hi:i ≥ 0
   ·left
    obtain ⟨l',p1,p2,p3⟩:=Uf hbr w (first:=a) (lo:=i) (hi:=b-a) ha hi (by omega) hf (fun p c c1 c2 c3 c4=>hI p c (by omega) (by omega) c3 c4) (by omega)
    refine ⟨(i-1,l'), ?_,⟨by simp only;omega,by simp only;omega,hon.trans d (p2.mono d ha (by omega) (by omega) (by omega)), ?_⟩,by simp only;omega⟩
    ·simp (disch:=omega) only [hi,decide_true,if_true,s1,p1,i9,bP]
    ·simp only
     rw [show i-1+1=i from by omega];exact p3
   ·right
    refine ⟨l,by simp only [hi,decide_false,j9,if_false],hon, ?_⟩
    rwa [show i+1=0 from by omega] at hI) ((b-a-1).tdiv 2,l0) ⟨by simp only;omega,by simp only;omega,.refl _,fun p c p1 p2 p3 p4=>by simp only at p1;omega⟩
 have hl1:=q2.len
 obtain ⟨l2,r1,r2,r3⟩:=mH (fun s:Int×List α=>(s.1+1).toNat)
  (fun s:Int×List α=>-1≤s.1∧s.1<b-a∧On d a b l0 s.2∧Ol d lt a 0 (s.1+1) (-1) s.2∧∀ q:Int,s.1<q→q<b-a→∀ p:Int,0≤p→p<q→lt (gz d s.2 (a+q)) (gz d s.2 (a+p))=false)
  (fun l'=>On d a b l0 l'∧Asc d lt a b l') (Gj br a) (by
   rintro ⟨i,l⟩ ⟨i1,i2,hon,hH,hI⟩
   simp only at i1 i2 hon hH hI ⊢
   have hf:=hf0.on hon
   have hl:=hon.len
   unfold Gj
   by_cases hi:i ≥ 0
   ·left
    have hmax:=fun c h1 h2=>QP w hH i.toNat c h1 (by omega) h2
    have hsw:On d a (a+i+1) l (sw d l a (a+i)):=.step (.refl _) _ _ (w8 _) (by omega) (by omega) (by omega) ha (by omega)
    have hsl:(sw d l a (a+i)).length=l.length:=Yj ..
    obtain ⟨l',p1,p2,p3⟩:=Uf hbr w (first:=a) (lo:=0) (hi:=i) (l0:=sw d l a (a+i)) ha (w8 _) (by omega) (hf.on hsw) (fun p c c1 c2 c3 c4=>by
     rw [rM d (by omega) (by omega) (by omega) (by omega) (by omega),rM d (by omega) (by omega) (by omega) (by omega) (by omega)]
     rw [if_neg (by omega),if_neg (by omega),if_neg (by omega),if_neg (by omega)]
     exact hH p c c1 (by omega) (by omega) c4) (by omega)
    have hall:On d a (a+i+1) l l':=hsw.trans d (p2.mono d ha (by omega) (by omega) (by omega))
    have a1:aQ a i=a+i:=bA (by omega) (by omega)
    refine ⟨(i-1,l'), ?_,⟨by simp only;omega,by simp only;omega,hon.trans d (hall.mono d ha (w8 _) (by omega) (by omega)), ?_, ?_⟩,by simp only;omega⟩
    ·have p1':uB br 0 i a (m7 (m7 l (l4 a) (gz d l (a+i))) (l4 (a+i)) (gz d l a))=some l':=p1
     simp (disch:=first | omega | (simp only [v8];omega)) only [hi,decide_true,if_true,a1,iH d,i9,p1',bP]
    ·simp only
     rw [show i-1+1=i from by omega];exact p3
    ·simp only
     intro q c1 c2 p c3 c4
     by_cases e:q=i
     ·subst e
      have e1:gz d l' (a+q)=gz d l a:=by
       rw [p2.out d (by omega) (.inr (by omega)),rM d (by omega) (by omega) (by omega) (by omega) (by omega),if_pos rfl]
      rw [e1]
      refine p2.all d (fun x=>lt (gz d l a) x=false) (fun k k1 k2=>?_) (a+p) (by omega) (by omega)
      rw [rM d (by omega) (by omega) (by omega) (by omega) (by omega),if_neg (by omega)]
      split
      ·exact hmax q (by omega) (by omega)
      ·have:=hmax (k-a) (by omega) (by omega)
       rwa [show a+(k-a)=k from by omega] at this
     ·have e1:gz d l' (a+q)=gz d l (a+q):=hall.out d (by omega) (.inr (by omega))
      rw [e1]
      by_cases e2:p≤i
      ·refine hall.all d (fun x=>lt (gz d l (a+q)) x=false) (fun k k1 k2=>?_) (a+p) (by omega) (by omega)
       have:=hI q (by omega) c2 (k-a) (by omega) (by omega)
       rwa [show a+(k-a)=k from by omega] at this
      ·rw [hall.out d (k:=a+p) (by omega) (.inr (by omega))]
       exact hI q (by omega) c2 p c3 c4
   ·right
    refine ⟨l,by simp only [hi,decide_false,j9,if_false],hon,fun p q c1 c2 c3=>?_⟩
    have:=hI (q-a) (by omega) (by omega) (p-a) (by omega) (by omega)
    rwa [show a+(q-a)=q from by omega,show a+(p-a)=p from by omega] at this) (b-a-1,l1) ⟨by simp only;omega,by simp only;omega,q2,by simp only;rw [show b-a-1+1=b-a from by omega];exact q3,fun q c1 c2=>by simp only at c1;omega⟩
 refine ⟨l2, ?_,r2,r3⟩
 unfold Ao
 simp only [s1,s2,s3,q1,i9,r1]
end
theorem Vl {body:Int→Option (Int ⊕ Int)} (c:Int→Bool) {i j:Int} (hij:i≤j+1) (hs:∀ s,i≤s→s≤j→body s=if c s then some (.inl (s+1)) else some (.inr s)) (he:body (j+1)=some (.inr (j+1))) :
  ∃ x,aM body i=some x∧i≤x∧x≤j+1∧(∀ k,i≤k→k<x→c k=true)∧(x≤j→c x=false):=
 mH (fun s:Int=>(j+1-s).toNat) (fun s=>i≤s∧s≤j+1∧∀ k,i≤k→k<s→c k=true) (fun x=>i≤x∧x≤j+1∧(∀ k,i≤k→k<x→c k=true)∧(x≤j→c x=false)) body (by
  rintro s ⟨h1,h2,h3⟩
  by_cases h:s≤j
  ·cases hc:c s with
   | true =>
     left
     refine ⟨s+1,by rw [hs s h1 h,hc];rfl,⟨by omega,by omega,fun k k1 k2=>?_⟩,by omega⟩
     by_cases e:k=s
     ·subst e;exact hc
     ·exact h3 k k1 (by omega)
   | false =>
     right
     exact ⟨s,by rw [hs s h1 h,hc];rfl,h1,h2,h3,fun _=>hc⟩
  ·right
   obtain rfl:s=j+1:=by omega
   exact ⟨_,he,h1,h2,h3,fun q=>absurd q (by omega)⟩) i ⟨w8 _,hij,fun k k1 k2=>absurd k1 (by omega)⟩
theorem Tf {body:Int→Option (Int ⊕ Int)} (c:Int→Bool) {i j:Int} (hij:i≤j+1) (hs:∀ s,i≤s→s≤j→body s=if c s then some (.inl (s-1)) else some (.inr s)) (he:body (i-1)=some (.inr (i-1))) :
  ∃ x,aM body j=some x∧i-1≤x∧x≤j∧(∀ k,x<k→k≤j→c k=true)∧(i≤x→c x=false):=
 mH (fun s:Int=>(s+1-i).toNat) (fun s=>i-1≤s∧s≤j∧∀ k,s<k→k≤j→c k=true) (fun x=>i-1≤x∧x≤j∧(∀ k,x<k→k≤j→c k=true)∧(i≤x→c x=false)) body (by
  rintro s ⟨h1,h2,h3⟩
  by_cases h:i≤s
  ·cases hc:c s with
   | true =>
     left
     refine ⟨s-1,by rw [hs s h h2,hc];rfl,⟨by omega,by omega,fun k k1 k2=>?_⟩,by omega⟩
     by_cases e:k=s
     ·subst e;exact hc
     ·exact h3 k (by omega) k2
   | false =>
     right
     exact ⟨s,by rw [hs s h h2,hc];rfl,h1,h2,h3,fun _=>hc⟩
  ·right
   obtain rfl:s=i-1:=by omega
   exact ⟨_,he,h1,h2,h3,fun q=>absurd q (by omega)⟩) j ⟨by omega,w8 _,fun k k1 k2=>absurd k1 (by omega)⟩
section
variable {α:Type} {br:Br α} {lt:α→α→Bool} {P:α→Prop} {d:α} (hbr:∀ (β:Type) (x y:α) (k:Bool→Option β),P x→P y→br β x y k=k (lt x y)) (w:Sd lt)
include hbr
theorem Xt {a b:Int} {l0:List α} (ha:0≤a) (hab:a<b) (hb:b≤l0.length) (hf0:Ir P d l0) {i0 j0:Int} (h1:a+1≤i0) (h2:j0≤b-1) (h3:i0≤j0+1)
  (hlo:∀ k,a+1≤k→k<i0→lt (gz d l0 k) (gz d l0 a)=true) (hhi:∀ k,j0<k→k<b→lt (gz d l0 k) (gz d l0 a)=false) :
  ∃ r,aM (zK br a) (i0,j0,l0)=some r∧On d (a+1) b l0 r.2∧gz d r.2 a=gz d l0 a∧a≤r.1∧r.1<b∧(∀ k,a+1≤k→k≤r.1→lt (gz d r.2 k) (gz d l0 a)=true)∧(∀ k,r.1<k→k<b→lt (gz d r.2 k) (gz d l0 a)=false):=by
 have hL:=hf0.len
 refine mH (fun s:Int×Int×List α=>(s.2.1+1-s.1).toNat) (fun s:Int×Int×List α=>a+1≤s.1∧s.2.1≤b-1∧s.1≤s.2.1+1∧On d (a+1) b l0 s.2.2∧gz d s.2.2 a=gz d l0 a ∧
  (∀ k,a+1≤k→k<s.1→lt (gz d s.2.2 k) (gz d l0 a)=true)∧(∀ k,s.2.1<k→k<b→lt (gz d s.2.2 k) (gz d l0 a)=false)) _ (zK br a) ?_ (i0,j0,l0) ⟨h1,h2,h3,.refl _,rfl,hlo,hhi⟩
 rintro ⟨i,j,l⟩ ⟨i1,i2,i3,hon,hp,hI,hJ⟩
 simp only at i1 i2 i3 hon hp hI hJ ⊢
 have hf:=hf0.on hon
 have hl:=hon.len
 unfold zK
 obtain ⟨x,x1,x2,x3,x4,x5⟩:=Vl (body:=zI br a (i,j,l)) (fun k=>lt (gz d l k) (gz d l0 a)) i3 (fun s s1 s2=>by
  unfold zI
  simp (disch:=first | omega | (refine hf.all _ ?_ ?_ <;> omega) | (refine hf0.all _ ?_ ?_ <;> omega)) only [s2,decide_true,if_true,iH d,i9,hbr,hp,bA]) (by
  unfold zI
  simp only [show ¬ j+1≤j from by omega,decide_false,j9,if_false,i9])
 obtain ⟨y,y1,y2,y3,y4,y5⟩:=Tf (body:=zJ br a (i,j,l) x) (fun k=>!lt (gz d l k) (gz d l0 a)) x3 (fun s s1 s2=>by
  unfold zJ
  simp (disch:=first | omega | (refine hf.all _ ?_ ?_ <;> omega) | (refine hf0.all _ ?_ ?_ <;> omega)) only [s1,decide_true,if_true,iH d,i9,hbr,hp,bP]) (by
  unfold zJ
  simp only [show ¬ x≤x-1 from by omega,decide_false,j9,if_false,i9])
 simp only [x1,y1,i9]
 by_cases hxy:x>y
 ·right
  refine ⟨(y,l),by simp only [hxy,decide_true,if_true],hon,hp,by simp only;omega,by simp only;omega,fun k k1 k2=>?_,fun k k1 k2=>?_⟩
  ·simp only at k2 ⊢
   by_cases e:k<i
   ·exact hI k k1 e
   ·exact x4 k (by omega) (by omega)
  ·simp only at k1 ⊢
   by_cases e:j<k
   ·exact hJ k e k2
   ·have:=y4 k (by omega) (by omega)
    simpa using this
 ·left
  have hx:=x5 (by omega)
  have hy:=y5 (by omega)
  simp only [L9,E0] at hy
  have hne:x≠y:=fun e=>by subst e;rw [hx] at hy;cases hy
  refine ⟨(x+1,y-1,sw d l x y), ?_,⟨by simp only;omega,by simp only;omega,by simp only;omega,.step hon x y (by omega) (by omega) (by omega) (by omega) (by omega) (by omega), ?_,fun k k1 k2=>?_,fun k k1 k2=>?_⟩,by simp only;omega⟩
  ·simp (disch:=first | omega | (simp only [v8];omega)) only [hxy,decide_false,j9,if_false,iH d,i9,bA,bP]
   rfl
  ·simp only
   rw [rM d (by omega) (by omega) (by omega) (by omega) (by omega),if_neg (by omega),if_neg (by omega)];exact hp
  ·simp only at k2 ⊢
   rw [rM d (by omega) (by omega) (by omega) (by omega) (by omega),if_neg (by omega)]
   by_cases e:k=x
   ·rw [if_pos e];exact hy
   ·rw [if_neg e]
    by_cases e:k<i
    ·exact hI k k1 e
    ·exact x4 k (by omega) (by omega)
  ·simp only at k1 ⊢
   rw [rM d (by omega) (by omega) (by omega) (by omega) (by omega)]
   by_cases e:k=y
   ·rw [if_pos e];exact hx
   ·rw [if_neg e,if_neg (by omega)]
    by_cases e:j<k
    ·exact hJ k e k2
    ·have:=y4 k (by omega) (by omega)
     simpa using this
theorem CR {a b pivot:Int} {l0:List α} (ha:0≤a) (hab:a<b) (hb:b≤l0.length) (hf0:Ir P d l0) (hp1:a≤pivot) (hp2:pivot<b) :
  ∃ mid al l',uH br a b pivot l0=some (mid,al,l')∧On d a b l0 l'∧a≤mid∧mid<b∧(∀ k,a≤k→k<mid→lt (gz d l' k) (gz d l' mid)=true)∧(∀ k,mid<k→k<b→lt (gz d l' k) (gz d l' mid)=false):=by
 have hL:=hf0.len
 have hon1:On d a b l0 (sw d l0 a pivot):=.step (.refl _) _ _ (w8 _) hab hp1 hp2 ha hb
 obtain ⟨l1,hl1⟩:∃ l1,sw d l0 a pivot=l1:=⟨_,rfl⟩
 have e1:m7 (m7 l0 (l4 a) (gz d l0 pivot)) (l4 pivot) (gz d l0 a)=l1:=hl1
 rw [hl1] at hon1
 have hf:=hf0.on hon1
 have hl:=hon1.len
 have s1:aK b 1=b-1:=bP (by omega) (by omega)
 have s2:aQ a 1=a+1:=bA (by omega) (by omega)
 unfold uH
 simp (disch:=first | omega | (simp only [v8];omega)) only [iH d (l:=l0),i9]
 rw [show idx (l0.set a.toNat (gz d l0 pivot)) pivot=some (gz d (l0.set a.toNat (gz d l0 pivot)) pivot) from iH d (by omega) (by rw [v8];omega),i9,e1]
 obtain ⟨x,x1,x2,x3,x4,x5⟩:=Vl (body:=yZ br a b pivot l0 (gz d l0 pivot) (gz d l0 a)) (fun k=>lt (gz d l1 k) (gz d l1 a)) (i:=a+1) (j:=b-1) (by omega) (fun s q1 q2=>by
  unfold yZ
  simp (disch:=first | omega | (refine hf.all _ ?_ ?_ <;> omega)) only [e1,s1,q2,decide_true,if_true,iH d,i9,hbr,bA]) (by
  unfold yZ
  simp only [s1,show ¬ b-1+1≤b-1 from by omega,decide_false,j9,if_false,i9])
 obtain ⟨y,y1,y2,y3,y4,y5⟩:=Tf (body:=zE br a pivot l0 (gz d l0 pivot) (gz d l0 a) x) (fun k=>!lt (gz d l1 k) (gz d l1 a)) (i:=x) (j:=b-1) x3 (fun s q1 q2=>by
  unfold zE
  simp (disch:=first | omega | (refine hf.all _ ?_ ?_ <;> omega)) only [e1,q1,decide_true,if_true,iH d,i9,hbr,bP]) (by
  unfold zE
  simp only [show ¬ x≤x-1 from by omega,decide_false,j9,if_false,i9])
 have fin:∀ (m:Int) (l:List α),On d a b l0 l→a≤m→m<b→gz d l a=gz d l1 a→(∀ k,a+1≤k→k≤m→lt (gz d l k) (gz d l1 a)=true)→(∀ k,m<k→k<b→lt (gz d l k) (gz d l1 a)=false) →
   On d a b l0 (sw d l m a)∧(∀ k,a≤k→k<m→lt (gz d (sw d l m a) k) (gz d (sw d l m a) m)=true)∧(∀ k,m<k→k<b→lt (gz d (sw d l m a) k) (gz d (sw d l m a) m)=false):=by
  intro m l on m1 m2 hq hlo hhi
  have hl:=on.len
  have em:gz d (sw d l m a) m=gz d l1 a:=by
   rw [rM d (by omega) (by omega) (by omega) (by omega) (by omega)]
   by_cases e:m=a
   ·rw [if_pos e,e];exact hq
   ·rw [if_neg e,if_pos rfl];exact hq
  refine ⟨.step on m a (by omega) (by omega) (by omega) (by omega) ha (by omega),fun k k1 k2=>?_,fun k k1 k2=>?_⟩
  ·rw [em,rM d (by omega) (by omega) (by omega) (by omega) (by omega)]
   by_cases e:k=a
   ·rw [if_pos e];exact hlo m (by omega) (w8 _)
   ·rw [if_neg e,if_neg (by omega)];exact hlo k (by omega) (by omega)
  ·rw [em,rM d (by omega) (by omega) (by omega) (by omega) (by omega),if_neg (by omega),if_neg (by omega)]
   exact hhi k k1 k2
 simp only [s1,s2,x1,y1,i9]
 by_cases hxy:x>y
 ·obtain ⟨f1,f2,f3⟩:=fin y l1 hon1 (by omega) (by omega) rfl (fun k k1 k2=>x4 k k1 (by omega)) (fun k k1 k2=>by
   have:=y4 k k1 (by omega)
   simpa using this)
  refine ⟨y,true,sw d l1 y a, ?_,f1,by omega,by omega,f2,f3⟩
  simp (disch:=first | omega | (simp only [v8];omega)) only [hxy,decide_true,if_true,iH d,i9]
  rfl
 ·have hx:=x5 (by omega)
  have hy:=y5 (by omega)
  simp only [L9,E0] at hy
  have hne:x≠y:=fun e=>by subst e;rw [hx] at hy;cases hy
  have hon2:On d (a+1) b l1 (sw d l1 x y):=.step (.refl _) x y (by omega) (by omega) (by omega) (by omega) (by omega) (by omega)
  have hga:gz d (sw d l1 x y) a=gz d l1 a:=by rw [rM d (by omega) (by omega) (by omega) (by omega) (by omega),if_neg (by omega),if_neg (by omega)]
  have hl2:(sw d l1 x y).length=l1.length:=Yj ..
  obtain ⟨r,r1,r2,r3,r4,r5,r6,r7⟩:=Xt hbr (i0:=x+1) (j0:=y-1) ha hab (by omega) (hf.on hon2) (by omega) (by omega) (by omega) (fun k k1 k2=>by
   rw [hga,rM d (by omega) (by omega) (by omega) (by omega) (by omega),if_neg (by omega)]
   by_cases e:k=x
   ·rw [if_pos e];exact hy
   ·rw [if_neg e];exact x4 k k1 (by omega)) (fun k k1 k2=>by
   rw [hga,rM d (by omega) (by omega) (by omega) (by omega) (by omega)]
   by_cases e:k=y
   ·rw [if_pos e];exact hx
   ·rw [if_neg e,if_neg (by omega)]
    have:=y4 k (by omega) (by omega)
    simpa using this)
  rw [hga] at r3 r6 r7
  have hon3:=(hon2.trans d r2).mono d ha (by omega) (w8 _) (by omega)
  have hl3:=r2.len
  obtain ⟨f1,f2,f3⟩:=fin r.1 r.2 (hon1.trans d hon3) r4 r5 r3 r6 r7
  have e2:m7 (m7 l1 (l4 x) (gz d l1 y)) (l4 y) (gz d l1 x)=sw d l1 x y:=rfl
  refine ⟨r.1,false,sw d r.2 r.1 a, ?_,f1,r4,r5,f2,f3⟩
  simp (disch:=first | omega | (simp only [v8];omega)) only [hxy,decide_false,j9,if_false,iH d,i9,bA,bP,e2,r1]
  rfl
theorem Ro {a b pivot:Int} {l0:List α} (ha:0≤a) (hab:a<b) (hb:b≤l0.length) (hf0:Ir P d l0) (hp1:a≤pivot) (hp2:pivot<b) (hirr:∀ x,lt x x=false) :
  ∃ mid l',nG br a b pivot l0=some (mid,l')∧On d a b l0 l'∧a<mid∧mid≤b∧(∀ k,a≤k→k<mid→lt (gz d l0 pivot) (gz d l' k)=false):=by
 have hL:=hf0.len
 have hon1:On d a b l0 (sw d l0 a pivot):=.step (.refl _) _ _ (w8 _) hab hp1 hp2 ha hb
 obtain ⟨l1,hl1⟩:∃ l1,sw d l0 a pivot=l1:=⟨_,rfl⟩
 have e1:m7 (m7 l0 (l4 a) (gz d l0 pivot)) (l4 pivot) (gz d l0 a)=l1:=hl1
 have hpa:gz d l1 a=gz d l0 pivot:=by
  rw [← hl1,rM d (by omega) (by omega) (by omega) (by omega) (by omega)]
  by_cases e:a=pivot
  ·rw [if_pos e,e]
  ·rw [if_neg e,if_pos rfl]
 rw [hl1] at hon1
 have hf1:=hf0.on hon1
 have hl1':=hon1.len
 have s1:aK b 1=b-1:=bP (by omega) (by omega)
 have s2:aQ a 1=a+1:=bA (by omega) (by omega)
 obtain ⟨r,r1,r2,r3,r4,r5⟩:=mH (fun s:Int×Int×List α=>(s.2.1+1-s.1).toNat) (fun s:Int×Int×List α=>a+1≤s.1∧s.2.1≤b-1∧s.1≤s.2.1+1∧On d (a+1) b l1 s.2.2∧gz d s.2.2 a=gz d l1 a ∧
   (∀ k,a+1≤k→k<s.1→lt (gz d l1 a) (gz d s.2.2 k)=false)) (fun r:Int×List α=>On d a b l0 r.2∧a<r.1∧r.1≤b∧(∀ k,a≤k→k<r.1→lt (gz d l0 pivot) (gz d r.2 k)=false)) (wT br a) (by
  rintro ⟨i,j,l⟩ ⟨i1,i2,i3,hon,hp,hI⟩
  simp only at i1 i2 i3 hon hp hI ⊢
  have hf:=hf1.on hon
  have hl:=hon.len
  unfold wT
  obtain ⟨x,x1,x2,x3,x4,x5⟩:=Vl (body:=rK br a (i,j,l)) (fun k=>!lt (gz d l1 a) (gz d l k)) i3 (fun s s1 s2=>by
   unfold rK
   simp (disch:=first | omega | (refine hf.all _ ?_ ?_ <;> omega) | (refine hf1.all _ ?_ ?_ <;> omega)) only [s2,decide_true,if_true,iH d,i9,hbr,hp,bA]) (by
   unfold rK
   simp only [show ¬ j+1≤j from by omega,decide_false,j9,if_false,i9])
  obtain ⟨y,y1,y2,y3,y4,y5⟩:=Tf (body:=rL br a (i,j,l) x) (fun k=>lt (gz d l1 a) (gz d l k)) x3 (fun s s1 s2=>by
   unfold rL
   simp (disch:=first | omega | (refine hf.all _ ?_ ?_ <;> omega) | (refine hf1.all _ ?_ ?_ <;> omega)) only [s1,decide_true,if_true,iH d,i9,hbr,hp,bP]) (by
   unfold rL
   simp only [show ¬ x≤x-1 from by omega,decide_false,j9,if_false,i9])
  simp only [x1,y1,i9]
  have below:∀ k,a+1≤k→k<x→lt (gz d l1 a) (gz d l k)=false:=fun k k1 k2=>by
   by_cases e:k<i
   ·exact hI k k1 e
   ·have:=x4 k (by omega) k2
    simpa using this
  by_cases hxy:x>y
  ·right
   refine ⟨(x,l),by simp only [hxy,decide_true,if_true],hon1.trans d (hon.mono d ha (by omega) (w8 _) (by omega)),by simp only;omega,by simp only;omega,fun k k1 k2=>?_⟩
   simp only at k2 ⊢
   rw [← hpa]
   by_cases e:k=a
   ·rw [e,hp];exact hirr _
   ·exact below k (by omega) k2
  ·left
   have hx:=x5 (by omega)
   have hy:=y5 (by omega)
   simp only [L9,E0] at hx
   have hne:x≠y:=fun e=>by subst e;rw [hx] at hy;cases hy
   refine ⟨(x+1,y-1,sw d l x y), ?_,⟨by simp only;omega,by simp only;omega,by simp only;omega,.step hon x y (by omega) (by omega) (by omega) (by omega) (by omega) (by omega), ?_,fun k k1 k2=>?_⟩,by simp only;omega⟩
   ·simp (disch:=first | omega | (simp only [v8];omega)) only [hxy,decide_false,j9,if_false,iH d,i9,bA,bP]
    rfl
   ·simp only
    rw [rM d (by omega) (by omega) (by omega) (by omega) (by omega),if_neg (by omega),if_neg (by omega)];exact hp
   ·simp only at k2 ⊢
    rw [rM d (by omega) (by omega) (by omega) (by omega) (by omega),if_neg (by omega)]
    by_cases e:k=x
    ·rw [if_pos e];exact hy
    ·rw [if_neg e];exact below k k1 (by omega)) (a+1,b-1,l1) ⟨by simp only;omega,by simp only;omega,by simp only;omega,.refl _,rfl,fun k k1 k2=>absurd k1 (by simp only at k2;omega)⟩
 refine ⟨r.1,r.2, ?_,r2,r3,r4,r5⟩
 unfold nG
 simp (disch:=first | omega | (simp only [v8];omega)) only [iH d (l:=l0),i9]
 rw [show idx (l0.set a.toNat (gz d l0 pivot)) pivot=some (gz d (l0.set a.toNat (gz d l0 pivot)) pivot) from iH d (by omega) (by rw [v8];omega),i9,e1]
 simp only [s1,s2,r1,i9]
end
theorem wrap_u64 {x:Int} (h0:0≤x) (h1:x<18446744073709551616):o6 .u64 x=x:=by
 simp only [o6,O9,P9,R3,Q4]
 first | omega | (simp;omega)
theorem ZP:((List.range 256).all fun c=>match oY ((c:Int),0) with | some t=>decide (0≤t∧t≤8∧2^t.toNat≤max 1 (2*c)) | none=>false)=true:=by decide +kernel
theorem QY (c n:Int) (h0:0≤n) (h1:n≤64) (hc:0≤c) (hc2:c<256):∃ t:Int,oY (c,n)=some (n+t)∧0≤t∧t≤8∧2^t.toNat≤max 1 (2*c.toNat):=by
 have h:=List.all_eq_true.1 ZP c.toNat (List.mem_range.2 (by omega))
 rw [show ((c.toNat:Nat):Int)=c from by omega] at h
 obtain ⟨T,hT⟩:∃ T:Int→Option Int,∀ c n,oY (c,n)=(T c).bind fun x=>some (aQ n (o6 .i64 x)):=⟨fun c=>Zn (I1 #[0,1,2,2,3,3,3,3,4,4,4,4,4,4,4,4,5,5,5,5,5,5,5,5,5,5,5,5,5,5,5,5,6,6,6,6,6,6,6,6,6,6,6,6,6,6,6,6,6,6,6,6,6,6,6,6,6,6,6,6,6,6,6,6,7,7,7,7,7,7,7,7,7,7,7,7,7,7,7,7,7,7,7,7,7,7,7,7,7,7,7,7,7,7,7,7,7,7,7,7,7,7,7,7,7,7,7,7,7,7,7,7,7,7,7,7,7,7,7,7,7,7,7,7,7,7,7,7,8,8,8,8,8,8,8,8,8,8,8,8,8,8,8,8,8,8,8,8,8,8,8,8,8,8,8,8,8,8,8,8,8,8,8,8,8,8,8,8,8,8,8,8,8,8,8,8,8,8,8,8,8,8,8,8,8,8,8,8,8,8,8,8,8,8,8,8,8,8,8,8,8,8,8,8,8,8,8,8,8,8,8,8,8,8,8,8,8,8,8,8,8,8,8,8,8,8,8,8,8,8,8,8,8,8,8,8,8,8,8,8,8,8,8,8,8,8,8,8,8,8,8,8,8,8,8,8]) (o6 .u8 c),fun _ _=>rfl⟩
 rw [hT] at h ⊢
 cases hs:T c with
 | none=>rw [hs] at h;simp at h
 | some t =>
   rw [hs] at h
   simp only [i9,decide_eq_true_eq] at h ⊢
   generalize hw:IntKind.i64.wrap t=v at h ⊢
   have hv:aQ 0 v=v:=by
    unfold aQ
    rw [Int.zero_add,← hw]
    simp only [o6,O9,P9,R3,Q4]
    first | omega | (simp only [Int.reducePow,if_true];omega) | (simp;omega)
   rw [hv] at h
   exact ⟨v,by rw [bA (by omega) (by omega)],h.1,h.2.1,h.2.2⟩
theorem RG {x:Int} (h0:0≤x) (h1:x≤1073741824):∃ v:Int,Ed (o6 .u64 x)=some v∧0≤v∧v≤40∧2^v.toNat≤max 1 (2*x.toNat):=by
 have hw:o6 .u64 x=x:=by
  exact wrap_u64 (by omega) (by omega)
 have c8:(2^(min (l4 8) 64):Int)=256:=by decide
 have c16:(2^(min (l4 16) 64):Int)=65536:=by decide
 have step:∀ (c n:Int),0≤c→0≤n→n≤30→c<65536→∃ t:Int,tH (c,n)=some (n+t)∧0≤t∧t≤16∧2^t.toNat≤max 1 (2*c.toNat):=fun c n h0 hn hn2 hc=>by
  unfold tH
  by_cases q:c ≥ 256
  ·simp only [q,decide_true,if_true,c8]
   have e:H7 c 256=c / 256:=R5 _ (by omega)
   rw [e,bA (by omega) (by omega)]
   obtain ⟨t,t1,t2,t3,t4⟩:=QY (c / 256) (n+8) (by omega) (by omega) (by omega) (by omega)
   refine ⟨8+t,by rw [t1];congr 1;omega,by omega,by omega, ?_⟩
   rw [show (8+t).toNat=8+t.toNat from by omega,Nat.pow_add]
   omega
  ·simp only [q,decide_false,j9,if_false]
   obtain ⟨t,t1,t2,t3,t4⟩:=QY c n (by omega) (by omega) (by omega) (by omega)
   exact ⟨t,t1,t2,by omega,t4⟩
 unfold Ed Iw xO
 rw [hw]
 have q:¬ x ≥ 4294967296:=by omega
 simp only [q,decide_false,j9,if_false]
 by_cases q:x ≥ 65536
 ·simp only [q,decide_true,if_true,c16]
  have e:H7 x 65536=x / 65536:=R5 _ (by omega)
  rw [e,show aQ 0 16=16 from rfl]
  obtain ⟨t,t1,t2,t3,t4⟩:=step (x / 65536) 16 (by omega) (by omega) (by omega) (by omega)
  refine ⟨16+t,by rw [t1];rfl,by omega,by omega, ?_⟩
  rw [show (16+t).toNat=16+t.toNat from by omega,Nat.pow_add]
  omega
 ·simp only [q,decide_false,j9,if_false]
  obtain ⟨t,t1,t2,t3,t4⟩:=step x 0 h0 (by omega) (by omega) (by omega)
  refine ⟨t,by rw [t1,Int.zero_add];rfl,t2,by omega,t4⟩
section
variable {α:Type} {br:Br α} {lt:α→α→Bool} {P:α→Prop} {d:α} (hbr:∀ (β:Type) (x y:α) (k:Bool→Option β),P x→P y→br β x y k=k (lt x y)) (w:Sd lt)
theorem IE {a b:Int} {l0:List α} (ha:0≤a) (hb:b≤l0.length) (hL:(l0.length:Int)≤1073741824) (hab:a≤b):∃ l',qY br a b l0=some l'∧On d a b l0 l':=by
 obtain ⟨l',r1,r2⟩:=mH (fun s:Int×Int×List α=>(s.2.1+1-s.1).toNat) (fun s:Int×Int×List α=>a≤s.1∧s.2.1<b∧s.1≤b∧a-1≤s.2.1∧On d a b l0 s.2.2) (fun l'=>On d a b l0 l') (zZ br) (by
  rintro ⟨i,j,l⟩ ⟨h1,h2,h3,h4,hon⟩
  simp only at h1 h2 h3 h4 hon ⊢
  have hl:=hon.len
  unfold zZ
  by_cases q:i<j
  ·left
   refine ⟨(i+1,j-1,sw d l i j), ?_,⟨by simp only;omega,by simp only;omega,by simp only;omega,by simp only;omega,.step hon i j h1 (by omega) (by omega) h2 ha (by omega)⟩,by simp only;omega⟩
   simp (disch:=first | omega | (simp only [v8];omega)) only [q,decide_true,if_true,iH d,i9,bA,bP]
   rfl
  ·right
   exact ⟨l,by simp only [q,decide_false,j9,if_false],hon⟩) (a,b-1,l0) ⟨by simp only;omega,by simp only;omega,by simp only;omega,by simp only;omega,.refl _⟩
 refine ⟨l', ?_,r2⟩
 unfold qY
 rw [bP (by omega) (by omega),r1];rfl
theorem YG (r m:Int) (h0:0≤m) (h1:m<9223372036854775808):0≤Pt .u64 r m∧Pt .u64 r m≤m:=by
 unfold Pt
 have hb:(BitVec.ofInt 64 m).toNat=m.toNat:=by
  rw [BitVec.toNat_ofInt]
  omega
 have hle:(BitVec.ofInt N8.bits r &&& BitVec.ofInt N8.bits m).toNat≤m.toNat:=by
  show (BitVec.ofInt 64 r &&& BitVec.ofInt 64 m).toNat≤m.toNat
  rw [BitVec.toNat_and,hb]
  exact Nat.and_le_right
 generalize (BitVec.ofInt N8.bits r &&& BitVec.ofInt N8.bits m).toNat=v at hle ⊢
 have hw:o6 .u64 (v:Int)=v:=by
  exact wrap_u64 (by omega) (by omega)
 rw [hw];omega
theorem A8 {n:Int} (h:0≤n) (h2:n≤1073741824):uI n 4=n / 4:=by
 unfold uI
 rw [R4 h]
 exact zX _ (by omega) (by omega)
theorem PD {a b:Int} {l0:List α} (ha:0≤a) (hb:b≤l0.length) (hL:(l0.length:Int)≤1073741824) (hab:a≤b):∃ l',oZ br a b l0=some l'∧On d a b l0 l':=by
 have s1:aK b a=b-a:=bP (by omega) (by omega)
 unfold oZ
 rw [s1]
 by_cases h8:b-a ≥ 8
 case neg=>simp only [h8,decide_false,j9,if_false];exact ⟨l0,rfl,.refl _⟩
 simp only [h8,decide_true,if_true]
 obtain ⟨v,v1,v2,v3,v4⟩:=RG (x:=b-a) (by omega) (by omega)
 have hpow:1≤2^v.toNat:=Nat.one_le_two_pow
 have hr2:vT (b-a)=some ((2^v.toNat:Nat):Int):=by
  unfold vT
  rw [v1]
  simp only [i9,v2,decide_true,if_true]
  congr 1
  rw [show min v.toNat 64=v.toNat from by omega,Int.one_mul,show (2:Int)^v.toNat=((2^v.toNat:Nat):Int) from by simp]
  exact wrap_u64 (by omega) (by omega)
 rw [hr2,i9]
 obtain ⟨R,hR⟩:∃ R:Int,((2^v.toNat:Nat):Int)=R:=⟨_,rfl⟩
 rw [hR]
 have hR1:1≤R:=by omega
 have hR2:R≤2*(b-a):=by omega
 have hm:o6 .u64 (R-1)=R-1:=by
  exact wrap_u64 (by omega) (by omega)
 have q4:=A8 (n:=b-a) (by omega) (by omega)
 have q2:gZ ((b-a) / 4) 2=(b-a) / 4*2:=Fl (by omega) (by omega)
 have q3:aQ a ((b-a) / 4*2)=a+(b-a) / 4*2:=bA (by omega) (by omega)
 have q5:aQ (a+(b-a) / 4*2) 1=a+(b-a) / 4*2+1:=bA (by omega) (by omega)
 have q6:aK (a+(b-a) / 4*2) 1=a+(b-a) / 4*2-1:=bP (by omega) (by omega)
 obtain ⟨l',r1,r2⟩:=mH (fun s:Int×Int×List α=>(a+(b-a) / 4*2+2-s.1).toNat) (fun s:Int×Int×List α=>a≤s.1∧On d a b l0 s.2.2) (fun l'=>On d a b l0 l') (xS br a b R) (by
  rintro ⟨i,rr,l⟩ ⟨h1,hon⟩
  simp only at h1 hon ⊢
  have hl:=hon.len
  unfold xS
  simp only [s1,q4,q2,q3,q5,hm]
  by_cases q:i≤a+(b-a) / 4*2+1
  ·left
   simp only [q,decide_true,if_true,Cn,i9]
   generalize hz:(iX N8 _ _:Int)=z
   obtain ⟨a1,a2⟩:=YG z (R-1) (by omega) (by omega)
   have hw:o6 .i64 (Pt .u64 z (R-1))=Pt .u64 z (R-1):=zX _ (by omega) (by omega)
   rw [hw]
   obtain ⟨o,ho⟩:∃ o,Pt .u64 z (R-1)=o:=⟨_,rfl⟩
   rw [ho] at a1 a2 ⊢
   have key:∀ t:Int,0≤t→t<b-a→∃ s',iG br a (i,rr,l) t=some (.inl s')∧(a≤s'.1∧On d a b l0 s'.2.2)∧(a+(b-a) / 4*2+2-s'.1).toNat<(a+(b-a) / 4*2+2-i).toNat:=fun t t1 t2=>by
    have e:aQ a t=a+t:=bA (by omega) (by omega)
    unfold iG
    simp (disch:=first | omega | (simp only [v8];omega)) only [e,iH d,i9]
    refine ⟨_,rfl,⟨?_, ?_⟩, ?_⟩
    ·simp only;rw [bA (by omega) (by omega)];omega
    ·exact .step hon i (a+t) (by omega) (by omega) (by omega) (by omega) ha (by omega)
    ·simp only;rw [bA (by omega) (by omega)];omega
   by_cases hge:o ≥ b-a
   ·simp only [hge,decide_true,if_true]
    rw [bP (by omega) (by omega)]
    exact key (o-(b-a)) (by omega) (by omega)
   ·simp only [hge,decide_false,j9,if_false]
    exact key o a1 (by omega)
  ·right
   exact ⟨l,by simp only [q,decide_false,j9,if_false],hon⟩) (a+(b-a) / 4*2-1,o6 .u64 (b-a),l0) ⟨by simp only;omega,.refl _⟩
 refine ⟨l', ?_,r2⟩
 simp only [q4,q2,q3,q6,r1,i9]
include hbr
theorem Ta {l:List α} (hf:Ir P d l) {x y:Int} (s:Int) (hx:0≤x) (hx':x<l.length) (hy:0≤y) (hy':y<l.length):∃ r,Ap br l x y s=some r∧((r.1=x∧r.2.1=y)∨(r.1=y∧r.2.1=x)):=by
 unfold Ap
 rw [iH d hy hy',i9,iH d hx hx',i9,hbr _ _ _ _ (hf.all _ hy hy') (hf.all _ hx hx')]
 cases lt (gz d l y) (gz d l x) with
 | true=>exact ⟨_,rfl,.inr ⟨rfl,rfl⟩⟩
 | false=>exact ⟨_,rfl,.inl ⟨rfl,rfl⟩⟩
theorem AP {l:List α} (hf:Ir P d l) {lo hi x y z:Int} (s:Int) (hlo:0≤lo) (hhi:hi≤l.length) (hx:lo≤x∧x<hi) (hy:lo≤y∧y<hi) (hz:lo≤z∧z<hi):∃ r,Cm br l x y z s=some r∧lo≤r.1∧r.1<hi:=by
 unfold Cm
 obtain ⟨r1,e1,q1⟩:=Ta hbr hf (x:=x) (y:=y) s (by omega) (by omega) (by omega) (by omega)
 rw [e1,i9]
 obtain ⟨r2,e2,q2⟩:=Ta hbr hf (x:=r1.2.1) (y:=z) r1.2.2 (by omega) (by omega) (by omega) (by omega)
 rw [e2,i9]
 obtain ⟨r3,e3,q3⟩:=Ta hbr hf (x:=r1.1) (y:=r2.1) r2.2.2 (by omega) (by omega) (by omega) (by omega)
 rw [e3,i9]
 exact ⟨_,rfl,by simp only;omega,by simp only;omega⟩
theorem MA {l:List α} (hf:Ir P d l) {a b:Int} (ha:0≤a) (hb:b≤l.length) (hab:a+12<b):∃ p h,tJ br l a b=some (p,h)∧a≤p∧p<b:=by
 have hL:=hf.len
 have s1:aK b a=b-a:=bP (by omega) (by omega)
 have q4:=A8 (n:=b-a) (by omega) (by omega)
 have m1:gZ ((b-a) / 4) 1=(b-a) / 4*1:=Fl (by omega) (by omega)
 have m2:gZ ((b-a) / 4) 2=(b-a) / 4*2:=Fl (by omega) (by omega)
 have m3:gZ ((b-a) / 4) 3=(b-a) / 4*3:=Fl (by omega) (by omega)
 have a1:aQ a ((b-a) / 4*1)=a+(b-a) / 4*1:=bA (by omega) (by omega)
 have a2:aQ a ((b-a) / 4*2)=a+(b-a) / 4*2:=bA (by omega) (by omega)
 have a3:aQ a ((b-a) / 4*3)=a+(b-a) / 4*3:=bA (by omega) (by omega)
 have k1:∀ p n:Int,∃ h,jU br (p,n)=some (p,h):=fun p n=>by
  unfold jU
  simp only
  split
  ·exact ⟨_,rfl⟩
  ·split
   ·exact ⟨_,rfl⟩
   ·exact ⟨_,rfl⟩
 have k2:∀ x y z s:Int,(a≤x∧x<b)→(a≤y∧y<b)→(a≤z∧z<b)→∃ p h,jV br l (x,y,z,s)=some (p,h)∧a≤p∧p<b:=fun x y z s hx hy hz=>by
  unfold jV
  obtain ⟨r,e,r1,r2⟩:=AP hbr hf (lo:=a) (hi:=b) s ha hb hx hy hz
  simp only [e,i9]
  obtain ⟨h,e2⟩:=k1 r.1 r.2
  exact ⟨_,h,e2,r1,r2⟩
 have adj:∀ x s:Int,a+1≤x→x+1<b→∃ r,iI br l x s=some r∧a≤r.1∧r.1<b:=fun x s h1 h2=>by
  unfold iI
  rw [bP (by omega) (by omega),bA (by omega) (by omega)]
  obtain ⟨r,e,r1,r2⟩:=AP hbr hf (lo:=a) (hi:=b) (x:=x-1) (y:=x) (z:=x+1) s ha hb (by omega) (by omega) (by omega)
  rw [e]
  exact ⟨_,rfl,r1,r2⟩
 unfold tJ
 have h8:b-a ≥ 8:=by omega
 simp only [s1,q4,m1,m2,m3,a1,a2,a3,h8,decide_true,if_true]
 by_cases h50:b-a ≥ 50
 ·simp only [h50,decide_true,if_true]
  obtain ⟨r1,e1,p1,p2⟩:=adj (a+(b-a) / 4*1) 0 (by omega) (by omega)
  rw [e1,i9]
  obtain ⟨r2,e2,p3,p4⟩:=adj (a+(b-a) / 4*2) r1.2 (by omega) (by omega)
  rw [e2,i9]
  obtain ⟨r3,e3,p5,p6⟩:=adj (a+(b-a) / 4*3) r2.2 (by omega) (by omega)
  rw [e3,i9]
  exact k2 _ _ _ _ ⟨p1,p2⟩ ⟨p3,p4⟩ ⟨p5,p6⟩
 ·simp only [h50,decide_false,j9,if_false]
  exact k2 _ _ _ _ (by omega) (by omega) (by omega)
end
section
variable {α:Type} {br:Br α} {lt:α→α→Bool} {P:α→Prop} {d:α} (hbr:∀ (β:Type) (x y:α) (k:Bool→Option β),P x→P y→br β x y k=k (lt x y)) (w:Sd lt)
include hbr
theorem OC {i b:Int} {l0:List α} (hi:0≤i) (hib:i+1≤b) (hb:b≤l0.length) (hf0:Ir P d l0):∃ l',aM (jX br b) (i+1,l0)=some l'∧On d i b l0 l':=by
 have hL:=hf0.len
 refine mH (fun s:Int×List α=>(b-s.1).toNat) (fun s:Int×List α=>i+1≤s.1∧On d i b l0 s.2) _ (jX br b) ?_ (i+1,l0) ⟨w8 _,.refl _⟩
 rintro ⟨j,l⟩ ⟨h1,hon⟩
 simp only at h1 hon ⊢
 have hf:=hf0.on hon
 have hl:=hon.len
 unfold jX
 by_cases q:j<b
 ·cases hc:lt (gz d l j) (gz d l (j-1)) with
  | true =>
    left
    refine ⟨(j+1,sw d l j (j-1)), ?_,⟨by simp only;omega,.step hon j (j-1) (by omega) (by omega) (by omega) (by omega) hi (by omega)⟩,by simp only;omega⟩
    simp (disch:=first | omega | (simp only [v8];omega) | (refine hf.all _ ?_ ?_ <;> omega)) only [q,decide_true,if_true,bP,bA,iH d,i9,hbr,hc,u5,j9,if_false]
    rfl
  | false =>
    right
    refine ⟨l, ?_,hon⟩
    simp (disch:=first | omega | (refine hf.all _ ?_ ?_ <;> omega)) only [q,decide_true,if_true,bP,iH d,i9,hbr,hc,E0]
 ·right
  exact ⟨l,by simp only [q,decide_false,j9,if_false],hon⟩
include w
theorem OB {a b i:Int} {l0:List α} (ha:0≤a) (hi:a<i) (hib:i≤b) (hb:b≤l0.length) (hf0:Ir P d l0) (hpre:0<a→∀ k,a≤k→k<b→lt (gz d l0 k) (gz d l0 (a-1))=false) (h0:Asc d lt a (i-1) l0) :
  ∃ l',aM (jY br) (i-1,l0)=some l'∧On d a i l0 l'∧Asc d lt a i l':=by
 have hL:=hf0.len
 refine mH (fun s:Int×List α=>(s.1-a).toNat) (fun s:Int×List α=>a≤s.1∧s.1≤i-1∧On d a i l0 s.2∧∀ p q:Int,a≤p→p<q→q≤i-1→q≠s.1→lt (gz d s.2 q) (gz d s.2 p)=false)
  (fun l'=>On d a i l0 l'∧Asc d lt a i l') (jY br) ?_ (i-1,l0) ⟨by simp only;omega,w8 _,.refl _,fun p q h1 h2 h3 h4=>h0 p q h1 h2 (by simp only at h4;omega)⟩
 rintro ⟨j,l⟩ ⟨h1,h2,hon,hI⟩
 simp only at h1 h2 hon hI ⊢
 have hf:=hf0.on hon
 have hl:=hon.len
 have stop:(j=a∨lt (gz d l j) (gz d l (j-1))=false)→Asc d lt a i l:=fun hs p q p1 p2 p3=>by
  by_cases e1:q=j
  ·subst e1
   rcases hs with hs | hs
   ·omega
   ·by_cases e2:p=q-1
    ·subst e2;exact hs
    ·exact w.le_trans (hI p (q-1) p1 (by omega) (by omega) (by omega)) hs
  ·exact hI p q p1 p2 (by omega) e1
 unfold jY
 by_cases hj:j ≥ 1
 ·cases hc:lt (gz d l j) (gz d l (j-1)) with
  | false =>
    right
    refine ⟨l, ?_,hon,stop (.inr hc)⟩
    simp (disch:=first | omega | (refine hf.all _ ?_ ?_ <;> omega)) only [hj,decide_true,if_true,bP,iH d,i9,hbr,hc,E0]
  | true =>
    have hja:a<j:=by
     rcases F4 a j with q | q
     ·exact q
     ·exfalso
      obtain rfl:j=a:=by omega
      have e:gz d l (j-1)=gz d l0 (j-1):=hon.out d (by omega) (.inl (by omega))
      have:=hon.all d (fun x=>lt x (gz d l0 (j-1))=false) (fun k k1 k2=>hpre (by omega) k k1 (by omega)) j (w8 _) hi
      rw [e,this] at hc;cases hc
    left
    refine ⟨(j-1,sw d l j (j-1)), ?_,⟨by simp only;omega,by simp only;omega,.step hon j (j-1) (by omega) (by omega) (by omega) (by omega) ha (by omega), ?_⟩,by simp only;omega⟩
    ·simp (disch:=first | omega | (simp only [v8];omega) | (refine hf.all _ ?_ ?_ <;> omega)) only [hj,decide_true,if_true,bP,iH d,i9,hbr,hc,u5,j9,if_false]
     rfl
    ·simp only
     intro p q p1 p2 p3 p4
     rw [rM d (by omega) (by omega) (by omega) (by omega) (by omega),rM d (by omega) (by omega) (by omega) (by omega) (by omega)]
     rw [if_neg p4]
     by_cases e1:q=j
     ·rw [if_pos e1]
      by_cases e2:p=j-1
      ·rw [if_pos e2];exact w.asymm _ _ hc
      ·rw [if_neg e2,if_neg (by omega)]
       exact hI p (j-1) (by omega) (by omega) (by omega) (by omega)
     ·rw [if_neg e1]
      by_cases e2:p=j-1
      ·rw [if_pos e2];exact hI j q (by omega) (by omega) p3 e1
      ·rw [if_neg e2]
       by_cases e3:p=j
       ·rw [if_pos e3];exact hI (j-1) q (by omega) (by omega) p3 e1
       ·rw [if_neg e3];exact hI p q p1 p2 p3 e1
 ·right
  refine ⟨l,by simp only [hj,decide_false,j9,if_false],hon,stop (.inl (by omega))⟩
theorem HV {a b:Int} {l0:List α} (ha:0≤a) (hab:a<b) (hb:b≤l0.length) (hf0:Ir P d l0) (hpre:0<a→∀ k,a≤k→k<b→lt (gz d l0 k) (gz d l0 (a-1))=false) :
  ∃ r l',gM br a b l0=some (r,l')∧On d a b l0 l'∧(r=true→Asc d lt a b l'):=by
 have hL:=hf0.len
 have s1:aK b a=b-a:=bP (by omega) (by omega)
 have s2:aQ a 1=a+1:=bA (by omega) (by omega)
 obtain ⟨r,r1,r2⟩:=mH (fun s:Int×Int×List α=>(5-s.2.1).toNat) (fun s:Int×Int×List α=>a+1≤s.1∧s.1≤b∧0≤s.2.1∧On d a b l0 s.2.2∧Asc d lt a s.1 s.2.2)
  (fun r:Bool×List α ⊕ List α=>match r with | .inl x=>On d a b l0 x.2∧(x.1=true→Asc d lt a b x.2) | .inr l=>On d a b l0 l) (pR br a b) (by
  rintro ⟨i,c,l⟩ ⟨i1,i2,i3,hon,hA⟩
  simp only at i1 i2 i3 hon hA ⊢
  have hf:=hf0.on hon
  have hl:=hon.len
  unfold pR
  by_cases hc5:c<5
  case neg =>
   right
   exact ⟨.inr l,by simp only [hc5,decide_false,j9,if_false],hon⟩
  obtain ⟨x,x1,x2,x3,x4,x5⟩:=Vl (body:=jW br b (i,c,l)) (fun k=>!lt (gz d l k) (gz d l (k-1))) (i:=i) (j:=b-1) (by omega) (fun s q1 q2=>by
   unfold jW
   simp (disch:=first | omega | (refine hf.all _ ?_ ?_ <;> omega)) only [show s<b from by omega,decide_true,if_true,iH d,i9,hbr,bA,bP]) (by
   unfold jW
   simp only [show ¬ b-1+1<b from by omega,decide_false,j9,if_false,i9])
  have hAx:Asc d lt a x l:=by
   have:∀ n:Nat,∀ y,y≤x→y≤i+n→Asc d lt a y l:=by
    intro n
    induction n with
    | zero=>intro y _ y2 p q p1 p2 p3;exact hA p q p1 p2 (by omega)
    | succ n ih =>
      intro y y1 y2
      by_cases e:y≤i+n
      ·exact ih y y1 e
      ·have h0:=ih (y-1) (by omega) (by omega)
       have h1:=x4 (y-1) (by omega) (by omega)
       simp only [L9,u5] at h1
       intro p q p1 p2 p3
       by_cases e1:q=y-1
       ·subst e1
        by_cases e2:p=y-1-1
        ·subst e2;exact h1
        ·exact w.le_trans (h0 p (y-1-1) p1 (by omega) (by omega)) h1
       ·exact h0 p q p1 p2 (by omega)
   exact this (x-i).toNat x (w8 _) (by omega)
  simp only [hc5,decide_true,if_true,x1,i9]
  by_cases hxb:x=b
  ·right
   refine ⟨.inl (true,l),by simp only [hxb,beq_self_eq_true,if_true],hon,fun _=>?_⟩
   simp only;rw [← hxb];exact hAx
  have hbx:(x==b)=false:=by simp [hxb]
  simp only [hbx,j9,if_false,s1]
  by_cases h50:b-a<50
  ·right
   exact ⟨.inl (false,l),by simp only [h50,decide_true,if_true],hon,fun q=>by cases q⟩
  left
  have e1:aK x 1=x-1:=bP (by omega) (by omega)
  have e2:aK x a=x-a:=bP (by omega) (by omega)
  have e3:aK b x=b-x:=bP (by omega) (by omega)
  have e4:aQ x 1=x+1:=bA (by omega) (by omega)
  have e5:aQ c 1=c+1:=bA (by omega) (by omega)
  obtain ⟨l1,hl1⟩:∃ l1,sw d l x (x-1)=l1:=⟨_,rfl⟩
  have e6:m7 (m7 l (l4 x) (gz d l (x-1))) (l4 (x-1)) (gz d l x)=l1:=hl1
  have hon1:On d a b l0 l1:=hl1 ▸ .step hon x (x-1) (by omega) (by omega) (by omega) (by omega) ha (by omega)
  have hl1':=hon1.len
  have hf1:=hf0.on hon1
  have hpre1:0<a→∀ k,a≤k→k<b→lt (gz d l1 k) (gz d l1 (a-1))=false:=fun h k k1 k2=>by
   rw [hon1.out d (k:=a-1) (by omega) (.inl (by omega))]
   exact hon1.all d (fun y=>lt y (gz d l0 (a-1))=false) (fun k k1 k2=>hpre h k k1 k2) k k1 k2
  have hA1:Asc d lt a (x-1) l1:=fun p q p1 p2 p3=>by
   rw [← hl1,rM d (by omega) (by omega) (by omega) (by omega) (by omega),rM d (by omega) (by omega) (by omega) (by omega) (by omega),if_neg (by omega),if_neg (by omega),if_neg (by omega),if_neg (by omega)]
   exact hAx p q p1 p2 (by omega)
  -- behind the shift to the left
  have right_:∀ l2,On d a b l0 l2→Asc d lt a x l2→∃ l3,eS br b (i,c,l) x l2=some (.inl (x,c+1,l3))∧On d a b l0 l3∧Asc d lt a x l3:=fun l2 o2 a2=>by
   have hl2:=o2.len
   unfold eS fG
   by_cases q:b-x ≥ 2
   ·obtain ⟨l3,t1,t2⟩:=OC hbr (i:=x) (b:=b) (l0:=l2) (by omega) (by omega) (by omega) (hf0.on o2)
    refine ⟨l3, ?_,o2.trans d (t2.mono d ha (by omega) (w8 _) (by omega)),fun p q p1 p2 p3=>?_⟩
    ·simp only [e3,q,decide_true,if_true,e4,t1,i9,e5]
    ·rw [t2.out d (by omega) (.inl (by omega)),t2.out d (by omega) (.inl (by omega))]
     exact a2 p q p1 p2 p3
   ·exact ⟨l2,by simp only [e3,q,decide_false,j9,if_false,e5],o2,a2⟩
  simp (disch:=first | omega | (simp only [v8];omega)) only [h50,decide_false,j9,if_false,e1,e2,iH d,i9,e6]
  by_cases h2:x-a ≥ 2
  ·obtain ⟨l2,t1,t2,t3⟩:=OB hbr w (a:=a) (b:=b) (i:=x) ha (by omega) (by omega) (by omega) hf1 hpre1 hA1
   obtain ⟨l3,u1,u2,u3⟩:=right_ l2 (hon1.trans d (t2.mono d ha (w8 _) (by omega) (by omega))) t3
   refine ⟨(x,c+1,l3), ?_,⟨by simp only;omega,by simp only;omega,by simp only;omega,u2,u3⟩,by simp only;omega⟩
   simp only [h2,decide_true,if_true,t1,i9,u1]
  ·obtain ⟨l3,u1,u2,u3⟩:=right_ l1 hon1 (fun p q p1 p2 p3=>by omega)
   refine ⟨(x,c+1,l3), ?_,⟨by simp only;omega,by simp only;omega,by simp only;omega,u2,u3⟩,by simp only;omega⟩
   simp only [h2,decide_false,j9,if_false,u1]) (a+1,0,l0) ⟨by simp only;omega,by simp only;omega,by simp only;omega,.refl _,fun p q p1 p2 p3=>by simp only at p3;omega⟩
 unfold gM
 rw [s2,r1,i9]
 cases r with
 | inl x=>exact ⟨x.1,x.2,rfl,r2.1,r2.2⟩
 | inr l=>exact ⟨false,l,rfl,r2,fun q=>by cases q⟩
end
def Out {α:Type} (d:α) (lt:α→α→Bool) (a0 b0 a b:Int) (l:List α):Prop:=∀ p q:Int,a0≤p→p<q→q<b0→(p<a∨b≤q)→lt (gz d l q) (gz d l p)=false
def Pre {α:Type} (d:α) (lt:α→α→Bool) (a b:Int) (l:List α):Prop:=0<a→∀ k,a≤k→k<b→lt (gz d l k) (gz d l (a-1))=false
section
variable {α:Type} {br:Br α} {lt:α→α→Bool} {P:α→Prop} {d:α} (hbr:∀ (β:Type) (x y:α) (k:Bool→Option β),P x→P y→br β x y k=k (lt x y)) (w:Sd lt)
theorem Xr {a0 b0 a b:Int} {l l':List α} (h:Out d lt a0 b0 a b l) (ho:On d a b l l') (h0:0≤a0) (h1:a0≤a) (h2:b≤b0):Out d lt a0 b0 a b l':=by
 intro p q p1 p2 p3 p4
 by_cases hp:a≤p∧p<b
 ·rw [ho.out d (k:=q) (by omega) (.inr (by omega))]
  exact ho.all d (fun x=>lt (gz d l q) x=false) (fun k k1 k2=>h k q (by omega) (by omega) p3 (.inr (by omega))) p hp.1 hp.2
 ·rw [ho.out d (k:=p) (by omega) (by omega)]
  by_cases hq:a≤q∧q<b
  ·exact ho.all d (fun x=>lt x (gz d l p)=false) (fun k k1 k2=>h p k p1 (by omega) (by omega) (.inl (by omega))) q hq.1 hq.2
  ·rw [ho.out d (k:=q) (by omega) (by omega)]
   exact h p q p1 p2 p3 p4
theorem UJ {a0 b0 a b:Int} {l:List α} (h:Out d lt a0 b0 a b l) (ha:Asc d lt a b l):Asc d lt a0 b0 l:=by
 intro p q p1 p2 p3
 by_cases e:p<a∨b≤q
 ·exact h p q p1 p2 p3 e
 ·exact ha p q (by omega) p2 (by omega)
theorem HY {a0 b0 a b:Int} {l0 l:List α} (hp:Pre d lt a0 b0 l0) (h0:0≤a0) (h1:a0≤a) (h2:b≤b0) (ho:On d a0 b0 l0 l) (h:Out d lt a0 b0 a b l):Pre d lt a b l:=by
 intro hpos k k1 k2
 by_cases e:a=a0
 ·subst e
  rw [ho.out d (k:=a-1) (by omega) (.inl (by omega))]
  exact ho.all d (fun x=>lt x (gz d l0 (a-1))=false) (fun k k1 k2=>hp hpos k k1 k2) k k1 (by omega)
 ·exact h (a-1) k (by omega) (by omega) (by omega) (.inl (by omega))
theorem pre_on {a b:Int} {l l':List α} (hp:Pre d lt a b l) (h0:0≤a) (ho:On d a b l l'):Pre d lt a b l':=HY (a0:=a) (b0:=b) hp h0 (w8 _) (w8 _) ho fun p q p1 p2 p3 p4=>absurd p4 (by omega)
include hbr w
theorem FF {self:Int→Int→Int→List α→Option (List α)} {N:Int}
  (hself:∀ (a b limit:Int) (l:List α),0≤a→a≤b→b≤l.length→Ir P d l→Pre d lt a b l→b-a<N→∃ l',self a b limit l=some l'∧On d a b l l'∧Asc d lt a b l')
  {a0 b0 limit:Int} {l0:List α} (h0:0≤a0) (hab:a0≤b0) (hb:b0≤l0.length) (hf0:Ir P d l0) (hpre:Pre d lt a0 b0 l0) (hN:b0-a0≤12∨b0-a0<2*N) :
  ∃ l',aM (Di br self) (a0,b0,limit,true,true,l0)=some l'∧On d a0 b0 l0 l'∧Asc d lt a0 b0 l':=by
 have hL:=hf0.len
 refine mH (fun s:Int×Int×Int×Bool×Bool×List α=>(s.2.1-s.1).toNat) (fun s:Int×Int×Int×Bool×Bool×List α=>a0≤s.1∧s.1≤s.2.1∧s.2.1≤b0∧On d a0 b0 l0 s.2.2.2.2.2∧Out d lt a0 b0 s.1 s.2.1 s.2.2.2.2.2)
  (fun l'=>On d a0 b0 l0 l'∧Asc d lt a0 b0 l') (Di br self) ?_ (a0,b0,limit,true,true,l0) ⟨w8 _,hab,w8 _,.refl _,fun p q p1 p2 p3 p4=>absurd p4 (by simp only;omega)⟩
 rintro ⟨a,b,lim,wb,wp,l⟩ ⟨i1,i2,i3,hon,hout⟩
 simp only at i1 i2 i3 hon hout ⊢
 have hf:=hf0.on hon
 have hl:=hon.len
 have s1:aK b a=b-a:=bP (by omega) (by omega)
 -- what ends it
 have fin:∀ l',On d a b l l'→Asc d lt a b l'→On d a0 b0 l0 l'∧Asc d lt a0 b0 l':=fun l' o as =>
  ⟨hon.trans d (o.mono d h0 i1 i3 (by omega)),UJ (Xr hout o h0 i1 i3) as⟩
 unfold Di
 simp only [s1]
 by_cases h12:b-a≤12
 ·right
  obtain ⟨l',t1,t2,t3⟩:=Sr hbr w (a:=a) (b:=b) (l0:=l) (by omega) i2 (by omega) hf
  exact ⟨l',by simp only [h12,decide_true,if_true,t1,i9],fin l' t2 t3⟩
 simp only [h12,decide_false,j9,if_false]
 by_cases hz:lim=0
 ·right
  obtain ⟨l',t1,t2,t3⟩:=EN hbr w (a:=a) (b:=b) (l0:=l) (by omega) i2 (by omega) hf
  exact ⟨l',by simp only [hz,beq_self_eq_true,if_true,t1,i9],fin l' t2 t3⟩
 have hz':(lim==0)=false:=by simp [hz]
 simp only [hz',j9,if_false]
 have hN':b-a<2*N:=by omega
 -- the partition
 have k1 : ∀ (j127:Int×List α) (pivot hint:Int) (lx:List α) (wb' wp':Bool) (l1:List α),On d a b l l1→a≤pivot→pivot<b →
   (∃ s',oO br self (a,b,lim,wb,wp,l) j127 (pivot,hint,lx) (wb',wp',l1)=some (.inl s')∧(a0≤s'.1∧s'.1≤s'.2.1∧s'.2.1≤b0∧On d a0 b0 l0 s'.2.2.2.2.2∧Out d lt a0 b0 s'.1 s'.2.1 s'.2.2.2.2.2)∧(s'.2.1-s'.1).toNat<(b-a).toNat) ∨
   (∃ r,oO br self (a,b,lim,wb,wp,l) j127 (pivot,hint,lx) (wb',wp',l1)=some (.inr r)∧On d a0 b0 l0 r∧Asc d lt a0 b0 r):=by
  intro j127 pivot hint lx wb' wp' l1 o1 v1 v2
  left
  have hl1:=o1.len
  have hf1:=hf.on o1
  have hon1:On d a0 b0 l0 l1:=hon.trans d (o1.mono d h0 i1 i3 (by omega))
  have hout1:=Xr hout o1 h0 i1 i3
  have hpre1:Pre d lt a b l1:=HY hpre h0 i1 i3 hon1 hout1
  have part:∃ s',((uH br a b pivot l1).bind fun r162=>if (decide ((aK r162.1 a)<(aK b r162.1))) then ((self a r162.1 j127.1 r162.2.2).bind fun r164=>some (.inl ((aQ r162.1 1),b,j127.1,(decide ((aK r162.1 a) ≥ (uI (aK b a) 8))),r162.2.1,r164))) else ((self (aQ r162.1 1) b j127.1 r162.2.2).bind fun r166=>some (Sum.inl (β:=List α) (a,r162.1,j127.1,(decide ((aK b r162.1) ≥ (uI (aK b a) 8))),r162.2.1,r166))))=some (.inl s') ∧
    (a0≤s'.1∧s'.1≤s'.2.1∧s'.2.1≤b0∧On d a0 b0 l0 s'.2.2.2.2.2∧Out d lt a0 b0 s'.1 s'.2.1 s'.2.2.2.2.2)∧(s'.2.1-s'.1).toNat<(b-a).toNat:=by
   obtain ⟨mid,al,l2,t1,t2,t3,t4,t5,t6⟩:=CR hbr (a:=a) (b:=b) (pivot:=pivot) (l0:=l1) (by omega) (by omega) (by omega) hf1 v1 v2
   have hl2:=t2.len
   have hf2:=hf1.on t2
   have hon2:On d a0 b0 l0 l2:=hon1.trans d (t2.mono d h0 i1 i3 (by omega))
   have hout2:=Xr hout1 t2 h0 i1 i3
   have hpre2:Pre d lt a b l2:=pre_on hpre1 (by omega) t2
   -- all pairs that are not both on one side
   have ord:∀ p q:Int,a0≤p→p<q→q<b0→(p<a∨b≤q∨(p≤mid∧mid≤q))→lt (gz d l2 q) (gz d l2 p)=false:=fun p q p1 p2 p3 p4=>by
    by_cases e:p<a∨b≤q
    ·exact hout2 p q p1 p2 p3 e
    ·by_cases ep:p=mid
     ·subst ep;exact t6 q (by omega) (by omega)
     ·have hp:=w.asymm _ _ (t5 p (by omega) (by omega))
      by_cases eq:q=mid
      ·subst eq;exact hp
      ·exact w.le_trans hp (t6 q (by omega) (by omega))
   have e1:aK mid a=mid-a:=bP (by omega) (by omega)
   have e2:aK b mid=b-mid:=bP (by omega) (by omega)
   have e3:aQ mid 1=mid+1:=bA (by omega) (by omega)
   simp only [t1,i9,e1,e2,e3]
   by_cases hlr:mid-a<b-mid
   ·obtain ⟨l3,u1,u2,u3⟩:=hself a mid j127.1 l2 (by omega) t3 (by omega) hf2 (fun hpos k k1 k2=>hpre2 hpos k k1 (by omega)) (by omega)
    simp only [hlr,decide_true,if_true,u1,i9]
    refine ⟨_,rfl,⟨by simp only;omega,by simp only;omega,i3,hon2.trans d (u2.mono d h0 i1 (by omega) (by omega)), ?_⟩,by simp only;omega⟩
    intro p q p1 p2 p3 p4
    simp only at p4 ⊢
    by_cases hp:a≤p∧p<mid
    ·by_cases hq:q<mid
     ·exact u3 p q hp.1 p2 hq
     ·rw [u2.out d (k:=q) (by omega) (.inr (by omega))]
      exact u2.all d (fun x=>lt (gz d l2 q) x=false) (fun k k1 k2=>ord k q (by omega) (by omega) p3 (by omega)) p hp.1 hp.2
    ·rw [u2.out d (k:=p) (by omega) (by omega)]
     by_cases hq:a≤q∧q<mid
     ·exact u2.all d (fun x=>lt x (gz d l2 p)=false) (fun k k1 k2=>ord p k p1 (by omega) (by omega) (by omega)) q hq.1 hq.2
     ·rw [u2.out d (k:=q) (by omega) (by omega)]
      exact ord p q p1 p2 p3 (by omega)
   ·obtain ⟨l3,u1,u2,u3⟩:=hself (mid+1) b j127.1 l2 (by omega) (by omega) (by omega) hf2 (fun hpos k k1 k2=>by
     rw [show mid+1-1=mid from by omega]
     exact t6 k (by omega) k2) (by omega)
    simp only [hlr,decide_false,j9,if_false,u1,i9]
    refine ⟨_,rfl,⟨i1,t3,by simp only;omega,hon2.trans d (u2.mono d h0 (by omega) i3 (by omega)), ?_⟩,by simp only;omega⟩
    intro p q p1 p2 p3 p4
    simp only at p4 ⊢
    by_cases hp:mid+1≤p∧p<b
    ·by_cases hq:q<b
     ·exact u3 p q hp.1 p2 hq
     ·rw [u2.out d (k:=q) (by omega) (.inr (by omega))]
      exact u2.all d (fun x=>lt (gz d l2 q) x=false) (fun k k1 k2=>ord k q (by omega) (by omega) p3 (by omega)) p hp.1 hp.2
    ·rw [u2.out d (k:=p) (by omega) (by omega)]
     by_cases hq:mid+1≤q∧q<b
     ·exact u2.all d (fun x=>lt x (gz d l2 p)=false) (fun k k1 k2=>ord p k p1 (by omega) (by omega) (by omega)) q hq.1 hq.2
     ·rw [u2.out d (k:=q) (by omega) (by omega)]
      exact ord p q p1 p2 p3 (by omega)
  unfold oO
  by_cases hpos:a>0
  ·cases hc:lt (gz d l1 (a-1)) (gz d l1 pivot) with
   | true =>
     simp (disch:=first | omega | (refine hf1.all _ ?_ ?_ <;> omega)) only [hpos,decide_true,if_true,bP,iH d,i9,hbr,hc,u5,j9,if_false]
     simpa only [s1] using part
   | false =>
     obtain ⟨mid,l2,t1,t2,t3,t4,t5⟩:=Ro hbr (a:=a) (b:=b) (pivot:=pivot) (l0:=l1) (by omega) (by omega) (by omega) hf1 v1 v2 w.irrefl
     refine ⟨(mid,b,j127.1,wb',wp',l2), ?_,⟨by simp only;omega,t4,i3,hon1.trans d (t2.mono d h0 i1 i3 (by omega)), ?_⟩,by simp only;omega⟩
     ·simp (disch:=first | omega | (refine hf1.all _ ?_ ?_ <;> omega)) only [hpos,decide_true,if_true,bP,iH d,i9,hbr,hc,E0,t1]
     ·have hout2:=Xr hout1 t2 h0 i1 i3
      have hpre2:Pre d lt a b l2:=pre_on hpre1 (by omega) t2
      have hl2:=t2.len
      intro p q p1 p2 p3 p4
      simp only at p4 ⊢
      by_cases e:p<a∨b≤q
      ·exact hout2 p q p1 p2 p3 e
      ·have hp:=t5 p (by omega) (by omega)
       have hq:=hpre2 hpos q (by omega) (by omega)
       rw [t2.out d (k:=a-1) (by omega) (.inl (by omega))] at hq
       cases hlt:lt (gz d l2 q) (gz d l2 p) with
       | false=>rfl
       | true =>
         rcases w.neg _ (gz d l1 pivot) _ hlt with r | r
         ·rcases w.neg _ (gz d l1 (a-1)) _ r with r | r
          ·rw [hq] at r;cases r
          ·rw [hc] at r;cases r
         ·rw [hp] at r;cases r
  ·simp only [hpos,decide_false,j9,if_false,i9]
   simpa only [s1] using part
 have k2:∀ (j127:Int×List α) (pivot hint:Int) (l1:List α),On d a b l l1→a≤pivot→pivot<b →
   (∃ s',oQ br self (a,b,lim,wb,wp,l) j127 (pivot,hint,l1)=some (.inl s')∧(a0≤s'.1∧s'.1≤s'.2.1∧s'.2.1≤b0∧On d a0 b0 l0 s'.2.2.2.2.2∧Out d lt a0 b0 s'.1 s'.2.1 s'.2.2.2.2.2)∧(s'.2.1-s'.1).toNat<(b-a).toNat) ∨
   (∃ r,oQ br self (a,b,lim,wb,wp,l) j127 (pivot,hint,l1)=some (.inr r)∧On d a0 b0 l0 r∧Asc d lt a0 b0 r):=by
  intro j127 pivot hint l1 o1 v1 v2
  unfold oQ
  obtain ⟨c,hc⟩:∃ c:Bool×Bool×Bool,(if wb then (if wp then (some (true,true,(hint==1))) else (some (true,false,false))) else (some (false,wp,false)))=some c:=by
   cases wb <;> cases wp <;> exact ⟨_,rfl⟩
  simp only [hc,i9]
  cases hc2:c.2.2 with
  | false =>
    simp only [j9,if_false]
    exact k1 _ _ _ _ _ _ _ o1 v1 v2
  | true =>
    have hl1:=o1.len
    have hon1:On d a0 b0 l0 l1:=hon.trans d (o1.mono d h0 i1 i3 (by omega))
    have hpre1:Pre d lt a b l1:=HY hpre h0 i1 i3 hon1 (Xr hout o1 h0 i1 i3)
    obtain ⟨r,l2,t1,t2,t3⟩:=HV hbr w (a:=a) (b:=b) (l0:=l1) (by omega) (by omega) (by omega) (hf.on o1) hpre1
    simp only [if_true,t1,i9]
    cases hr:r with
    | true =>
      right
      simp only [if_true]
      exact ⟨l2,rfl,fin l2 (o1.trans d t2) (t3 hr)⟩
    | false =>
      simp only [j9,if_false]
      exact k1 _ _ _ _ _ _ _ (o1.trans d t2) v1 v2
 have k3:∀ (lim':Int) (l1:List α),On d a b l l1 →
   (∃ s',oR br self (a,b,lim,wb,wp,l) (lim',l1)=some (.inl s')∧(a0≤s'.1∧s'.1≤s'.2.1∧s'.2.1≤b0∧On d a0 b0 l0 s'.2.2.2.2.2∧Out d lt a0 b0 s'.1 s'.2.1 s'.2.2.2.2.2)∧(s'.2.1-s'.1).toNat<(b-a).toNat) ∨
   (∃ r,oR br self (a,b,lim,wb,wp,l) (lim',l1)=some (.inr r)∧On d a0 b0 l0 r∧Asc d lt a0 b0 r):=by
  intro lim' l1 o1
  have hl1:=o1.len
  unfold oR
  obtain ⟨pv,h,t1,t2,t3⟩:=MA hbr (l:=l1) (hf.on o1) (a:=a) (b:=b) (by omega) (by omega) (by omega)
  simp only [t1,i9]
  by_cases h2:h=2
  ·obtain ⟨l2,u1,u2⟩:=IE (br:=br) (d:=d) (a:=a) (b:=b) (l0:=l1) (by omega) (by omega) (by omega) i2
   have e1:aK b 1=b-1:=bP (by omega) (by omega)
   have e2:aK pv a=pv-a:=bP (by omega) (by omega)
   have e3:aK (b-1) (pv-a)=b-1-(pv-a):=bP (by omega) (by omega)
   simp only [h2,beq_self_eq_true,if_true,u1,i9,e1,e2,e3]
   exact k2 _ _ _ _ (o1.trans d u2) (by omega) (by omega)
  ·have:(h==2)=false:=by simp [h2]
   simp only [this,j9,if_false]
   exact k2 _ _ _ _ o1 t2 t3
 cases hwb:wb with
 | false =>
   obtain ⟨l1,t1,t2⟩:=PD (br:=br) (d:=d) (a:=a) (b:=b) (l0:=l) (by omega) (by omega) (by omega) i2
   simp only [E0,if_true,t1,i9]
   have:=k3 (aK lim 1) l1 t2
   rw [hwb] at this
   exact this
 | true =>
   simp only [u5,j9,if_false]
   have:=k3 lim l (.refl _)
   rw [hwb] at this
   exact this
theorem SF:∀ (n:Nat) (a b limit:Int) (l:List α),0≤a→a≤b→b≤l.length→Ir P d l→Pre d lt a b l→b-a<2^n→∃ l',jZ br (n+1) a b limit l=some l'∧On d a b l l'∧Asc d lt a b l'
 | 0,a,b,limit,l,h0,hab,hb,hf,hp,hn=>by
   obtain ⟨l',t1,t2,t3⟩:=FF hbr w (self:=jZ br 0) (N:=0) (fun a b limit l h1 h2 _ _ _ h3=>by omega) (limit:=limit) h0 hab hb hf hp (.inl (by omega))
   refine ⟨l', ?_,t2,t3⟩
   show kW br (jZ br 0) a b limit l=some l'
   unfold kW
   rw [t1];rfl
 | n+1,a,b,limit,l,h0,hab,hb,hf,hp,hn=>by
   obtain ⟨l',t1,t2,t3⟩:=FF hbr w (self:=jZ br (n+1)) (N:=2^n) (fun a b limit l h1 h2 h3 h4 h5 h6=>SF n a b limit l h1 h2 h3 h4 h5 h6) (limit:=limit) h0 hab hb hf hp (.inr (by rw [Int.pow_succ] at hn;omega))
   refine ⟨l', ?_,t2,t3⟩
   show kW br (jZ br (n+1)) a b limit l=some l'
   unfold kW
   rw [t1];rfl
theorem WE (m:Nat) (hm:31≤m) {l:List α} (hf:Ir P d l) (v:Int):∃ l',jZ br (m+1) 0 (l.length:Int) v l=some l'∧On d 0 (l.length:Int) l l'∧Asc d lt 0 (l.length:Int) l':=by
 have hL:=hf.len
 refine SF hbr w m 0 (l.length:Int) v l (w8 _) (by omega) (w8 _) hf (fun h=>absurd h (by omega)) ?_
 have h1:(2147483648:Nat)≤2^m:=Nat.le_trans (by decide:2147483648≤2^31) (Nat.pow_le_pow_right (by omega) hm)
 have h3:((2:Int)^m)=((2^m:Nat):Int):=by simp
 rw [h3]
 omega
theorem Nc {l:List α} (hf:Ir P d l):∃ l',uA br l=some l'∧l'.Perm l∧l'.Pairwise fun x y=>lt y x=false:=by
 have hL:=hf.len
 obtain ⟨v,v1,_⟩:=RG (x:=(l.length:Int)) (by omega) hL
 obtain ⟨l',t1,t2,t3⟩:=WE hbr w 999 (by omega) hf v
 refine ⟨l', ?_,t2.perm, ?_⟩
 ·unfold uA Gk
  rw [v1,i9,t1];rfl
 ·have hl:=t2.len
  rw [N3]
  intro i j hi hj hij
  have:=t3 (i:Int) (j:Int) (by omega) (by omega) (by omega)
  unfold gz at this
  rw [m8,m8,y9,y9,l8 hi,l8 hj] at this
  exact this
end
def Dg {α:Type} (a1:Int×Int×(List α)):Int×(List α)→Option (Int×Int×(List α) ⊕ Int×(List α)):=fun a0 =>
 some (.inl (a0.1,(aQ a1.2.1 1),a0.2))
def Dh {α:Type} (eqb:α→α→Bool) (h0:(List α)) (a1:Int):Int×Int×(List α)→Option (Int×Int×(List α) ⊕ Int×(List α)):=fun a0 =>
 if (decide (a0.2.1<((l4 (h0.length:Int)-l4 a1:Nat):Int))) then ((idx (L6 (l4 (h0.length:Int)-l4 a1) (N0 (l4 a1) a0.2.2)) a0.2.1).bind fun a2=>(idx (L6 (l4 (h0.length:Int)-l4 a1) (N0 (l4 a1) a0.2.2)) (aK a0.2.1 1)).bind fun a3=>if (!(eqb a2 a3)) then ((idx (L6 (l4 (h0.length:Int)-l4 a1) (N0 (l4 a1) a0.2.2)) a0.2.1).bind fun a4=>(idx a0.2.2 a0.1).bind fun a5=>Dg a0 ((aQ a0.1 1),(m7 a0.2.2 (l4 a0.1) a4))) else (Dg a0 (a0.1,a0.2.2))) else (some (.inr (a0.1,a0.2.2)))
def Iv {α:Type} (eqb:α→α→Bool) (z:α) (h0:(List α)):Int→Option (Int ⊕ ((List α) ⊕ Unit)):=fun a1 =>
 if (decide (a1<(h0.length:Int))) then ((idx h0 a1).bind fun a3=>(idx h0 (aK a1 1)).bind fun a4=>if (eqb a3 a4) then (if (decide ((0:Int)≤a1)&&(decide (a1≤(h0.length:Int))&&decide ((h0.length:Int)≤(h0.length:Int)))) then ((aM (Dh eqb h0 a1) (a1,1,h0)).bind fun a0=>if (decide ((0:Int)≤a0.1)&&(decide (a0.1≤(a0.2.length:Int))&&decide ((a0.2.length:Int)≤(a0.2.length:Int)))) then ((slc (cpy a0.2 (l4 a0.1) (q8 (l4 (a0.2.length:Int)-l4 a0.1) z)) 0 a0.1).bind fun a2=>some (.inr (.inl a2))) else none) else none) else (some (.inl (aQ a1 1)))) else (some (.inr (.inr (()))))
def Pq {α:Type} (eqb:α→α→Bool) (z:α) (h0:(List α)):Option ((List α)):=
 if (decide ((h0.length:Int)<2)) then (some h0) else ((aM (Iv eqb z h0) 1).bind fun a1=>match a1 with | .inl a0=>some a0 | .inr a2=>some h0)
section
variable {α:Type} {lt:α→α→Bool} (w:Sd lt) (tri:∀ x y,lt x y=false→lt y x=false→x=y) {eqb:α→α→Bool} (heq:∀ x y,eqb x y=true↔x=y) (z:α)
include w tri
theorem Ug {r:List α} {y x:α} (hr:(r++[y]).Pairwise fun a b=>lt a b=true) (hy:lt x y=false) (hne:x≠y):(r++[y]++[x]).Pairwise fun a b=>lt a b=true:=by
 have hyx:lt y x=true:=by
  cases h:lt y x with
  | true=>rfl
  | false=>exact absurd (tri x y hy h) hne
 rw [J5]
 refine ⟨hr,by simp,fun a ha b hb=>?_⟩
 simp at hb
 subst hb
 rw [J5] at hr
 rcases q9.1 ha with m | m
 ·have h1:=hr.2.2 a m y (by simp)
  rcases w.neg y a b hyx with q | q
  ·rw [w.asymm _ _ h1] at q;cases q
  ·exact q
 ·simp at m;subst m;exact hyx
include heq
theorem Wf {l:List α} (hl:(l.length:Int)≤1073741824) (hs:l.Pairwise fun x y=>lt y x=false) :
  ∃ r,Pq eqb z l=some r∧(r.Pairwise fun x y=>lt x y=true)∧∀ x,x ∈ r↔x ∈ l:=by
 unfold Pq
 by_cases h2:(l.length:Int)<2
 ·refine ⟨l,by simp only [h2,decide_true,if_true], ?_,fun x=>Iff.rfl⟩
  have hlen:l.length<2:=by omega
  clear hl hs h2
  rcases l with _ | ⟨x,_ | ⟨y,t⟩⟩
  ·exact .nil
  ·simp
  ·simp at hlen;omega
 simp only [h2,decide_false,j9,if_false]
 have adj:∀ (i j:Nat) (x y:α),i<j→l[i]?=some x→l[j]?=some y→lt y x=false:=fun i j x y hij hx hy=>by
  have h1:=(m9.1 hx)
  have h3:=(m9.1 hy)
  obtain ⟨a1,rfl⟩:=h1
  obtain ⟨b1,rfl⟩:=h3
  exact N3.1 hs i j a1 b1 hij
 have get:∀ i:Nat,i<l.length→∃ x,l[i]?=some x:=fun i hi=>⟨l[i],l8 hi⟩
 have takes:∀ (i:Nat) (x:α),l[i]?=some x→l.take (i+1)=l.take i++[x]:=fun i x hx=>by rw [G5,hx];rfl
 -- the second walk
 have inner:∀ (k:Nat) (y:α),1≤k→k<l.length→l[k]?=some y→l[k-1]?=some y→((l.take k).Pairwise fun x y=>lt x y=true) →
   ∃ (i:Nat) (l':List α),aM (Dh eqb l (k:Int)) ((k:Int),1,l)=some ((i:Int),l')∧i≤l'.length∧l'.length=l.length∧((l'.take i).Pairwise fun x y=>lt x y=true)∧∀ x,x ∈ l'.take i↔x ∈ l:=by
  intro k y k1 kl hy hy1 hp
  obtain ⟨r,r1,i,r2,r3,r4,r5,r6⟩:=mH (fun s:Int×Int×List α=>((l.length:Int)-k-s.2.1).toNat)
   (fun s:Int×Int×List α=>∃ (i p:Nat) (y:α),s.1=i∧s.2.1=((p-k:Nat):Int)∧k+1≤p∧p≤l.length∧1≤i∧i≤p-1∧s.2.2.length=l.length∧s.2.2.drop i=l.drop i∧l[p-1]?=some y∧(∃ t,s.2.2.take i=t++[y])∧((s.2.2.take i).Pairwise fun x y=>lt x y=true)∧∀ x,x ∈ s.2.2.take i↔x ∈ l.take p)
   (fun r:Int×List α=>∃ i:Nat,r.1=i∧i≤r.2.length∧r.2.length=l.length∧((r.2.take i).Pairwise fun x y=>lt x y=true)∧∀ x,x ∈ r.2.take i↔x ∈ l) (Dh eqb l (k:Int)) (by
    rintro ⟨i',k2,m⟩ ⟨i,p,y,hi',hk2,p1,p2,i0,i1,hml,hdrop,hy,⟨t,ht⟩,hpw,hmem⟩
    simp only at hi' hk2 hml hdrop ht hpw hmem ⊢
    subst hi' hk2
    unfold Dh
    simp only [y9]
    by_cases hp:p<l.length
    ·left
     obtain ⟨x,hx⟩:=get p hp
     have mg:∀ j,i≤j→m[j]?=l[j]?:=fun j hj=>by
      have:=congrArg (fun q=>q[j-i]?) hdrop
      simp only [E8] at this
      rwa [show i+(j-i)=j from by omega] at this
     have hc:((p-k:Nat):Int)<((l.length-k:Nat):Int):=by omega
     have g1:idx (L6 (l.length-k) (N0 k m)) ((p-k:Nat):Int)=some x:=by
      rw [CD,D9,if_pos (by omega),E8,show k+(p-k)=p from by omega,mg p (by omega),hx]
     have e1:aK ((p-k:Nat):Int) 1=((p-1-k:Nat):Int):=by rw [bP (by omega) (by omega)];omega
     have g2:idx (L6 (l.length-k) (N0 k m)) ((p-1-k:Nat):Int)=some y:=by
      rw [CD,D9,if_pos (by omega),E8,show k+(p-1-k)=p-1 from by omega,mg (p-1) (by omega),hy]
     have e2:aQ ((p-k:Nat):Int) 1=((p+1-k:Nat):Int):=by rw [bA (by omega) (by omega)];omega
     have e3:aQ (i:Int) 1=((i+1:Nat):Int):=by rw [bA (by omega) (by omega)];omega
     have tk:=takes p x hx
     simp only [hc,decide_true,if_true,g1,i9,e1,g2]
     cases hb:eqb x y with
     | true =>
       obtain rfl:=(heq x y).1 hb
       simp only [u5,j9,if_false,Dg,e2]
       refine ⟨_,rfl,⟨i,p+1,x,rfl,rfl,by omega,by omega,i0,by omega,hml,hdrop,by rw [show p+1-1=p from by omega];exact hx,⟨t,ht⟩,hpw,fun v=>?_⟩,by simp only;omega⟩
       rw [hmem v,tk,q9,J4]
       constructor
       ·exact .inl
       ·rintro (q | rfl)
        ·exact q
        ·rw [← hmem v,ht];simp
     | false =>
       have hne:x≠y:=fun e=>by rw [(heq x y).2 e] at hb;cases hb
       have gi:idx m (i:Int)=some (m[i]'(by omega)):=by rw [CD];exact l8 _
       simp only [E0,if_true,gi,i9,Dg,e2,e3]
       have tset:(m.set i x).take (i+1)=m.take i++[x]:=by
        rw [G5,List.take_set_of_le (Nat.le_refl i),G6,if_pos rfl,if_pos (by omega)];rfl
       refine ⟨_,rfl,⟨i+1,p+1,x,rfl,rfl,by omega,by omega,by omega,by omega,by simp only [v8];exact hml, ?_,by rw [show p+1-1=p from by omega];exact hx,⟨m.take i,tset⟩, ?_,fun v=>?_⟩,by simp only;omega⟩
       ·simp only
        rw [List.drop_set_of_lt (by omega),← O5,hdrop,O5]
       ·simp only
        rw [tset,ht]
        rw [ht] at hpw
        exact Ug w tri hpw (adj (p-1) p y x (by omega) hy hx) hne
       ·simp only
        rw [tset,tk,q9,q9,hmem v]
    ·right
     have hc:¬ ((p-k:Nat):Int)<((l.length-k:Nat):Int):=by omega
     refine ⟨((i:Int),m),by simp only [hc,decide_false,j9,if_false],i,rfl,by simp only;omega,hml,hpw,fun v=>?_⟩
     rw [hmem v,N9 (by omega)]) ((k:Int),1,l) ⟨k,k+1,y,rfl,by simp only;omega,by omega,by omega,k1,by omega,rfl,rfl,by rw [show k+1-1=k from by omega];exact hy,⟨l.take (k-1),by
      have:=takes (k-1) y hy1
      rwa [show k-1+1=k from by omega] at this⟩,hp,fun v=>by
      rw [takes k y hy,q9,J4]
      constructor
      ·exact .inl
      ·rintro (q | rfl)
       ·exact q
       ·have:=takes (k-1) v hy1
        rw [show k-1+1=k from by omega] at this
        rw [this];simp⟩
  exact ⟨i,r.2,by rw [r1];congr 1;exact Prod.ext r2 rfl,r3,r4,r5,r6⟩
 obtain ⟨r,r1,r2⟩:=mH (fun s:Int=>((l.length:Int)-s).toNat) (fun s:Int=>∃ k:Nat,s=k∧1≤k∧k≤l.length∧((l.take k).Pairwise fun x y=>lt x y=true))
  (fun r:List α ⊕ Unit=>match r with | .inl r=>(r.Pairwise fun x y=>lt x y=true)∧∀ x,x ∈ r↔x ∈ l | .inr _=>l.Pairwise fun x y=>lt x y=true) (Iv eqb z l) (by
   rintro s ⟨k,rfl,k1,k2,hp⟩
   unfold Iv
   by_cases hk:k<l.length
   ·have hc:(k:Int)<(l.length:Int):=by omega
    obtain ⟨x,hx⟩:=get k hk
    obtain ⟨y,hy⟩:=get (k-1) (by omega)
    have e1:aK (k:Int) 1=((k-1:Nat):Int):=by rw [bP (by omega) (by omega)];omega
    simp only [hc,decide_true,if_true,aW hx,i9,e1,aW hy]
    cases hb:eqb x y with
    | false =>
      left
      have hne:x≠y:=fun e=>by rw [(heq x y).2 e] at hb;cases hb
      simp only [j9,if_false]
      refine ⟨((k+1:Nat):Int),by rw [bG k (by omega)],⟨k+1,rfl,by omega,by omega, ?_⟩,by omega⟩
      rw [takes k x hx]
      have:=takes (k-1) y hy
      rw [show k-1+1=k from by omega] at this
      rw [this] at hp ⊢
      exact Ug w tri hp (adj (k-1) k y x (by omega) hy hx) hne
    | true =>
      right
      obtain rfl:=(heq x y).1 hb
      obtain ⟨i,l',t1,t2,t3,t4,t5⟩:=inner k x k1 hk hx hy hp
      have c0:decide ((0:Int)≤(k:Int))=true:=by simp
      have c1:decide ((k:Int)≤(l.length:Int))=true:=by simp;omega
      have c2:decide ((l.length:Int)≤(l.length:Int))=true:=by simp
      have c3:decide ((0:Int)≤(i:Int))=true:=by simp
      have c4:decide ((i:Int)≤(l'.length:Int))=true:=by simp;omega
      have c5:decide ((l'.length:Int)≤(l'.length:Int))=true:=by simp
      have hsl:slc (cpy l' i (q8 (l'.length-i) z)) 0 (i:Int)=some (l'.take i):=by
       unfold slc cpy
       rw [if_pos ⟨w8 _,by omega,by simp;omega⟩]
       simp only [y9,Int.toNat_zero,List.drop_zero]
       rw [List.append_assoc,List.take_append_of_le_length (by rw [List.length_take];omega),List.take_take,Nat.min_self]
      simp only [if_true,c0,c1,c2,Bool.and_self,t1,i9,c3,c4,c5,y9,hsl]
      exact ⟨_,rfl,t4,t5⟩
   ·right
    have hc:¬ (k:Int)<(l.length:Int):=by omega
    refine ⟨.inr (),by simp only [hc,decide_false,j9,if_false], ?_⟩
    simp only
    rwa [N9 (by omega)] at hp) 1 ⟨1,rfl,by omega,by omega,by
     have hlen:2≤l.length:=by omega
     clear inner takes get adj h2 hs hl
     rcases l with _ | ⟨x,t⟩
     ·simp at hlen
     ·simp⟩
 rw [r1,i9]
 cases r with
 | inl r=>exact ⟨r,rfl,r2.1,r2.2⟩
 | inr _=>exact ⟨l,rfl,r2,fun x=>Iff.rfl⟩
end
end Go.SM
namespace Go.Cells
def Pz (s:Int→Int) (a b:Int):Prop:=a<b∧s a≠0∧(∀ z,a≤z→z<b→s z=s a)∧s (a-1)≠s a∧s b≠s a
def uF (s:Int→Int) (l:List (Int×Int)):Prop:=l.Pairwise (fun p q=>p.1<q.1)∧∀ a b,(a,b) ∈ l↔Pz s a b
theorem Pd {α:Type} {lt:α→α→Prop} (irr:∀ x,¬ lt x x) (tr:∀ x y z,lt x y→lt y z→lt x z):∀ {l l':List α},l.Pairwise lt→l'.Pairwise lt→(∀ x,x ∈ l↔x ∈ l')→l=l'
 | [],[],_,_,_=>rfl
 | [],y::t,_,_,h=>absurd ((h y).2 F8) (by simp)
 | x::t,[],_,_,h=>absurd ((h x).1 F8) (by simp)
 | x::t,y::t',h1,h2,h=>by
   rw [J2] at h1 h2
   have e:x=y:=by
    rcases H4.1 ((h x).1 F8) with e | m
    ·exact e
    ·rcases H4.1 ((h y).2 F8) with e | m'
     ·exact e.symm
     ·exact absurd (tr _ _ _ (h1.1 y m') (h2.1 x m)) (irr x)
   subst e
   congr 1
   refine Pd irr tr h1.2 h2.2 fun z=>?_
   constructor
   ·intro m
    rcases H4.1 ((h z).1 (F7 _ m)) with e | m'
    ·subst e;exact absurd (h1.1 _ m) (irr _)
    ·exact m'
   ·intro m
    rcases H4.1 ((h z).2 (F7 _ m)) with e | m'
    ·subst e;exact absurd (h2.1 _ m) (irr _)
    ·exact m'
theorem FN {s:Int→Int} {l l':List (Int×Int)} (h:uF s l) (h':uF s l'):l=l':=
 Pd (lt:=fun p q=>p.1<q.1) (fun _=>Int.lt_irrefl _) (fun _ _ _=>Int.lt_trans) h.1 h'.1 fun x=>(h.2 x.1 x.2).trans (h'.2 x.1 x.2).symm
def cut (s:Int→Int) (e:Int):Int→Int:=fun z=>if z<e then s z else 0
theorem Kw {s:Int→Int} {e z:Int} (h:z<e):cut s e z=s z:=if_pos h
theorem Wm {s:Int→Int} {e z:Int} (h:e≤z):cut s e z=0:=if_neg (by omega)
theorem xQ {s:Int→Int} {e a b:Int}:Pz (cut s e) a b↔a<b∧b≤e∧s a≠0∧(∀ z,a≤z→z<b→s z=s a)∧s (a-1)≠s a∧(b=e∨s b≠s a):=by
 unfold Pz
 constructor
 ·rintro ⟨h1,h2,h3,h4,h5⟩
  have ha:a<e:=by
   rcases F4 a e with q | q
   ·exact q
   ·exact absurd (Wm q) h2
  have hb:b≤e:=by
   rcases F4 e b with q | q
   ·have:=h3 e (by omega) q
    rw [Wm (w8 e)] at this
    exact absurd this.symm h2
   ·exact q
  rw [Kw ha] at h2 h3 h4 h5
  rw [Kw (by omega)] at h4
  refine ⟨h1,hb,h2,fun z p q=>?_,h4, ?_⟩
  ·have:=h3 z p q;rwa [Kw (by omega)] at this
  ·rcases F4 b e with q | q
   ·right;rwa [Kw q] at h5
   ·left;omega
 ·rintro ⟨h1,hb,h2,h3,h4,h5⟩
  have ha:a<e:=by omega
  rw [Kw ha,Kw (show a-1<e by omega)]
  refine ⟨h1,h2,fun z p q=>?_,h4, ?_⟩
  ·rw [Kw (by omega)];exact h3 z p q
  ·rcases h5 with rfl | h5
   ·rw [Wm (w8 _)];exact fun q=>h2 q.symm
   ·rcases F4 b e with q | q
    ·rwa [Kw q]
    ·rw [Wm q];exact fun q=>h2 q.symm
theorem IK {s:Int→Int} {e:Int} (h:∀ z,z<e→s z=0):uF (cut s e) []:=by
 refine ⟨.nil,fun a b=>⟨fun m=>by simp at m,fun m=>?_⟩⟩
 rw [xQ] at m
 exact absurd (h a (by omega)) m.2.2.1
theorem SZ {s:Int→Int} {e:Int} {l:List (Int×Int)} (h:uF (cut s e) l) (h0:∀ z,e≤z→s z=0):uF s l:=by
 have:cut s e=s:=funext fun z=>by
  rcases F4 z e with q | q
  ·exact Kw q
  ·rw [Wm q,h0 z q]
 rwa [this] at h
theorem WO {s:Int→Int} {e:Int} {l:List (Int×Int)} (h:uF (cut s e) l):∀ p ∈ l,p.1<e∧p.2≤e:=fun p hp=>by
 have:=xQ.1 ((h.2 p.1 p.2).1 hp)
 omega
section
variable {s:Int→Int} {e e':Int} {l:List (Int×Int)} (h:uF (cut s e) l) (he:e<e') (hs:∀ z,e≤z→z<e'→s z=s e)
include h he hs
theorem BA (h0:s e=0):uF (cut s e') l:=by
 refine ⟨h.1,fun a b=>(h.2 a b).trans ?_⟩
 rw [xQ,xQ]
 constructor
 ·rintro ⟨h1,hb,h2,h3,h4,h5⟩
  refine ⟨h1,by omega,h2,h3,h4, ?_⟩
  rcases h5 with rfl | h5
  ·right;rw [h0];exact fun q=>h2 q.symm
  ·exact .inr h5
 ·rintro ⟨h1,hb,h2,h3,h4,h5⟩
  have ha:a<e:=by
   rcases F4 a e with q | q
   ·exact q
   ·have:=hs a q (by omega);rw [h0] at this;exact absurd this h2
  have hbe:b≤e:=by
   rcases F4 e b with q | q
   ·have:=h3 e (by omega) q;rw [h0] at this;exact absurd this.symm h2
   ·exact q
  refine ⟨h1,hbe,h2,h3,h4, ?_⟩
  rcases h5 with rfl | h5
  ·left;omega
  ·exact .inr h5
theorem TA (h0:s e≠0) (hd:s (e-1)≠s e):uF (cut s e') (l++[(e,e')]):=by
 have hl:=WO h
 refine ⟨?_,fun a b=>?_⟩
 ·rw [J5]
  refine ⟨h.1,by simp,fun p hp q hq=>?_⟩
  simp at hq
  subst hq
  exact (hl p hp).1
 ·rw [q9,J4,h.2 a b,xQ,xQ]
  constructor
  ·rintro (⟨h1,hb,h2,h3,h4,h5⟩ | q)
   ·refine ⟨h1,by omega,h2,h3,h4, ?_⟩
    rcases h5 with rfl | h5
    ·right;rw [← h3 (b-1) (by omega) (by omega)];exact fun q=>hd q.symm
    ·exact .inr h5
   ·injection q with q1 q2
    subst q1 q2
    exact ⟨he,w8 _,h0,hs,hd,.inl rfl⟩
  ·rintro ⟨h1,hb,h2,h3,h4,h5⟩
   rcases F4 a e with q | q
   ·left
    have hbe:b≤e:=by
     rcases F4 e b with q' | q'
     ·have e1:=h3 e (by omega) q'
      have e2:=h3 (e-1) (by omega) (by omega)
      exact absurd (e2.trans e1.symm) hd
     ·exact q'
    refine ⟨h1,hbe,h2,h3,h4, ?_⟩
    rcases h5 with rfl | h5
    ·left;omega
    ·exact .inr h5
   ·right
    have ea:a=e:=by
     rcases F4 e a with q' | q'
     ·have e1:=hs a q (by omega)
      have e2:=hs (a-1) (by omega) (by omega)
      exact absurd (e2.trans e1.symm) h4
     ·omega
    subst ea
    have eb:b=e':=by
     rcases h5 with q' | q'
     ·exact q'
     ·rcases F4 b e' with w | w
      ·exact absurd (hs b (by omega) w) q'
      ·omega
    rw [eb]
theorem NS {lo:Int} (hlo:∀ z,z<lo→s z=0) (h0:s e≠0) (hd:s (e-1)=s e):∃ l0 a,l=l0++[(a,e)]∧uF (cut s e') (l0++[(a,e')]):=by
 -- the run that ends at e
 have open_:∃ a,Pz (cut s e) a e:=by
  rcases L7 (∃ a,Pz (cut s e) a e) with q | q
  ·exact q
  ·exfalso
   have key:∀ n:Nat,∀ z,e-1-n≤z→z<e→s z=s e:=by
    intro n
    induction n with
    | zero => intro z p1 p2;obtain rfl:z = e-1 := by omega
              exact hd
    | succ n ih =>
      intro z p1 p2
      rcases F4 z (e-1-n) with w | w
      ·obtain rfl:z=e-1-n-1:=by omega
       rcases L7 (s (e-1-n-1)=s e) with r | r
       ·exact r
       ·refine absurd ⟨e-1-n, ?_⟩ q
        have ea:=ih (e-1-n) (by omega) (by omega)
        rw [xQ]
        exact ⟨by omega,w8 _,by rw [ea];exact h0,fun z a b=>by rw [ea];exact ih z a b,by rw [ea];exact r,.inl rfl⟩
      ·exact ih z w p2
   have hz:=key (e-1-(min (lo-1) (e-1))).toNat (min (lo-1) (e-1)) (by omega) (by omega)
   rw [hlo _ (by omega)] at hz
   exact h0 hz.symm
 obtain ⟨a,ha⟩:=open_
 obtain ⟨a1,_,a2,a3,a4,_⟩:=xQ.1 ha
 have sa:∀ z,a≤z→z<e'→s z=s a:=fun z p q=>by
  rcases F4 z e with w | w
  ·exact a3 z p w
  ·rw [hs z w q,← hd];exact a3 _ (by omega) (by omega)
 obtain ⟨l1,l2,rfl⟩:=List.append_of_mem ((h.2 a e).2 ha)
 have hp:=h.1
 rw [J5,J2] at hp
 obtain ⟨p1,⟨p2,p3⟩,p4⟩:=hp
 have l2n:l2=[]:=by
  cases l2 with
  | nil=>rfl
  | cons q t =>
    exfalso
    have hq:=p2 q F8
    have hr:=xQ.1 ((h.2 q.1 q.2).1 (by simp))
    obtain ⟨r1,r2,r3,r4,r5,_⟩:=hr
    have hq:a<q.1:=hq
    refine r5 ?_
    rw [sa (q.1-1) (by omega) (by omega),sa q.1 (by omega) (by omega)]
 subst l2n
 refine ⟨l1,a,rfl, ?_,fun x y=>?_⟩
 ·rw [J5]
  refine ⟨p1,by simp,fun q hq r hr=>?_⟩
  simp at hr
  subst hr
  exact p4 q hq (a,e) F8
 ·rw [q9,J4,xQ]
  constructor
  ·rintro (m | m)
   ·have hx:x<a:=p4 (x,y) m (a,e) F8
    obtain ⟨r1,r2,r3,r4,r5,r6⟩:=xQ.1 ((h.2 x y).1 (List.mem_append_left _ m))
    have hy:y≤a:=by
     rcases F4 a y with q | q
     ·exact absurd ((r4 (a-1) (by omega) (by omega)).trans (r4 a (by omega) q).symm) a4
     ·exact q
    refine ⟨r1,by omega,r3,r4,r5, ?_⟩
    rcases r6 with r6 | r6
    ·omega
    ·exact .inr r6
   ·injection m with m1 m2
    subst m1 m2
    exact ⟨by omega,w8 _,a2,sa,a4,.inl rfl⟩
  ·rintro ⟨r1,r2,r3,r4,r5,r6⟩
   have hxe:x<e:=by
    rcases F4 x e with q | q
    ·exact q
    ·refine absurd ?_ r5
     rw [sa (x-1) (by omega) (by omega),sa x (by omega) (by omega)]
   rcases F4 y e with q | q
   ·left
    have:(x,y) ∈ l1++[(a,e)]:=(h.2 x y).2 (xQ.2 ⟨r1,by omega,r3,r4,r5,by
     rcases r6 with r6 | r6
     ·omega
     ·exact .inr r6⟩)
    rcases q9.1 this with m | m
    ·exact m
    ·simp at m;omega
   ·right
    have ex:x=a:=by
     rcases F4 x a with w | w
     ·exact absurd ((r4 (a-1) (by omega) (by omega)).trans (r4 a (by omega) (by omega)).symm) a4
     ·rcases F4 a x with w' | w'
      ·refine absurd ?_ r5
       rw [sa (x-1) (by omega) (by omega),sa x (by omega) (by omega)]
      ·omega
    subst ex
    have ey:y=e':=by
     rcases r6 with r6 | r6
     ·exact r6
     ·rcases F4 y e' with w | w
      ·exact absurd (sa y (by omega) w) r6
      ·omega
    rw [ey]
end
theorem IJ {s:Int→Int} {lo hi:Int} (hlo:∀ z,z<lo→s z=0) (hhi:∀ z,hi≤z→s z=0) {x:Int} (hx:s x≠0):∃ a b,Pz s a b∧a≤x∧x<b:=by
 have left_:∀ n:Nat,(∃ a,a≤x∧(∀ z,a≤z→z≤x→s z=s x)∧s (a-1)≠s x)∨∀ z,x-n≤z→z≤x→s z=s x:=by
  intro n
  induction n with
  | zero=>right;intro z p q;rw [show z=x from by omega]
  | succ n ih =>
    rcases ih with q | q
    ·exact .inl q
    ·rcases L7 (s (x-n-1)=s x) with r | r
     ·right
      intro z p1 p2
      rcases F4 z (x-n) with w | w
      ·rw [show z=x-n-1 from by omega];exact r
      ·exact q z w p2
     ·left;exact ⟨x-n,by omega,fun z a b=>q z a b,r⟩
 have right_:∀ n:Nat,(∃ b,x<b∧(∀ z,x≤z→z<b→s z=s x)∧s b≠s x)∨∀ z,x≤z→z≤x+n→s z=s x:=by
  intro n
  induction n with
  | zero=>right;intro z p q;rw [show z=x from by omega]
  | succ n ih =>
    rcases ih with q | q
    ·exact .inl q
    ·rcases L7 (s (x+n+1)=s x) with r | r
     ·right
      intro z p1 p2
      rcases F4 (x+n) z with w | w
      ·rw [show z=x+n+1 from by omega];exact r
      ·exact q z p1 w
     ·left;exact ⟨x+n+1,by omega,fun z a b=>q z a (by omega),r⟩
 obtain ⟨a,a1,a2,a3⟩:∃ a,a≤x∧(∀ z,a≤z→z≤x→s z=s x)∧s (a-1)≠s x:=by
  rcases left_ (x-min (lo-1) x).toNat with q | q
  ·exact q
  ·have:=q (min (lo-1) x) (by omega) (by omega)
   rw [hlo _ (by omega)] at this
   exact absurd this.symm hx
 obtain ⟨b,b1,b2,b3⟩:∃ b,x<b∧(∀ z,x≤z→z<b→s z=s x)∧s b≠s x:=by
  rcases right_ (max hi x-x).toNat with q | q
  ·exact q
  ·have:=q (max hi x) (by omega) (by omega)
   rw [hhi _ (by omega)] at this
   exact absurd this.symm hx
 have ha:=a2 a (w8 a) a1
 refine ⟨a,b,⟨by omega,by rw [ha];exact hx,fun z p q=>?_,by rw [ha];exact a3,by rw [ha];exact b3⟩,a1,b1⟩
 rw [ha]
 rcases F4 z x with w | w
 ·exact a2 z p (by omega)
 ·exact b2 z w q
end Go.Cells
namespace Go.SM
open Go Go.VI
structure aF where
 X:Int
 Y:Int
 W:Int
 H:Int
def aH (x:aF):List PV:=[(vI x.X),(vI x.Y),(vI x.W),(vI x.H)]
abbrev bI (l:List aF):PV:=.sl (l7 aH l)
abbrev bU (e:Nat) (l:List aF):HO:=.row e [] (l7 aH l)
structure aT where
 Name:ByteArray
 bH:ByteArray
 cX:Int
 cU:Int
 dQ:Int
 cE:Int
 bO:(List aF)
 Used:(List aF)
def cQ (x:aT):List PV:=[(vS x.Name),(vS x.bH),(vI x.cX),(vI x.cU),(vI x.dQ),(vI x.cE),(.sl (l7 aH x.bO)),(.sl (l7 aH x.Used))]
abbrev nH (l:List aT):PV:=.sl (l7 cQ l)
structure aS where
 Name:ByteArray
 bH:ByteArray
 cX:Int
 cU:Int
 aD:(List aF)
 bQ:(List aF)
 Forms:(List aF)
def aZ (x:aS):List PV:=[(vS x.Name),(vS x.bH),(vI x.cX),(vI x.cU),(.sl (l7 aH x.aD)),(.sl (l7 aH x.bQ)),(.sl (l7 aH x.Forms))]
abbrev bV (l:List aS):PV:=.sl (l7 aZ l)
abbrev xR (e:Nat) (l:List aS):HO:=.row e [] (l7 aZ l)
structure aV where
 aT:aT
 aB:(List aS)
def bF (x:aV):List PV:=[(vS x.aT.Name),(vS x.aT.bH),(vI x.aT.cX),(vI x.aT.cU),(vI x.aT.dQ),(vI x.aT.cE),(.sl (l7 aH x.aT.bO)),(.sl (l7 aH x.aT.Used)),(.sl (l7 aZ x.aB))]
structure Is where
 X:Int
 Y:Int
def YN (x:Is):List PV:=[(vI x.X),(vI x.Y)]
structure cF where
 aS:Int
 nK:Int
 bL:Int
 gC:Is
def fB (x:cF):List PV:=[(vI x.aS),(vI x.nK),(vI x.bL),(vI x.gC.X),(vI x.gC.Y)]
abbrev zW (l:List cF):PV:=.sl (l7 fB l)
abbrev wH (e:Nat) (l:List cF):HO:=.row e [] (l7 fB l)
structure dJ where
 Gap:Int
 cH:Int
 sA:Bool
def cD (x:dJ):List PV:=[(vI x.Gap),(vI x.cH),(vB x.sA)]
structure nY where
 Gb:(List aT)
 aB:(List aS)
 Set:dJ
def iP (x:nY):List PV:=[(.sl (l7 cQ x.Gb)),(.sl (l7 aZ x.aB)),(vI x.Set.Gap),(vI x.Set.cH),(vB x.Set.sA)]
structure bW where
 Cut:(List Bool)
 bJ:(List (List Bool))
 eV:(List Bool)
 bL:(List Int)
 bE:(List Bool)
def cK (x:bW):List PV:=[(.sl (l7 cB x.Cut)),(.sl (l7 (cS cB) x.bJ)),(.sl (l7 cB x.eV)),(.sl (l7 cI x.bL)),(.sl (l7 cB x.bE))]
structure eE where
 X1:Int
 Y1:Int
 X2:Int
 Y2:Int
def tA (x:eE):List PV:=[(vI x.X1),(vI x.Y1),(vI x.X2),(vI x.Y2)]
structure bC where
 Line:eE
 A:Int
 B:Int
def cW (x:bC):List PV:=[(vI x.Line.X1),(vI x.Line.Y1),(vI x.Line.X2),(vI x.Line.Y2),(vI x.A),(vI x.B)]
abbrev fD (l:List bC):PV:=.sl (l7 cW l)
abbrev eP (e:Nat) (l:List bC):HO:=.row e [] (l7 cW l)
structure oM where
structure bK where
 aS:Int
 aT:Int
 X:Int
 Y:Int
 Kq:Int
def cG (x:bK):List PV:=[(vI x.aS),(vI x.aT),(vI x.X),(vI x.Y),(vI x.Kq)]
abbrev cP (l:List bK):PV:=.sl (l7 cG l)
abbrev oU (e:Nat) (l:List bK):HO:=.row e [] (l7 cG l)
structure aY where
 aF:aF
 gap:Int
 common:Bool
def cM (x:aY):List PV:=[(vI x.aF.X),(vI x.aF.Y),(vI x.aF.W),(vI x.aF.H),(vI x.gap),(vB x.common)]
abbrev gB (l:List aY):PV:=.sl (l7 cM l)
abbrev dM (e:Nat) (l:List aY):HO:=.row e [] (l7 cM l)
structure pO where
 GH:Int
 GJ:Int
 Line:eE
 OL:Int
 GG:Int
def gP (x:pO):List PV:=[(vI x.GH),(vI x.GJ),(vI x.Line.X1),(vI x.Line.Y1),(vI x.Line.X2),(vI x.Line.Y2),(vI x.OL),(vI x.GG)]
abbrev xF (l:List pO):PV:=.sl (l7 gP l)
abbrev Ah (e:Nat) (l:List pO):HO:=.row e [] (l7 gP l)
structure Flat where
 aD:(List aF)
 bQ:(List aF)
 Forms:(List aF)
 qQ:(List pO)
def Ci (x:Flat):List PV:=[(.sl (l7 aH x.aD)),(.sl (l7 aH x.bQ)),(.sl (l7 aH x.Forms)),(.sl (l7 gP x.qQ))]
structure gX where
 tP:(List aF)
 cY:(List aY)
 rB:aF
 w:Int
 h:Int
def fO (x:gX):List PV:=[(.sl (l7 aH x.tP)),(.sl (l7 cM x.cY)),(vI x.rB.X),(vI x.rB.Y),(vI x.rB.W),(vI x.rB.H),(vI x.w),(vI x.h)]
structure bD where
 lo:Int
 hi:Int
def aA (x:bD):List PV:=[(vI x.lo),(vI x.hi)]
abbrev oT (l:List bD):PV:=.sl (l7 aA l)
abbrev aR (e:Nat) (l:List bD):HO:=.row e [] (l7 aA l)
structure cC where
def Vt (x:aF):Prop:=R64 x.X∧R64 x.Y∧R64 x.W∧R64 x.H
def Kp (x:aF):Prop:=R64 x.X∧R64 x.Y∧R64 x.W∧R64 x.H
def Qc (x:aT):Prop:=RT x.Name∧RT x.bH∧R64 x.cX∧R64 x.cU∧R64 x.dQ∧R64 x.cE∧(RLN 1048576 Kp) x.bO∧(RLN 1048576 Kp) x.Used
def Qb (x:aS):Prop:=RT x.Name∧RT x.bH∧R64 x.cX∧R64 x.cU∧(RLN 1048576 Kp) x.aD∧(RLN 1048576 Kp) x.bQ∧(RLN 1048576 Kp) x.Forms
def Ph (x:aV):Prop:=Qc x.aT∧(RLN 1048576 Qb) x.aB
def JE (x:Is):Prop:=R64 x.X∧R64 x.Y
def Vs (x:cF):Prop:=R64 x.aS∧R64 x.nK∧R64 x.bL∧JE x.gC
def Tr (x:dJ):Prop:=R64 x.Gap∧R64 x.cH∧RT x.sA
def Ay (x:nY):Prop:=(RLN 1048576 Qc) x.Gb∧(RLN 1048576 Qb) x.aB∧Tr x.Set
end Go.SM
end
