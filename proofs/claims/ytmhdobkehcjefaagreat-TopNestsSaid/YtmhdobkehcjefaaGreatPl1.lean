/- What the functions compute, part 1. -/
import Derived.Test.YtmhdobkehcjefaaGreatVHC3
import Derived.Test.YtmhdobkehcjefaaGreatVHC4
import Derived.Lib.IndexMore
set_option linter.unusedVariables false
set_option linter.unusedSimpArgs false
set_option linter.unusedSectionVars false
noncomputable section
namespace Go.Cells
def Hy (f:Nat→Int):Nat→Int
 | 0=>0
 | n+1=>Hy f n+f n
def S (a b:Int) (f:Int→Int):Int:=Hy (fun k=>f (a+k)) (b-a).toNat
theorem Lm {f g:Nat→Int}:∀ {n:Nat},(∀ k,k<n→f k=g k)→Hy f n=Hy g n
 | 0,_=>rfl
 | n+1,h=>by simp only [Hy];rw [Lm fun k hk=>h k (by omega),h n (by omega)]
theorem Wv (f:Nat→Int) (m:Nat):∀ n,Hy f (m+n)=Hy f m+Hy (fun k=>f (m+k)) n
 | 0=>by simp [Hy]
 | n+1=>by rw [← Nat.add_assoc];simp only [Hy];rw [Wv f m n];omega
theorem Kk {a b:Int} (h:b≤a) (f:Int→Int):S a b f=0:=by
 unfold S;rw [show (b-a).toNat=0 from by omega];rfl
theorem My {a b:Int} {f g:Int→Int} (h:∀ x,a≤x→x<b→f x=g x):S a b f=S a b g:=
 Lm fun k hk=>h _ (by omega) (by omega)
theorem Tu {a m b:Int} (h1:a≤m) (h2:m≤b) (f:Int→Int):S a b f=S a m f+S m b f:=by
 unfold S
 rw [show (b-a).toNat=(m-a).toNat+(b-m).toNat from by omega,Wv]
 congr 1
 exact Lm fun k _=>by congr 1;omega
theorem VA (a:Int) (f:Int→Int):S a (a+1) f=f a:=by
 unfold S;rw [show (a+1-a).toNat=1 from by omega];simp [Hy]
theorem Rm {a b:Int} (h:a≤b) (f:Int→Int):S a (b+1) f=S a b f+f b:=by
 rw [Tu h (by omega),VA]
theorem KP {a:Int} {P:Int→Prop} (h0:P a) (hs:∀ b,a≤b→P b→P (b+1)) (b:Int) (h:a≤b):P b:=by
 have:∀ n:Nat,P (a+n):=fun n=>by
  induction n with
  | zero=>simpa using h0
  | succ n ih=>have:=hs _ (by omega) ih;rwa [show a+((n+1:Nat):Int)=a+n+1 from by omega]
 have:=this (b-a).toNat
 rwa [show a+((b-a).toNat:Int)=b from by omega] at this
theorem So {a b:Int} (f g:Int→Int):S a b (fun x=>f x+g x)=S a b f+S a b g:=by
 by_cases h:a≤b
 ·revert b
  intro b h
  refine KP (P:=fun b=>S a b (fun x=>f x+g x)=S a b f+S a b g) ?_ (fun b hb ih=>?_) b h
  ·simp [Kk]
  ·rw [Rm hb,Rm hb,Rm hb,ih];omega
 ·simp [Kk (show b≤a by omega)]
theorem Mz {a b:Int} (h:a≤b) {f:Int→Int} {c:Int} (hc:∀ x,a≤x→x<b→f x=c):S a b f=(b-a)*c:=by
 rw [My hc]
 refine KP (P:=fun b=>S a b (fun _=>c)=(b-a)*c) ?_ (fun b hb ih=>?_) b h
 ·simp [Kk]
 ·rw [Rm hb,ih,show b+1-a=(b-a)+1 from by omega,Int.add_mul];omega
theorem Kl {a b:Int} {f:Int→Int} (hc:∀ x,a≤x→x<b→f x=0):S a b f=0:=by
 by_cases h:a≤b
 ·rw [Mz h hc,Int.mul_zero]
 ·exact Kk (by omega) f
theorem TJ {a b:Int} {f g:Int→Int} (h:∀ x,a≤x→x<b→f x≤g x):S a b f≤S a b g:=by
 by_cases hab:a≤b
 ·revert h
  refine KP (P:=fun b=>(∀ x,a≤x→x<b→f x≤g x)→S a b f≤S a b g) (fun _=>by simp [Kk]) (fun b hb ih h=>?_) b hab
  rw [Rm hb,Rm hb]
  have:=ih fun x h1 h2=>h x h1 (by omega)
  have:=h b hb (by omega)
  omega
 ·simp [Kk (show b≤a by omega)]
theorem AM {a b:Int} {f:Int→Int} (h:∀ x,a≤x→x<b→0≤f x):0≤S a b f:=by
 have:=TJ (a:=a) (b:=b) (f:=fun _=>0) (g:=f) h
 rwa [Kl fun _ _ _=>rfl] at this
theorem Tv {a b a' b':Int} {f:Int→Int} (h1:a'≤a) (h2:a≤b) (h3:b≤b') (h:∀ x,a'≤x→x<b'→(x<a∨b≤x)→f x=0):S a' b' f=S a b f:=by
 rw [Tu h1 (by omega),Tu h2 h3,Kl (a:=a') (b:=a) fun x p q=>h x p (by omega) (.inl q),Kl (a:=b) (b:=b') fun x p q=>h x (by omega) q (.inr p)]
 omega
def Ah (g:Int→Int):List Int→Int
 | []=>0
 | [_]=>0
 | x::y::t=>(y-x)*g x+Ah g (y::t)
def Ix {β:Type} (g:Int→β):List Int→Prop
 | []=>True
 | [_]=>True
 | x::y::t=>x<y∧(∀ z,x≤z→z<y→g z=g x)∧Ix g (y::t)
theorem Lj {β:Type} {g:Int→β}:∀ (x:Int) (t:List Int),Ix g (x::t)→x≤(x::t).getLast (by simp)
 | x,[],_=>by simp
 | x,y::t,h=>by
   have:=Lj y t h.2.2
   have:=h.1
   rw [List.getLast_cons (by simp)]
   omega
theorem Zi {g:Int→Int}:∀ (x:Int) (t:List Int),Ix g (x::t)→S x ((x::t).getLast (by simp)) g=Ah g (x::t)
 | x,[],_=>by simp [Kk,Ah]
 | x,y::t,h=>by
   have h1:=h.1
   rw [List.getLast_cons (by simp),Tu (Int.le_of_lt h1) (Lj y t h.2.2),Zi y t h.2.2,Mz (Int.le_of_lt h1) h.2.1]
   rfl
def one (b:Bool):Int:=if b then 1 else 0
theorem one_nonneg (b:Bool):0≤one b:=by cases b <;> decide
def eB (M:Int) (p:Int→Int→Bool):Int:=S (-M) M fun x=>S (-M) M fun y=>one (p x y)
theorem Ut {M:Int} {p q:Int→Int→Bool} (h:∀ x y,p x y=q x y):eB M p=eB M q:=by
 have:p=q:=funext fun x=>funext fun y=>h x y
 rw [this]
theorem Ey {M:Int} (p:Int→Int→Bool):0≤eB M p:=AM fun _ _ _=>AM fun _ _ _=>one_nonneg _
theorem Ro {M:Int} {p:Int→Int→Bool} (h:∀ x y,p x y=false):eB M p=0:=Kl fun x _ _=>Kl fun y _ _=>by rw [h];rfl
def inR (a b c d:Int) (x y:Int):Bool:=decide (a≤x∧x<b)&&decide (c≤y∧y<d)
theorem HX {M a b c d:Int} (ha : -M≤a) (hab:a≤b) (hb:b≤M) (hc : -M≤c) (hcd:c≤d) (hd:d≤M):eB M (inR a b c d)=(b-a)*(d-c):=by
 unfold eB
 rw [Tv ha hab hb fun x _ _ h=>Kl fun y _ _=>by
  unfold inR
  rw [decide_eq_false (by omega:¬ (a≤x∧x<b))];rfl]
 refine Mz hab fun x h1 h2=>?_
 rw [Tv hc hcd hd fun y _ _ h=>by
  unfold inR
  rw [decide_eq_false (by omega:¬ (c≤y∧y<d)),Bool.and_false];rfl]
 rw [Mz hcd (c:=1) fun y h3 h4=>by
  unfold inR
  rw [decide_eq_true (⟨h1,h2⟩:a≤x∧x<b),decide_eq_true (⟨h3,h4⟩:c≤y∧y<d)];rfl]
 omega
theorem HV {M:Int} {p:Int→Int→Bool} {x0 y0:Int} {xs ys:List Int} (hx:Ix (fun x=>p x) (x0::xs)) (hy:∀ x,Ix (fun y=>p x y) (y0::ys))
  (h1 : -M≤x0) (h2:(x0::xs).getLast (by simp)≤M) (h3 : -M≤y0) (h4:(y0::ys).getLast (by simp)≤M)
  (hox:∀ x y,(x<x0∨(x0::xs).getLast (by simp)≤x)→p x y=false) (hoy:∀ x y,(y<y0∨(y0::ys).getLast (by simp)≤y)→p x y=false) :
  eB M p=Ah (fun x=>Ah (fun y=>one (p x y)) (y0::ys)) (x0::xs):=by
 have st1:∀ {β γ:Type} (f:β→γ) (g:Int→β) (l:List Int),Ix g l→Ix (fun x=>f (g x)) l:=by
  intro β γ f g l
  induction l with
  | nil=>exact fun _=>trivial
  | cons x t ih =>
    cases t with
    | nil=>exact fun _=>trivial
    | cons y t=>exact fun h=>⟨h.1,fun z a b=>congrArg f (h.2.1 z a b),ih h.2.2⟩
 unfold eB
 rw [Tv h1 (Lj _ _ hx) h2 fun x _ _ h=>Kl fun y _ _=>by rw [hox x y h];rfl]
 have e:∀ x,S (-M) M (fun y=>one (p x y))=Ah (fun y=>one (p x y)) (y0::ys):=fun x=>by
  rw [Tv h3 (Lj _ _ (hy x)) h4 fun y _ _ h=>by rw [hoy x y h];rfl]
  exact Zi _ _ (st1 one (fun y=>p x y) _ (hy x))
 rw [My fun x _ _=>e x]
 exact Zi _ _ (st1 (fun q=>Ah (fun y=>one (q y)) (y0::ys)) (fun x=>p x) _ hx)
end Go.Cells
namespace Go.VI
theorem nW {S R:Type} (μ:S→Nat) (I:S→Prop) (Q:R→Prop) (body:S→Option (S ⊕ R))
  (step:∀ s,I s→(∃ s',body s=some (.inl s')∧I s'∧μ s'<μ s)∨(∃ r,body s=some (.inr r)∧Q r)):∀ s,I s→∃ r,aL body s=some r∧Q r:=by
 have key:∀ (n:Nat) s,μ s<n→I s→∃ r,aL body s=some r∧Q r:=by
  intro n
  induction n with
  | zero=>intro s h;exact absurd h (Nat.not_lt_zero _)
  | succ n ih =>
    intro s h hs
    rcases step s hs with ⟨s',e,hs',hm⟩ | ⟨r,e,hr⟩
    ·rw [eW e];exact ih s' (by omega) hs'
    ·exact ⟨r,cM e,hr⟩
 exact fun s hs=>key (μ s+1) s (Nat.lt_succ_self _) hs
section
variable {α:Type} (d:α)
def gz (l:List α) (i:Int):α:=l.getD i.toNat d
theorem jG {l:List α} {i:Int} (h:0≤i) (h2:i<l.length):idx l i=some (gz d l i):=by
 unfold idx gz
 rw [if_pos h,List.getD_eq_getElem?_getD,List.getElem?_eq_getElem (by omega)]
 rfl
theorem MD {l:List α} {i k:Int} (hi:0≤i) (hk:0≤k) (h:i<l.length) (v:α):gz d (l.set i.toNat v) k=if k=i then v else gz d l k:=by
 unfold gz
 rw [List.getD_eq_getElem?_getD,List.getD_eq_getElem?_getD,List.getElem?_set]
 by_cases e:k=i
 ·subst e
  rw [if_pos rfl,if_pos (by omega),if_pos rfl];rfl
 ·rw [if_neg (by omega),if_neg e]
def sw (l:List α) (i j:Int):List α:=(l.set i.toNat (gz d l j)).set j.toNat (gz d l i)
theorem Ww (l:List α) (i j:Int):(sw d l i j).length=l.length:=by simp [sw]
theorem tH {l:List α} {i j k:Int} (hi:0≤i) (hj:0≤j) (hk:0≤k) (h1:i<l.length) (h2:j<l.length):gz d (sw d l i j) k=if k=j then gz d l i else if k=i then gz d l j else gz d l k:=by
 unfold sw
 rw [MD d hj hk (by rw [List.length_set];exact h2),MD d hi hk h1]
inductive On (a b:Int):List α→List α→Prop
 | refl (l:List α):On a b l l
 | step {l l':List α} (h:On a b l l') (i j:Int) (hi:a≤i) (hi':i<b) (hj:a≤j) (hj':j<b) (ha:0≤a) (hb:b≤l'.length):On a b l (sw d l' i j)
theorem On.len {a b:Int} {l l':List α} (h:On d a b l l'):l'.length=l.length:=by
 induction h with
 | refl=>rfl
 | step h i j _ _ _ _ _ _ ih=>rw [Ww,ih]
theorem On.trans {a b:Int} {l l' l'':List α} (h:On d a b l l') (h':On d a b l' l''):On d a b l l'':=by
 induction h' with
 | refl=>exact h
 | step _ i j hi hi' hj hj' ha hb ih=>exact .step ih i j hi hi' hj hj' ha hb
theorem On.mono {a b a' b':Int} {l l':List α} (h:On d a b l l') (h0:0≤a') (h1:a'≤a) (h2:b≤b') (h3:b'≤l.length):On d a' b' l l':=by
 induction h with
 | refl=>exact .refl _
 | step h i j hi hi' hj hj' ha hb ih=>exact .step ih i j (by omega) (by omega) (by omega) (by omega) h0 (by rw [h.len];exact h3)
theorem On.out {a b:Int} {l l':List α} (h:On d a b l l') {k:Int} (hk:0≤k) (hk':k<a∨b≤k):gz d l' k=gz d l k:=by
 induction h with
 | refl=>rfl
 | step h i j hi hi' hj hj' ha hb ih =>
   rw [tH d (by omega) (by omega) hk (by omega) (by omega),if_neg (by omega),if_neg (by omega),ih]
theorem On.all {a b:Int} {l l':List α} (h:On d a b l l') (Q:α→Prop) (hq:∀ k,a≤k→k<b→Q (gz d l k)):∀ k,a≤k→k<b→Q (gz d l' k):=by
 induction h with
 | refl=>exact hq
 | step h i j hi hi' hj hj' ha hb ih =>
   intro k h1 h2
   rw [tH d (by omega) (by omega) (by omega) (by omega) (by omega)]
   split
   ·exact ih i hi hi'
   ·split
    ·exact ih j hj hj'
    ·exact ih k h1 h2
theorem SA {l:List α} {i j:Int} (hi:0≤i) (hj:0≤j) (h1:i<l.length) (h2:j<l.length):(sw d l i j).Perm l:=by
 unfold sw gz
 have e1:l.getD i.toNat d=l[i.toNat]'(by omega):=by rw [List.getD_eq_getElem?_getD,List.getElem?_eq_getElem (by omega)];rfl
 have e2:l.getD j.toNat d=l[j.toNat]'(by omega):=by rw [List.getD_eq_getElem?_getD,List.getElem?_eq_getElem (by omega)];rfl
 rw [e1,e2]
 exact List.set_set_perm (by omega) (by omega)
theorem On.perm {a b:Int} {l l':List α} (h:On d a b l l'):l'.Perm l:=by
 induction h with
 | refl=>exact .refl _
 | step h i j hi hi' hj hj' ha hb ih=>exact (SA d (by omega) (by omega) (by omega) (by omega)).trans ih
def Asc (lt:α→α→Bool) (a b:Int) (l:List α):Prop:=∀ i j,a≤i→i<j→j<b→lt (gz d l j) (gz d l i)=false
structure Rn (lt:α→α→Bool):Prop where
 asymm:∀ x y,lt x y=true→lt y x=false
 neg:∀ x y z,lt x z=true→lt x y=true∨lt y z=true
theorem Rn.le_trans {lt:α→α→Bool} (w:Rn lt) {x y z:α} (h1:lt y x=false) (h2:lt z y=false):lt z x=false:=by
 cases h:lt z x with
 | false=>rfl
 | true=>rcases w.neg z y x h with q | q <;> simp_all
theorem Rn.irrefl {lt:α→α→Bool} (w:Rn lt) (x:α):lt x x=false:=by
 cases h:lt x x with
 | false=>rfl
 | true=>have:=w.asymm x x h;simp_all
end
end Go.VI
namespace Go.SM
open Go Go.VI
abbrev Br (α:Type):Type 1:=∀ (β:Type),α→α→(Bool→Option β)→Option β
def brC {α:Type} (cmp:α→α→Option Int):Br α:=fun _ x y k=>(cmp x y).bind fun r=>k (decide (r<0))
def brL {α:Type} (less:α→α→Option Bool):Br α:=fun _ x y k=>(less x y).bind k
def vF:(Int×Int)→Option (Int):=fun j3 =>
 (Mu (ByteArray.mk #[0,1,2,2,3,3,3,3,4,4,4,4,4,4,4,4,5,5,5,5,5,5,5,5,5,5,5,5,5,5,5,5,6,6,6,6,6,6,6,6,6,6,6,6,6,6,6,6,6,6,6,6,6,6,6,6,6,6,6,6,6,6,6,6,7,7,7,7,7,7,7,7,7,7,7,7,7,7,7,7,7,7,7,7,7,7,7,7,7,7,7,7,7,7,7,7,7,7,7,7,7,7,7,7,7,7,7,7,7,7,7,7,7,7,7,7,7,7,7,7,7,7,7,7,7,7,7,7,8,8,8,8,8,8,8,8,8,8,8,8,8,8,8,8,8,8,8,8,8,8,8,8,8,8,8,8,8,8,8,8,8,8,8,8,8,8,8,8,8,8,8,8,8,8,8,8,8,8,8,8,8,8,8,8,8,8,8,8,8,8,8,8,8,8,8,8,8,8,8,8,8,8,8,8,8,8,8,8,8,8,8,8,8,8,8,8,8,8,8,8,8,8,8,8,8,8,8,8,8,8,8,8,8,8,8,8,8,8,8,8,8,8,8,8,8,8,8,8,8,8,8,8,8,8,8,8]) (IntKind.wrap .u8 j3.1)).bind fun x5=>some (aF j3.2 (IntKind.wrap .i64 x5))
def yT:(Int×Int)→Option (Int):=fun j2 =>
 if (decide (j2.1 ≥ 256)) then (vF ((Int.fdiv j2.1 (2^(min (Int.toNat 8) 64))),(aF j2.2 8))) else (vF (j2.1,j2.2))
def Dm:(Int×Int)→Option (Int):=fun j1 =>
 if (decide (j1.1 ≥ 65536)) then (yT ((Int.fdiv j1.1 (2^(min (Int.toNat 16) 64))),(aF j1.2 16))) else (yT (j1.1,j1.2))
def Oh (x0:Int):Option (Int):=
 if (decide (x0 ≥ 4294967296)) then (Dm ((Int.fdiv x0 (2^(min (Int.toNat 32) 64))),32)) else (Dm (x0,0))
def Ir (x0:Int):Option (Int):=
 (Oh x0).bind fun r2=>some r2
def Cp (length:Int):Option (Int):=
 (Ir (IntKind.wrap .u64 length)).bind fun r2=>if (decide (0≤r2)) then (some (IntKind.wrap .u64 (1*2^(min (Int.toNat r2) 64)))) else none
def Jy (h0_0:Int):Option (Int):=
 some (eT .u64 (eT .u64 (eT .u64 h0_0 (IntKind.wrap .u64 (h0_0*2^(min (Int.toNat 13) 64)))) (Int.fdiv (eT .u64 h0_0 (IntKind.wrap .u64 (h0_0*2^(min (Int.toNat 13) 64)))) (2^(min (Int.toNat 7) 64)))) (IntKind.wrap .u64 ((eT .u64 (eT .u64 h0_0 (IntKind.wrap .u64 (h0_0*2^(min (Int.toNat 13) 64)))) (Int.fdiv (eT .u64 h0_0 (IntKind.wrap .u64 (h0_0*2^(min (Int.toNat 13) 64)))) (2^(min (Int.toNat 7) 64))))*2^(min (Int.toNat 17) 64))))
def uV {α:Type} (br:Br α) (a:Int):Int×(List α)→Option (Int×(List α) ⊕ (List α)):=fun a0 =>
 (if (decide (a0.1>a)) then ((idx a0.2 a0.1).bind fun a4=>(idx a0.2 (aH a0.1 1)).bind fun a5=>br _ a4 a5 fun a3=>some a3) else (some false)).bind fun a2=>if a2 then ((idx a0.2 (aH a0.1 1)).bind fun a1=>(idx a0.2 a0.1).bind fun a6=>(idx a0.2 a0.1).bind fun a7=>(idx (List.set a0.2 (Int.toNat a0.1) a1) (aH a0.1 1)).bind fun a8=>some (.inl ((aH a0.1 1),(List.set (List.set a0.2 (Int.toNat a0.1) a1) (Int.toNat (aH a0.1 1)) a6)))) else (some (.inr a0.2))
def zW {α:Type} (br:Br α) (a:Int) (b:Int):Int×(List α)→Option (Int×(List α) ⊕ (List α)):=fun a0 =>
 if (decide (a0.1<b)) then ((aL (uV br a) (a0.1,a0.2)).bind fun a1=>some (.inl ((aF a0.1 1),a1))) else (some (.inr a0.2))
def Dp {α:Type} (br:Br α) (a:Int) (b:Int) (h0:(List α)):Option ((List α)):=
 (aL (zW br a b) ((aF a 1),h0)).bind fun a0=>some a0
def xY {α:Type} (br:Br α) (first:Int) (a0:Int×(List α)):Int→Option (Int×(List α) ⊕ ((List α) ⊕ (List α))):=fun a1 =>
 (idx a0.2 (aF first a0.1)).bind fun a4=>(idx a0.2 (aF first a1)).bind fun a5=>br _ a4 a5 fun a3=>if (!a3) then (some (.inr (.inr a0.2))) else ((idx a0.2 (aF first a1)).bind fun a2=>(idx a0.2 (aF first a0.1)).bind fun a6=>(idx a0.2 (aF first a0.1)).bind fun a7=>(idx (List.set a0.2 (Int.toNat (aF first a0.1)) a2) (aF first a1)).bind fun a8=>some (.inl (a1,(List.set (List.set a0.2 (Int.toNat (aF first a0.1)) a2) (Int.toNat (aF first a1)) a6))))
def Hd {α:Type} (br:Br α) (hi:Int) (first:Int):Int×(List α)→Option (Int×(List α) ⊕ ((List α) ⊕ (List α))):=fun a0 =>
 if (decide ((aF (cK 2 a0.1) 1) ≥ hi)) then (some (.inr (.inl a0.2))) else ((if (decide ((aF (aF (cK 2 a0.1) 1) 1)<hi)) then ((idx a0.2 (aF first (aF (cK 2 a0.1) 1))).bind fun a3=>(idx a0.2 (aF (aF first (aF (cK 2 a0.1) 1)) 1)).bind fun a4=>br _ a3 a4 fun a2=>some a2) else (some false)).bind fun a1=>if a1 then (xY br first a0 (aF (aF (cK 2 a0.1) 1) 1)) else (xY br first a0 (aF (cK 2 a0.1) 1)))
def Fb {α:Type} (br:Br α) (lo:Int) (hi:Int) (first:Int) (h0:(List α)):Option ((List α)):=
 (aL (Hd br hi first) (lo,h0)).bind fun a2=>match a2 with | .inl a0=>some a0 | .inr a1=>some a1
def Hb {α:Type} (br:Br α) (a:Int) (b:Int):Int×(List α)→Option (Int×(List α) ⊕ (List α)):=fun a0 =>
 if (decide (a0.1 ≥ 0)) then ((Fb br a0.1 (aH b a) a a0.2).bind fun a1=>some (.inl ((aH a0.1 1),a1))) else (some (.inr a0.2))
def Hc {α:Type} (br:Br α) (a:Int):Int×(List α)→Option (Int×(List α) ⊕ (List α)):=fun a0 =>
 if (decide (a0.1 ≥ 0)) then ((idx a0.2 (aF a a0.1)).bind fun a1=>(idx a0.2 a).bind fun a3=>(idx a0.2 a).bind fun a4=>(idx (List.set a0.2 (Int.toNat a) a1) (aF a a0.1)).bind fun a5=>(Fb br 0 a0.1 a (List.set (List.set a0.2 (Int.toNat a) a1) (Int.toNat (aF a a0.1)) a3)).bind fun a2=>some (.inl ((aH a0.1 1),a2))) else (some (.inr a0.2))
def Md {α:Type} (br:Br α) (a:Int) (b:Int) (h0:(List α)):Option ((List α)):=
 (aL (Hb br a b) ((jT (aH (aH b a) 1) 2),h0)).bind fun a1=>(aL (Hc br a) ((aH (aH b a) 1),a1)).bind fun a0=>some a0
def uU {α:Type} (br:Br α) (a:Int) (a0:Int×Int×(List α)):Int→Option (Int×Int×(List α) ⊕ (List α)):=fun a1 =>
 (idx a0.2.2 (aF a a1)).bind fun a2=>(idx a0.2.2 a0.1).bind fun a3=>(idx a0.2.2 a0.1).bind fun a4=>(idx (List.set a0.2.2 (Int.toNat a0.1) a2) (aF a a1)).bind fun a5=>some (.inl ((aF a0.1 1),(eT .u64 (eT .u64 (eT .u64 a0.2.1 (IntKind.wrap .u64 (a0.2.1*2^(min (Int.toNat 13) 64)))) (Int.fdiv (eT .u64 a0.2.1 (IntKind.wrap .u64 (a0.2.1*2^(min (Int.toNat 13) 64)))) (2^(min (Int.toNat 7) 64)))) (IntKind.wrap .u64 ((eT .u64 (eT .u64 a0.2.1 (IntKind.wrap .u64 (a0.2.1*2^(min (Int.toNat 13) 64)))) (Int.fdiv (eT .u64 a0.2.1 (IntKind.wrap .u64 (a0.2.1*2^(min (Int.toNat 13) 64)))) (2^(min (Int.toNat 7) 64))))*2^(min (Int.toNat 17) 64)))),(List.set (List.set a0.2.2 (Int.toNat a0.1) a2) (Int.toNat (aF a a1)) a3)))
def zR {α:Type} (br:Br α) (a:Int) (b:Int) (r2:Int):Int×Int×(List α)→Option (Int×Int×(List α) ⊕ (List α)):=fun a0 =>
 if (decide (a0.1≤(aF (aF a (cK (jT (aH b a) 4) 2)) 1))) then ((Jy a0.2.1).bind fun a1=>if (decide ((IntKind.wrap .i64 (Gj .u64 a1 (IntKind.wrap .u64 (r2-1)))) ≥ (aH b a))) then (uU br a a0 (aH (IntKind.wrap .i64 (Gj .u64 a1 (IntKind.wrap .u64 (r2-1)))) (aH b a))) else (uU br a a0 (IntKind.wrap .i64 (Gj .u64 a1 (IntKind.wrap .u64 (r2-1)))))) else (some (.inr a0.2.2))
def Dn {α:Type} (br:Br α) (a:Int) (b:Int) (h0:(List α)):Option ((List α)):=
 if (decide ((aH b a) ≥ 8)) then ((Cp (aH b a)).bind fun r2=>(aL (zR br a b r2) ((aH (aF a (cK (jT (aH b a) 4) 2)) 1),(IntKind.wrap .u64 (aH b a)),h0)).bind fun a0=>some a0) else (some h0)
def Jx {α:Type} (br:Br α) (data:(List α)) (a:Int) (b:Int) (h0_0:Int):Option (Int×Int×Int):=
 (idx data b).bind fun a1=>(idx data a).bind fun a2=>br _ a1 a2 fun a0=>if a0 then (some (b,a,(aF h0_0 1))) else (some (a,b,h0_0))
def Ng {α:Type} (br:Br α) (data:(List α)) (a:Int) (b:Int) (c:Int) (h0_0:Int):Option (Int×Int):=
 (Jx br data a b h0_0).bind fun r2=>(Jx br data r2.2.1 c r2.2.2).bind fun r4=>(Jx br data r2.1 r4.1 r4.2.2).bind fun r6=>some (r6.2.1,r6.2.2)
def tD {α:Type} (br:Br α) (data:(List α)) (a:Int) (h0_0:Int):Option (Int×Int):=
 (Ng br data (aH a 1) a (aF a 1) h0_0).bind fun r2=>some (r2.1,r2.2)
def xO {α:Type} (br:Br α):(Int×Int)→Option (Int×Int):=fun a0 =>
 if (a0.2==0) then (some (a0.1,1)) else (if (a0.2==12) then (some (a0.1,2)) else (some (a0.1,0)))
def xP {α:Type} (br:Br α) (data:(List α)):(Int×Int×Int×Int)→Option (Int×Int):=fun a0 =>
 (Ng br data a0.1 a0.2.1 a0.2.2.1 a0.2.2.2).bind fun a1=>xO br (a1.1,a1.2)
def Ha {α:Type} (br:Br α) (data:(List α)) (a:Int) (b:Int):Option (Int×Int):=
 if (decide ((aH b a) ≥ 8)) then (if (decide ((aH b a) ≥ 50)) then ((tD br data (aF a (cK (jT (aH b a) 4) 1)) 0).bind fun a0=>(tD br data (aF a (cK (jT (aH b a) 4) 2)) a0.2).bind fun a1=>(tD br data (aF a (cK (jT (aH b a) 4) 3)) a1.2).bind fun a2=>xP br data (a0.1,a1.1,a2.1,a2.2)) else (xP br data ((aF a (cK (jT (aH b a) 4) 1)),(aF a (cK (jT (aH b a) 4) 2)),(aF a (cK (jT (aH b a) 4) 3)),0))) else (xO br ((aF a (cK (jT (aH b a) 4) 2)),0))
def Bm {α:Type} (br:Br α):Int×Int×(List α)→Option (Int×Int×(List α) ⊕ (List α)):=fun a0 =>
 if (decide (a0.1<a0.2.1)) then ((idx a0.2.2 a0.2.1).bind fun a1=>(idx a0.2.2 a0.1).bind fun a2=>(idx a0.2.2 a0.1).bind fun a3=>(idx (List.set a0.2.2 (Int.toNat a0.1) a1) a0.2.1).bind fun a4=>some (.inl ((aF a0.1 1),(aH a0.2.1 1),(List.set (List.set a0.2.2 (Int.toNat a0.1) a1) (Int.toNat a0.2.1) a2)))) else (some (.inr a0.2.2))
def Fs {α:Type} (br:Br α) (a:Int) (b:Int) (h0:(List α)):Option ((List α)):=
 (aL (Bm br) (a,(aH b 1),h0)).bind fun a0=>some a0
def rO {α:Type} (br:Br α) (a1:Int×Int×(List α)):Int×(List α)→Option (Int×Int×(List α) ⊕ (Bool×(List α) ⊕ (List α))):=fun a0 =>
 some (.inl (a0.1,(aF a1.2.1 1),a0.2))
def lH {α:Type} (br:Br α) (b:Int) (a1:Int×Int×(List α)):Int→Option (Int ⊕ Int):=fun a0 =>
 (if (decide (a0<b)) then ((idx a1.2.2 a0).bind fun a4=>(idx a1.2.2 (aH a0 1)).bind fun a5=>br _ a4 a5 fun a3=>some (!a3)) else (some false)).bind fun a2=>if a2 then (some (.inl (aF a0 1))) else (some (.inr a0))
def lI {α:Type} (br:Br α) (b:Int):Int×(List α)→Option (Int×(List α) ⊕ (List α)):=fun a0 =>
 if (decide (a0.1<b)) then ((idx a0.2 a0.1).bind fun a3=>(idx a0.2 (aH a0.1 1)).bind fun a4=>br _ a3 a4 fun a2=>if (!a2) then (some (.inr a0.2)) else ((idx a0.2 (aH a0.1 1)).bind fun a1=>(idx a0.2 a0.1).bind fun a5=>(idx a0.2 a0.1).bind fun a6=>(idx (List.set a0.2 (Int.toNat a0.1) a1) (aH a0.1 1)).bind fun a7=>some (.inl ((aF a0.1 1),(List.set (List.set a0.2 (Int.toNat a0.1) a1) (Int.toNat (aH a0.1 1)) a5))))) else (some (.inr a0.2))
def lG {α:Type} (br:Br α) (b:Int) (a2:Int×Int×(List α)) (a0:Int):(List α)→Option (Int×Int×(List α) ⊕ (Bool×(List α) ⊕ (List α))):=fun a1 =>
 if (decide ((aH b a0) ≥ 2)) then ((aL (lI br b) ((aF a0 1),a1)).bind fun a3=>rO br a2 (a0,a3)) else (rO br a2 (a0,a1))
def lJ {α:Type} (br:Br α):Int×(List α)→Option (Int×(List α) ⊕ (List α)):=fun a0 =>
 if (decide (a0.1 ≥ 1)) then ((idx a0.2 a0.1).bind fun a3=>(idx a0.2 (aH a0.1 1)).bind fun a4=>br _ a3 a4 fun a2=>if (!a2) then (some (.inr a0.2)) else ((idx a0.2 (aH a0.1 1)).bind fun a1=>(idx a0.2 a0.1).bind fun a5=>(idx a0.2 a0.1).bind fun a6=>(idx (List.set a0.2 (Int.toNat a0.1) a1) (aH a0.1 1)).bind fun a7=>some (.inl ((aH a0.1 1),(List.set (List.set a0.2 (Int.toNat a0.1) a1) (Int.toNat (aH a0.1 1)) a5))))) else (some (.inr a0.2))
def rP {α:Type} (br:Br α) (a:Int) (b:Int):Int×Int×(List α)→Option (Int×Int×(List α) ⊕ (Bool×(List α) ⊕ (List α))):=fun a0 =>
 if (decide (a0.2.1<5)) then ((aL (lH br b a0) a0.1).bind fun a1=>if (a1==b) then (some (.inr (.inl (true,a0.2.2)))) else (if (decide ((aH b a)<50)) then (some (.inr (.inl (false,a0.2.2)))) else ((idx a0.2.2 (aH a1 1)).bind fun a2=>(idx a0.2.2 a1).bind fun a3=>(idx a0.2.2 a1).bind fun a5=>(idx (List.set a0.2.2 (Int.toNat a1) a2) (aH a1 1)).bind fun a6=>if (decide ((aH a1 a) ≥ 2)) then ((aL (lJ br) ((aH a1 1),(List.set (List.set a0.2.2 (Int.toNat a1) a2) (Int.toNat (aH a1 1)) a3))).bind fun a4=>lG br b a0 a1 a4) else (lG br b a0 a1 (List.set (List.set a0.2.2 (Int.toNat a1) a2) (Int.toNat (aH a1 1)) a3))))) else (some (.inr (.inr a0.2.2)))
def vG {α:Type} (br:Br α) (a:Int) (b:Int) (h0:(List α)):Option (Bool×(List α)):=
 (aL (rP br a b) ((aF a 1),0,h0)).bind fun a2=>match a2 with | .inl a0=>some (a0.1,a0.2) | .inr a1=>some (false,a1)
def tE {α:Type} (br:Br α) (a:Int) (a1:Int×Int×(List α)):Int→Option (Int ⊕ Int):=fun a0 =>
 (if (decide (a0≤a1.2.1)) then ((idx a1.2.2 a).bind fun a4=>(idx a1.2.2 a0).bind fun a5=>br _ a4 a5 fun a3=>some (!a3)) else (some false)).bind fun a2=>if a2 then (some (.inl (aF a0 1))) else (some (.inr a0))
def tF {α:Type} (br:Br α) (a:Int) (a1:Int×Int×(List α)) (a4:Int):Int→Option (Int ⊕ Int):=fun a0 =>
 (if (decide (a4≤a0)) then ((idx a1.2.2 a).bind fun a5=>(idx a1.2.2 a0).bind fun a6=>br _ a5 a6 fun a3=>some a3) else (some false)).bind fun a2=>if a2 then (some (.inl (aH a0 1))) else (some (.inr a0))
def xX {α:Type} (br:Br α) (a:Int):Int×Int×(List α)→Option (Int×Int×(List α) ⊕ Int×(List α)):=fun a0 =>
 (aL (tE br a a0) a0.1).bind fun a1=>(aL (tF br a a0 a1) a0.2.1).bind fun a2=>if (decide (a1>a2)) then (some (.inr (a1,a0.2.2))) else ((idx a0.2.2 a2).bind fun a3=>(idx a0.2.2 a1).bind fun a4=>(idx a0.2.2 a1).bind fun a5=>(idx (List.set a0.2.2 (Int.toNat a1) a3) a2).bind fun a6=>some (.inl ((aF a1 1),(aH a2 1),(List.set (List.set a0.2.2 (Int.toNat a1) a3) (Int.toNat a2) a4))))
def Cq {α:Type} (br:Br α) (a:Int) (b:Int) (pivot:Int) (h0:(List α)):Option (Int×(List α)):=
 (idx h0 pivot).bind fun x9=>(idx h0 a).bind fun a1=>(idx h0 a).bind fun a2=>(idx (List.set h0 (Int.toNat a) x9) pivot).bind fun a3=>(aL (xX br a) ((aF a 1),(aH b 1),(List.set (List.set h0 (Int.toNat a) x9) (Int.toNat pivot) a1))).bind fun a0=>some (a0.1,a0.2)
def Be {α:Type} (br:Br α) (a:Int) (b:Int) (pivot:Int) (h0:(List α)) (x9:α) (a5:α):Int→Option (Int ⊕ Int):=fun a0 =>
 (if (decide (a0≤(aH b 1))) then ((idx (List.set (List.set h0 (Int.toNat a) x9) (Int.toNat pivot) a5) a0).bind fun a3=>(idx (List.set (List.set h0 (Int.toNat a) x9) (Int.toNat pivot) a5) a).bind fun a4=>br _ a3 a4 fun a2=>some a2) else (some false)).bind fun a1=>if a1 then (some (.inl (aF a0 1))) else (some (.inr a0))
def Bf {α:Type} (br:Br α) (a:Int) (pivot:Int) (h0:(List α)) (x9:α) (a6:α) (a3:Int):Int→Option (Int ⊕ Int):=fun a0 =>
 (if (decide (a3≤a0)) then ((idx (List.set (List.set h0 (Int.toNat a) x9) (Int.toNat pivot) a6) a0).bind fun a4=>(idx (List.set (List.set h0 (Int.toNat a) x9) (Int.toNat pivot) a6) a).bind fun a5=>br _ a4 a5 fun a2=>some (!a2)) else (some false)).bind fun a1=>if a1 then (some (.inl (aH a0 1))) else (some (.inr a0))
def Bg {α:Type} (br:Br α) (a:Int) (a1:Int×Int×(List α)):Int→Option (Int ⊕ Int):=fun a0 =>
 (if (decide (a0≤a1.2.1)) then ((idx a1.2.2 a0).bind fun a4=>(idx a1.2.2 a).bind fun a5=>br _ a4 a5 fun a3=>some a3) else (some false)).bind fun a2=>if a2 then (some (.inl (aF a0 1))) else (some (.inr a0))
def Bh {α:Type} (br:Br α) (a:Int) (a1:Int×Int×(List α)) (a4:Int):Int→Option (Int ⊕ Int):=fun a0 =>
 (if (decide (a4≤a0)) then ((idx a1.2.2 a0).bind fun a5=>(idx a1.2.2 a).bind fun a6=>br _ a5 a6 fun a3=>some (!a3)) else (some false)).bind fun a2=>if a2 then (some (.inl (aH a0 1))) else (some (.inr a0))
def Bi {α:Type} (br:Br α) (a:Int):Int×Int×(List α)→Option (Int×Int×(List α) ⊕ Int×(List α)):=fun a0 =>
 (aL (Bg br a a0) a0.1).bind fun a1=>(aL (Bh br a a0 a1) a0.2.1).bind fun a2=>if (decide (a1>a2)) then (some (.inr (a2,a0.2.2))) else ((idx a0.2.2 a2).bind fun a3=>(idx a0.2.2 a1).bind fun a4=>(idx a0.2.2 a1).bind fun a5=>(idx (List.set a0.2.2 (Int.toNat a1) a3) a2).bind fun a6=>some (.inl ((aF a1 1),(aH a2 1),(List.set (List.set a0.2.2 (Int.toNat a1) a3) (Int.toNat a2) a4))))
def Gh {α:Type} (br:Br α) (a:Int) (b:Int) (pivot:Int) (h0:(List α)):Option (Int×Bool×(List α)):=
 (idx h0 pivot).bind fun x9=>(idx h0 a).bind fun a3=>(idx h0 a).bind fun b6=>(idx (List.set h0 (Int.toNat a) x9) pivot).bind fun b7=>(aL (Be br a b pivot h0 x9 a3) (aF a 1)).bind fun a2=>(aL (Bf br a pivot h0 x9 a3 a2) (aH b 1)).bind fun a1=>if (decide (a2>a1)) then ((idx (List.set (List.set h0 (Int.toNat a) x9) (Int.toNat pivot) a3) a).bind fun a6=>(idx (List.set (List.set h0 (Int.toNat a) x9) (Int.toNat pivot) a3) a1).bind fun a8=>(idx (List.set (List.set h0 (Int.toNat a) x9) (Int.toNat pivot) a3) a1).bind fun b2=>(idx (List.set (List.set (List.set h0 (Int.toNat a) x9) (Int.toNat pivot) a3) (Int.toNat a1) a6) a).bind fun b3=>some (a1,true,(List.set (List.set (List.set (List.set h0 (Int.toNat a) x9) (Int.toNat pivot) a3) (Int.toNat a1) a6) (Int.toNat a) a8))) else ((idx (List.set (List.set h0 (Int.toNat a) x9) (Int.toNat pivot) a3) a1).bind fun a7=>(idx (List.set (List.set h0 (Int.toNat a) x9) (Int.toNat pivot) a3) a2).bind fun a9=>(idx (List.set (List.set h0 (Int.toNat a) x9) (Int.toNat pivot) a3) a2).bind fun b4=>(idx (List.set (List.set (List.set h0 (Int.toNat a) x9) (Int.toNat pivot) a3) (Int.toNat a2) a7) a1).bind fun b5=>(aL (Bi br a) ((aF a2 1),(aH a1 1),(List.set (List.set (List.set (List.set h0 (Int.toNat a) x9) (Int.toNat pivot) a3) (Int.toNat a2) a7) (Int.toNat a1) a9))).bind fun a0=>(idx a0.2 a).bind fun a4=>(idx a0.2 a0.1).bind fun a5=>(idx a0.2 a0.1).bind fun b0=>(idx (List.set a0.2 (Int.toNat a0.1) a4) a).bind fun b1=>some (a0.1,false,(List.set (List.set a0.2 (Int.toNat a0.1) a4) (Int.toNat a) a5)))
def Ae {α:Type} (br:Br α) (self:Int→Int→Int→(List α)→Option ((List α))) (a1:Int×Int×Int×Bool×Bool×(List α)) (a3:Int×(List α)) (a4:Int×Int×(List α)):Bool×Bool×(List α)→Option (Int×Int×Int×Bool×Bool×(List α) ⊕ (List α)):=fun a2 =>
 (if (decide (a1.1>0)) then ((idx a2.2.2 (aH a1.1 1)).bind fun b0=>(idx a2.2.2 a4.1).bind fun b1=>br _ b0 b1 fun a7=>some (!a7)) else (some false)).bind fun a6=>if a6 then ((Cq br a1.1 a1.2.1 a4.1 a2.2.2).bind fun a5=>some (.inl (a5.1,a1.2.1,a3.1,a2.1,a2.2.1,a5.2))) else ((Gh br a1.1 a1.2.1 a4.1 a2.2.2).bind fun a0=>if (decide ((aH a0.1 a1.1)<(aH a1.2.1 a0.1))) then ((self a1.1 a0.1 a3.1 a0.2.2).bind fun a8=>some (.inl ((aF a0.1 1),a1.2.1,a3.1,(decide ((aH a0.1 a1.1) ≥ (jT (aH a1.2.1 a1.1) 8))),a0.2.1,a8))) else ((self (aF a0.1 1) a1.2.1 a3.1 a0.2.2).bind fun a9=>some (.inl (a1.1,a0.1,a3.1,(decide ((aH a1.2.1 a0.1) ≥ (jT (aH a1.2.1 a1.1) 8))),a0.2.1,a9))))
def Af {α:Type} (br:Br α) (self:Int→Int→Int→(List α)→Option ((List α))) (a3:Int×Int×Int×Bool×Bool×(List α)) (a4:Int×(List α)):Int×Int×(List α)→Option (Int×Int×Int×Bool×Bool×(List α) ⊕ (List α)):=fun a0 =>
 (if a3.2.2.2.1 then (if a3.2.2.2.2.1 then (some (true,true,(a0.2.1==1))) else (some (true,false,false))) else (some (false,a3.2.2.2.2.1,false))).bind fun a1=>if a1.2.2 then ((vG br a3.1 a3.2.1 a0.2.2).bind fun a2=>if a2.1 then (some (.inr a2.2)) else (Ae br self a3 a4 a0 (a1.1,a1.2.1,a2.2))) else (Ae br self a3 a4 a0 (a1.1,a1.2.1,a0.2.2))
def Ag {α:Type} (br:Br α) (self:Int→Int→Int→(List α)→Option ((List α))) (a2:Int×Int×Int×Bool×Bool×(List α)):Int×(List α)→Option (Int×Int×Int×Bool×Bool×(List α) ⊕ (List α)):=fun a0 =>
 (Ha br a0.2 a2.1 a2.2.1).bind fun a1=>if (a1.2==2) then ((Fs br a2.1 a2.2.1 a0.2).bind fun a3=>Af br self a2 a0 ((aH (aH a2.2.1 1) (aH a1.1 a2.1)),1,a3)) else (Af br self a2 a0 (a1.1,a1.2,a0.2))
def En {α:Type} (br:Br α) (self:Int→Int→Int→(List α)→Option ((List α))):Int×Int×Int×Bool×Bool×(List α)→Option (Int×Int×Int×Bool×Bool×(List α) ⊕ (List α)):=fun a0 =>
 if (decide ((aH a0.2.1 a0.1)≤12)) then ((Dp br a0.1 a0.2.1 a0.2.2.2.2.2).bind fun a1=>some (.inr a1)) else (if (a0.2.2.1==0) then ((Md br a0.1 a0.2.1 a0.2.2.2.2.2).bind fun a2=>some (.inr a2)) else (if (!a0.2.2.2.1) then ((Dn br a0.1 a0.2.1 a0.2.2.2.2.2).bind fun a3=>Ag br self a0 ((aH a0.2.2.1 1),a3)) else (Ag br self a0 (a0.2.2.1,a0.2.2.2.2.2))))
def wS {α:Type} (br:Br α) (self:Int→Int→Int→(List α)→Option ((List α))) (a:Int) (b:Int) (limit:Int) (h0:(List α)):Option ((List α)):=
 (aL (En br self) (a,b,limit,true,true,h0)).bind fun a0=>some a0
def tG {α:Type} (br:Br α):Nat→Int→Int→Int→(List α)→Option ((List α))
 | 0=>fun _ _ _ _=>none
 | n+1=>wS br (tG br n)
def Vl {α:Type} (br:Br α) (a:Int) (b:Int) (limit:Int) (h0:(List α)):Option ((List α)):=tG br 1000 a b limit h0
def Fa {α:Type} (br:Br α) (h0:(List α)):Option ((List α)):=
 (Ir (IntKind.wrap .u64 (h0.length:Int))).bind fun r3=>(Vl br 0 (h0.length:Int) r3 h0).bind fun r4=>some r4
structure Iw {α:Type} (P:α→Prop) (d:α) (l:List α):Prop where
 len:(l.length:Int)≤1073741824
 all:∀ k:Int,0≤k→k<l.length→P (gz d l k)
theorem Iw.on {α:Type} {P:α→Prop} {d:α} {a b:Int} {l l':List α} (h:Iw P d l) (ho:On d a b l l'):Iw P d l':=by
 induction ho with
 | refl=>exact h
 | step ho i j hi hi' hj hj' ha hb ih =>
   refine ⟨by rw [Ww];exact ih.len,fun k h1 h2=>?_⟩
   rw [Ww] at h2
   rw [tH d (by omega) (by omega) h1 (by omega) (by omega)]
   split
   ·exact ih.all _ (by omega) (by omega)
   ·split
    ·exact ih.all _ (by omega) (by omega)
    ·exact ih.all _ h1 h2
section
variable {α:Type} {br:Br α} {lt:α→α→Bool} {P:α→Prop} {d:α} (hbr:∀ (β:Type) (x y:α) (k:Bool→Option β),P x→P y→br β x y k=k (lt x y)) (w:Rn lt)
include hbr w
theorem IW {a i:Int} {l0:List α} (ha:0≤a) (hi:a<i) (hil:i<l0.length) (hf0:Iw P d l0) (h0:Asc d lt a i l0) :
  ∃ l',aL (uV br a) (i,l0)=some l'∧On d a (i+1) l0 l'∧Asc d lt a (i+1) l':=by
 refine nW (fun s=>(s.1-a).toNat) (fun s=>a≤s.1∧s.1≤i∧On d a (i+1) l0 s.2∧∀ p q:Int,a≤p→p<q→q≤i→q≠s.1→lt (gz d s.2 q) (gz d s.2 p)=false)
  (fun l'=>On d a (i+1) l0 l'∧Asc d lt a (i+1) l') (uV br a) ?_ (i,l0) ⟨by omega,Int.le_refl _,.refl _,fun p q h1 h2 h3 h4=>h0 p q h1 h2 (by simp only at h4;omega)⟩
 rintro ⟨j,l⟩ ⟨h1,h2,hon,hI⟩
 simp only at h1 h2 hon hI ⊢
 have hf:=hf0.on hon
 have hl:=hon.len
 have hL:=hf.len
 unfold uV
 by_cases hja:j>a
 ·cases hc:lt (gz d l j) (gz d l (j-1)) with
  | true =>
    left
    refine ⟨(j-1,sw d l j (j-1)), ?_,⟨by simp only;omega,by simp only;omega,.step hon j (j-1) (by omega) (by omega) (by omega) (by omega) ha (by omega), ?_⟩,by simp only;omega⟩
    ·simp (disch:=first | omega | (simp only [List.length_set];omega) | (refine hf.all _ ?_ ?_ <;> omega)) only [hja,decide_true,if_true,bE,jG d,Option.bind_some,hbr,hc]
     rfl
    ·simp only
     intro p q p1 p2 p3 p4
     rw [tH d (by omega) (by omega) (by omega) (by omega) (by omega),tH d (by omega) (by omega) (by omega) (by omega) (by omega)]
     rw [if_neg p4]
     by_cases e1:q=j
     ·rw [if_pos e1]
      by_cases e2:p=j-1
      ·rw [if_pos e2];exact w.asymm _ _ hc
      ·rw [if_neg e2,if_neg (by omega)]
       exact hI p (j-1) (by omega) (by omega) (by omega) (by omega)
     ·rw [if_neg e1]
      by_cases e2:p=j-1
      ·rw [if_pos e2];exact hI j q (by omega) (by omega) p3 e1
      ·rw [if_neg e2]
       by_cases e3:p=j
       ·rw [if_pos e3];exact hI (j-1) q (by omega) (by omega) p3 e1
       ·rw [if_neg e3];exact hI p q p1 p2 p3 e1
  | false =>
    right
    refine ⟨l, ?_,hon, ?_⟩
    ·simp (disch:=first | omega | (simp only [List.length_set];omega) | (refine hf.all _ ?_ ?_ <;> omega)) only [hja,decide_true,if_true,bE,jG d,Option.bind_some,hbr,hc,Bool.false_eq_true,if_false]
    ·intro p q p1 p2 p3
     by_cases e1:q=j
     ·subst e1
      by_cases e2:p=q-1
      ·subst e2;exact hc
      ·exact w.le_trans (hI p (q-1) p1 (by omega) (by omega) (by omega)) hc
     ·exact hI p q p1 p2 (by omega) e1
 ·right
  refine ⟨l, ?_,hon, ?_⟩
  ·simp only [hja,decide_false,Bool.false_eq_true,if_false,Option.bind_some]
  ·intro p q p1 p2 p3
   exact hI p q p1 p2 (by omega) (by omega)
theorem Rs {a b:Int} {l0:List α} (ha:0≤a) (hab:a≤b) (hb:b≤l0.length) (hf0:Iw P d l0) :
  ∃ l',Dp br a b l0=some l'∧On d a b l0 l'∧Asc d lt a b l':=by
 have hL:=hf0.len
 obtain ⟨l',h1,h2,h3⟩:=nW (fun s=>(b-s.1).toNat) (fun s=>a<s.1∧On d a b l0 s.2∧Asc d lt a (min s.1 b) s.2)
  (fun l'=>On d a b l0 l'∧Asc d lt a b l') (zW br a b) (by
   rintro ⟨i,l⟩ ⟨h1,hon,hI⟩
   simp only at h1 hon hI ⊢
   have hf:=hf0.on hon
   have hl:=hon.len
   unfold zW
   by_cases hib:i<b
   ·left
    obtain ⟨l',q1,q2,q3⟩:=IW hbr w ha h1 (by omega) hf (by rwa [Int.min_eq_left (by omega)] at hI)
    refine ⟨(i+1,l'), ?_,⟨by simp only;omega,hon.trans d (q2.mono d ha (Int.le_refl _) (by omega) (by omega)), ?_⟩,by simp only;omega⟩
    ·simp (disch:=omega) only [hib,decide_true,if_true,q1,Option.bind_some,aP]
    ·simp only
     rw [Int.min_eq_left (by omega)];exact q3
   ·right
    refine ⟨l, ?_,hon, ?_⟩
    ·simp only [hib,decide_false,Bool.false_eq_true,if_false]
    ·rwa [Int.min_eq_right (by omega)] at hI) (a+1,l0) ⟨by simp only;omega,.refl _,fun p q p1 p2 p3=>by simp only at p3;omega⟩
 refine ⟨l', ?_,h2,h3⟩
 unfold Dp
 simp (disch:=omega) only [aP,h1,Option.bind_some]
end
def Ob {α:Type} (d:α) (lt:α→α→Bool) (first lo hi:Int) (r:Int) (l:List α):Prop:=∀ p c:Int,lo≤p→p≠r→c<hi→(c=2*p+1∨c=2*p+2)→lt (gz d l (first+p)) (gz d l (first+c))=false
section
variable {α:Type} {br:Br α} {lt:α→α→Bool} {P:α→Prop} {d:α} (hbr:∀ (β:Type) (x y:α) (k:Bool→Option β),P x→P y→br β x y k=k (lt x y)) (w:Rn lt)
include w
theorem MH {first hi:Int} {l:List α} (h:Ob d lt first 0 hi (-1) l):∀ n:Nat,∀ c:Int,0≤c→c≤n→c<hi→lt (gz d l first) (gz d l (first+c))=false:=by
 intro n
 induction n with
 | zero => intro c h1 h2 h3;obtain rfl:c = 0 := by omega
           rw [Int.add_zero];exact w.irrefl _
 | succ n ih =>
   intro c h1 h2 h3
   by_cases e:c=0
   ·subst e;rw [Int.add_zero];exact w.irrefl _
   ·have e1:=ih ((c-1) / 2) (by omega) (by omega) (by omega)
    have e2:=h ((c-1) / 2) c (by omega) (by omega) h3 (by omega)
    exact w.le_trans e2 e1
include hbr
theorem Sz {first lo hi:Int} {l0:List α} (h1:0≤first) (h2:0≤lo) (h3:first+hi≤l0.length) (hf0:Iw P d l0) (h0:Ob d lt first lo hi lo l0) (hlo:lo≤l0.length) :
  ∃ l',Fb br lo hi first l0=some l'∧On d (first+lo) (first+hi) l0 l'∧Ob d lt first lo hi (-1) l':=by
 have hL:=hf0.len
 obtain ⟨r,q1,q2⟩:=nW (fun s:Int×List α=>(hi-s.1).toNat)
  (fun s:Int×List α=>lo≤s.1∧s.1≤(l0.length:Int)∧On d (first+lo) (first+hi) l0 s.2∧Ob d lt first lo hi s.1 s.2∧∀ p c:Int,lo≤p→(s.1=2*p+1∨s.1=2*p+2)→(c=2*s.1+1∨c=2*s.1+2)→c<hi→lt (gz d s.2 (first+p)) (gz d s.2 (first+c))=false)
  (fun r:List α ⊕ List α=>∃ l',(r=.inl l'∨r=.inr l')∧On d (first+lo) (first+hi) l0 l'∧Ob d lt first lo hi (-1) l') (Hd br hi first) (by
   rintro ⟨r,l⟩ ⟨i1,i2,hon,hI,hG⟩
   simp only at i1 i2 hon hI hG ⊢
   have hf:=hf0.on hon
   have hl:=hon.len
   unfold Hd
   have e1:aF (cK 2 r) 1=2*r+1:=by rw [tJ (by omega) (by omega),aP (by omega) (by omega)]
   simp only [e1]
   by_cases hc:2*r+1 ≥ hi
   ·right
    refine ⟨.inl l,by simp only [hc,decide_true,if_true],l,.inl rfl,hon,fun p c p1 p2 p3 p4=>?_⟩
    by_cases e:p=r
    ·omega
    ·exact hI p c p1 e p3 p4
   ·-- the greater child
    have key:∀ ch:Int,(ch=2*r+1∨ch=2*r+2)→ch<hi→(∀ c:Int,(c=2*r+1∨c=2*r+2)→c<hi→lt (gz d l (first+ch)) (gz d l (first+c))=false) →
      (∃ s',xY br first (r,l) ch=some (.inl s')∧(lo≤s'.1∧s'.1≤l0.length∧On d (first+lo) (first+hi) l0 s'.2∧Ob d lt first lo hi s'.1 s'.2∧∀ p c:Int,lo≤p→(s'.1=2*p+1∨s'.1=2*p+2)→(c=2*s'.1+1∨c=2*s'.1+2)→c<hi→lt (gz d s'.2 (first+p)) (gz d s'.2 (first+c))=false)∧(hi-s'.1).toNat<(hi-r).toNat) ∨
      (∃ x,xY br first (r,l) ch=some (.inr x)∧∃ l',(x=.inl l'∨x=.inr l')∧On d (first+lo) (first+hi) l0 l'∧Ob d lt first lo hi (-1) l'):=by
     intro ch c1 c2 c3
     have a1:aF first r=first+r:=aP (by omega) (by omega)
     have a2:aF first ch=first+ch:=aP (by omega) (by omega)
     unfold xY
     cases hlt:lt (gz d l (first+r)) (gz d l (first+ch)) with
     | false =>
       right
       refine ⟨.inr l, ?_,l,.inr rfl,hon,fun p c p1 p2 p3 p4=>?_⟩
       ·simp (disch:=first | omega | (simp only [List.length_set];omega) | (refine hf.all _ ?_ ?_ <;> omega)) only [a1,a2,jG d,Option.bind_some,hbr,hlt,Bool.not_false,if_true]
       ·by_cases e:p=r
        ·subst e;exact w.le_trans (c3 c p4 p3) hlt
        ·exact hI p c p1 e p3 p4
     | true =>
       left
       refine ⟨(ch,sw d l (first+r) (first+ch)), ?_,⟨by simp only;omega,by simp only;omega,.step hon _ _ (by omega) (by omega) (by omega) (by omega) (by omega) (by omega), ?_, ?_⟩,by simp only;omega⟩
       ·simp (disch:=first | omega | (simp only [List.length_set];omega) | (refine hf.all _ ?_ ?_ <;> omega)) only [a1,a2,jG d,Option.bind_some,hbr,hlt,Bool.not_true,Bool.false_eq_true,if_false]
        rfl
       ·intro p c p1 p2 p3 p4
        simp only at p2 ⊢
        rw [tH d (by omega) (by omega) (by omega) (by omega) (by omega),tH d (by omega) (by omega) (by omega) (by omega) (by omega)]
        by_cases e1:p=r
        ·rw [if_neg (by omega),if_pos (by omega)]
         by_cases e2:c=ch
         ·rw [if_pos (by omega)];exact w.asymm _ _ hlt
         ·rw [if_neg (by omega),if_neg (by omega)];exact c3 c (by omega) p3
        ·rw [if_neg (by omega),if_neg (by omega)]
         by_cases e2:c=r
         ·rw [if_neg (by omega),if_pos (by omega)];exact hG p ch p1 (by omega) c1 c2
         ·rw [if_neg (by omega),if_neg (by omega)];exact hI p c p1 e1 p3 p4
       ·intro p c p1 p2 p3 p4
        simp only at p2 p3
        simp only
        obtain rfl:p=r:=by omega
        rw [tH d (by omega) (by omega) (by omega) (by omega) (by omega),tH d (by omega) (by omega) (by omega) (by omega) (by omega)]
        rw [if_neg (by omega),if_pos rfl,if_neg (by omega),if_neg (by omega)]
        exact hI ch c (by omega) (by omega) p4 p3
    have b1:aF first (2*r+1)=first+(2*r+1):=aP (by omega) (by omega)
    have b2:aF (first+(2*r+1)) 1=first+(2*r+2):=by rw [aP (by omega) (by omega)];omega
    have b3:aF (2*r+1) 1=2*r+2:=by rw [aP (by omega) (by omega)];omega
    simp only [hc,decide_false,Bool.false_eq_true,if_false,b1,b2,b3]
    by_cases h2c:2*r+2<hi
    ·cases hcc:lt (gz d l (first+(2*r+1))) (gz d l (first+(2*r+2))) with
     | true =>
       simp (disch:=first | omega | (refine hf.all _ ?_ ?_ <;> omega)) only [h2c,decide_true,if_true,jG d,Option.bind_some,hbr,hcc]
       refine key (2*r+2) (.inr rfl) h2c fun c p1 p2=>?_
       rcases p1 with rfl | rfl
       ·exact w.asymm _ _ hcc
       ·exact w.irrefl _
     | false =>
       simp (disch:=first | omega | (refine hf.all _ ?_ ?_ <;> omega)) only [h2c,decide_true,if_true,jG d,Option.bind_some,hbr,hcc,Bool.false_eq_true,if_false]
       refine key (2*r+1) (.inl rfl) (by omega) fun c p1 p2=>?_
       rcases p1 with rfl | rfl
       ·exact w.irrefl _
       ·exact hcc
    ·simp only [h2c,decide_false,Bool.false_eq_true,if_false,Option.bind_some]
     refine key (2*r+1) (.inl rfl) (by omega) fun c p1 p2=>?_
     obtain rfl:c=2*r+1:=by omega
     exact w.irrefl _) (lo,l0) ⟨Int.le_refl _,hlo,.refl _,h0,fun p c p1 p2=>by simp only at p2;omega⟩
 obtain ⟨l',hr,q3,q4⟩:=q2
 refine ⟨l', ?_,q3,q4⟩
 unfold Fb
 rw [q1]
 rcases hr with rfl | rfl <;> rfl
theorem BP {a b:Int} {l0:List α} (ha:0≤a) (hab:a≤b) (hb:b≤l0.length) (hf0:Iw P d l0) :
  ∃ l',Md br a b l0=some l'∧On d a b l0 l'∧Asc d lt a b l':=by
 have hL:=hf0.len
 have s1:aH b a=b-a:=bE (by omega) (by omega)
 have s2:aH (b-a) 1=b-a-1:=bE (by omega) (by omega)
 have ht:0≤(b-a-1).tdiv 2∧(b-a-1).tdiv 2≤b-a∧b-a-1<2*(b-a-1).tdiv 2+2:=by
  by_cases h:0≤b-a-1
  ·rw [Int.tdiv_eq_ediv_of_nonneg h];omega
  ·rw [show b-a-1=-1 from by omega,show Int.tdiv (-1) 2=0 from rfl];omega
 have s3:jT (b-a-1) 2=(b-a-1).tdiv 2:=Lq _ (by omega) (by omega)
 obtain ⟨l1,q1,q2,q3⟩:=nW (fun s:Int×List α=>(s.1+1).toNat) (fun s:Int×List α=>-1≤s.1∧s.1≤b-a∧On d a b l0 s.2∧Ob d lt a (s.1+1) (b-a) (-1) s.2)
  (fun l'=>On d a b l0 l'∧Ob d lt a 0 (b-a) (-1) l') (Hb br a b) (by
   rintro ⟨i,l⟩ ⟨i1,i2,hon,hI⟩
   simp only at i1 i2 hon hI ⊢
   have hf:=hf0.on hon
   have hl:=hon.len
   unfold Hb
   by_cases hi:i ≥ 0
   ·left
    obtain ⟨l',p1,p2,p3⟩:=Sz hbr w (first:=a) (lo:=i) (hi:=b-a) ha hi (by omega) hf (fun p c c1 c2 c3 c4=>hI p c (by omega) (by omega) c3 c4) (by omega)
    refine ⟨(i-1,l'), ?_,⟨by simp only;omega,by simp only;omega,hon.trans d (p2.mono d ha (by omega) (by omega) (by omega)), ?_⟩,by simp only;omega⟩
    ·simp (disch:=omega) only [hi,decide_true,if_true,s1,p1,Option.bind_some,bE]
    ·simp only
     rw [show i-1+1=i from by omega];exact p3
   ·right
    refine ⟨l,by simp only [hi,decide_false,Bool.false_eq_true,if_false],hon, ?_⟩
    rwa [show i+1=0 from by omega] at hI) ((b-a-1).tdiv 2,l0) ⟨by simp only;omega,by simp only;omega,.refl _,fun p c p1 p2 p3 p4=>by simp only at p1;omega⟩
 have hl1:=q2.len
 obtain ⟨l2,r1,r2,r3⟩:=nW (fun s:Int×List α=>(s.1+1).toNat)
  (fun s:Int×List α=>-1≤s.1∧s.1<b-a∧On d a b l0 s.2∧Ob d lt a 0 (s.1+1) (-1) s.2∧∀ q:Int,s.1<q→q<b-a→∀ p:Int,0≤p→p<q→lt (gz d s.2 (a+q)) (gz d s.2 (a+p))=false)
  (fun l'=>On d a b l0 l'∧Asc d lt a b l') (Hc br a) (by
   rintro ⟨i,l⟩ ⟨i1,i2,hon,hH,hI⟩
   simp only at i1 i2 hon hH hI ⊢
   have hf:=hf0.on hon
   have hl:=hon.len
   unfold Hc
   by_cases hi:i ≥ 0
   ·left
    have hmax:=fun c h1 h2=>MH w hH i.toNat c h1 (by omega) h2
    have hsw:On d a (a+i+1) l (sw d l a (a+i)):=.step (.refl _) _ _ (Int.le_refl _) (by omega) (by omega) (by omega) ha (by omega)
    have hsl:(sw d l a (a+i)).length=l.length:=Ww ..
    obtain ⟨l',p1,p2,p3⟩:=Sz hbr w (first:=a) (lo:=0) (hi:=i) (l0:=sw d l a (a+i)) ha (Int.le_refl _) (by omega) (hf.on hsw) (fun p c c1 c2 c3 c4=>by
     rw [tH d (by omega) (by omega) (by omega) (by omega) (by omega),tH d (by omega) (by omega) (by omega) (by omega) (by omega)]
     rw [if_neg (by omega),if_neg (by omega),if_neg (by omega),if_neg (by omega)]
     exact hH p c c1 (by omega) (by omega) c4) (by omega)
    have hall:On d a (a+i+1) l l':=hsw.trans d (p2.mono d ha (by omega) (by omega) (by omega))
    have a1:aF a i=a+i:=aP (by omega) (by omega)
    refine ⟨(i-1,l'), ?_,⟨by simp only;omega,by simp only;omega,hon.trans d (hall.mono d ha (Int.le_refl _) (by omega) (by omega)), ?_, ?_⟩,by simp only;omega⟩
    ·have p1':Fb br 0 i a (List.set (List.set l (Int.toNat a) (gz d l (a+i))) (Int.toNat (a+i)) (gz d l a))=some l':=p1
     simp (disch:=first | omega | (simp only [List.length_set];omega)) only [hi,decide_true,if_true,a1,jG d,Option.bind_some,p1',bE]
    ·simp only
     rw [show i-1+1=i from by omega];exact p3
    ·simp only
     intro q c1 c2 p c3 c4
     by_cases e:q=i
     ·subst e
      have e1:gz d l' (a+q)=gz d l a:=by
       rw [p2.out d (by omega) (.inr (by omega)),tH d (by omega) (by omega) (by omega) (by omega) (by omega),if_pos rfl]
      rw [e1]
      refine p2.all d (fun x=>lt (gz d l a) x=false) (fun k k1 k2=>?_) (a+p) (by omega) (by omega)
      rw [tH d (by omega) (by omega) (by omega) (by omega) (by omega),if_neg (by omega)]
      split
      ·exact hmax q (by omega) (by omega)
      ·have:=hmax (k-a) (by omega) (by omega)
       rwa [show a+(k-a)=k from by omega] at this
     ·have e1:gz d l' (a+q)=gz d l (a+q):=hall.out d (by omega) (.inr (by omega))
      rw [e1]
      by_cases e2:p≤i
      ·refine hall.all d (fun x=>lt (gz d l (a+q)) x=false) (fun k k1 k2=>?_) (a+p) (by omega) (by omega)
       have:=hI q (by omega) c2 (k-a) (by omega) (by omega)
       rwa [show a+(k-a)=k from by omega] at this
      ·rw [hall.out d (k:=a+p) (by omega) (.inr (by omega))]
       exact hI q (by omega) c2 p c3 c4
   ·right
    refine ⟨l,by simp only [hi,decide_false,Bool.false_eq_true,if_false],hon,fun p q c1 c2 c3=>?_⟩
    have:=hI (q-a) (by omega) (by omega) (p-a) (by omega) (by omega)
    rwa [show a+(q-a)=q from by omega,show a+(p-a)=p from by omega] at this) (b-a-1,l1) ⟨by simp only;omega,by simp only;omega,q2,by simp only;rw [show b-a-1+1=b-a from by omega];exact q3,fun q c1 c2=>by simp only at c1;omega⟩
 refine ⟨l2, ?_,r2,r3⟩
 unfold Md
 simp only [s1,s2,s3,q1,Option.bind_some,r1]
end
theorem Uh {body:Int→Option (Int ⊕ Int)} (c:Int→Bool) {i j:Int} (hij:i≤j+1) (hs:∀ s,i≤s→s≤j→body s=if c s then some (.inl (s+1)) else some (.inr s)) (he:body (j+1)=some (.inr (j+1))) :
  ∃ x,aL body i=some x∧i≤x∧x≤j+1∧(∀ k,i≤k→k<x→c k=true)∧(x≤j→c x=false):=
 nW (fun s:Int=>(j+1-s).toNat) (fun s=>i≤s∧s≤j+1∧∀ k,i≤k→k<s→c k=true) (fun x=>i≤x∧x≤j+1∧(∀ k,i≤k→k<x→c k=true)∧(x≤j→c x=false)) body (by
  rintro s ⟨h1,h2,h3⟩
  by_cases h:s≤j
  ·cases hc:c s with
   | true =>
     left
     refine ⟨s+1,by rw [hs s h1 h,hc];rfl,⟨by omega,by omega,fun k k1 k2=>?_⟩,by omega⟩
     by_cases e:k=s
     ·subst e;exact hc
     ·exact h3 k k1 (by omega)
   | false =>
     right
     exact ⟨s,by rw [hs s h1 h,hc];rfl,h1,h2,h3,fun _=>hc⟩
  ·right
   obtain rfl:s=j+1:=by omega
   exact ⟨_,he,h1,h2,h3,fun q=>absurd q (by omega)⟩) i ⟨Int.le_refl _,hij,fun k k1 k2=>absurd k1 (by omega)⟩
theorem Sc {body:Int→Option (Int ⊕ Int)} (c:Int→Bool) {i j:Int} (hij:i≤j+1) (hs:∀ s,i≤s→s≤j→body s=if c s then some (.inl (s-1)) else some (.inr s)) (he:body (i-1)=some (.inr (i-1))) :
  ∃ x,aL body j=some x∧i-1≤x∧x≤j∧(∀ k,x<k→k≤j→c k=true)∧(i≤x→c x=false):=
 nW (fun s:Int=>(s+1-i).toNat) (fun s=>i-1≤s∧s≤j∧∀ k,s<k→k≤j→c k=true) (fun x=>i-1≤x∧x≤j∧(∀ k,x<k→k≤j→c k=true)∧(i≤x→c x=false)) body (by
  rintro s ⟨h1,h2,h3⟩
  by_cases h:i≤s
  ·cases hc:c s with
   | true =>
     left
     refine ⟨s-1,by rw [hs s h h2,hc];rfl,⟨by omega,by omega,fun k k1 k2=>?_⟩,by omega⟩
     by_cases e:k=s
     ·subst e;exact hc
     ·exact h3 k (by omega) k2
   | false =>
     right
     exact ⟨s,by rw [hs s h h2,hc];rfl,h1,h2,h3,fun _=>hc⟩
  ·right
   obtain rfl:s=i-1:=by omega
   exact ⟨_,he,h1,h2,h3,fun q=>absurd q (by omega)⟩) j ⟨by omega,Int.le_refl _,fun k k1 k2=>absurd k1 (by omega)⟩
section
variable {α:Type} {br:Br α} {lt:α→α→Bool} {P:α→Prop} {d:α} (hbr:∀ (β:Type) (x y:α) (k:Bool→Option β),P x→P y→br β x y k=k (lt x y)) (w:Rn lt)
include hbr
theorem Wl {a b:Int} {l0:List α} (ha:0≤a) (hab:a<b) (hb:b≤l0.length) (hf0:Iw P d l0) {i0 j0:Int} (h1:a+1≤i0) (h2:j0≤b-1) (h3:i0≤j0+1)
  (hlo:∀ k,a+1≤k→k<i0→lt (gz d l0 k) (gz d l0 a)=true) (hhi:∀ k,j0<k→k<b→lt (gz d l0 k) (gz d l0 a)=false) :
  ∃ r,aL (Bi br a) (i0,j0,l0)=some r∧On d (a+1) b l0 r.2∧gz d r.2 a=gz d l0 a∧a≤r.1∧r.1<b∧(∀ k,a+1≤k→k≤r.1→lt (gz d r.2 k) (gz d l0 a)=true)∧(∀ k,r.1<k→k<b→lt (gz d r.2 k) (gz d l0 a)=false):=by
 have hL:=hf0.len
 refine nW (fun s:Int×Int×List α=>(s.2.1+1-s.1).toNat) (fun s:Int×Int×List α=>a+1≤s.1∧s.2.1≤b-1∧s.1≤s.2.1+1∧On d (a+1) b l0 s.2.2∧gz d s.2.2 a=gz d l0 a ∧
  (∀ k,a+1≤k→k<s.1→lt (gz d s.2.2 k) (gz d l0 a)=true)∧(∀ k,s.2.1<k→k<b→lt (gz d s.2.2 k) (gz d l0 a)=false)) _ (Bi br a) ?_ (i0,j0,l0) ⟨h1,h2,h3,.refl _,rfl,hlo,hhi⟩
 rintro ⟨i,j,l⟩ ⟨i1,i2,i3,hon,hp,hI,hJ⟩
 simp only at i1 i2 i3 hon hp hI hJ ⊢
 have hf:=hf0.on hon
 have hl:=hon.len
 unfold Bi
 obtain ⟨x,x1,x2,x3,x4,x5⟩:=Uh (body:=Bg br a (i,j,l)) (fun k=>lt (gz d l k) (gz d l0 a)) i3 (fun s s1 s2=>by
  unfold Bg
  simp (disch:=first | omega | (refine hf.all _ ?_ ?_ <;> omega) | (refine hf0.all _ ?_ ?_ <;> omega)) only [s2,decide_true,if_true,jG d,Option.bind_some,hbr,hp,aP]) (by
  unfold Bg
  simp only [show ¬ j+1≤j from by omega,decide_false,Bool.false_eq_true,if_false,Option.bind_some])
 obtain ⟨y,y1,y2,y3,y4,y5⟩:=Sc (body:=Bh br a (i,j,l) x) (fun k=>!lt (gz d l k) (gz d l0 a)) x3 (fun s s1 s2=>by
  unfold Bh
  simp (disch:=first | omega | (refine hf.all _ ?_ ?_ <;> omega) | (refine hf0.all _ ?_ ?_ <;> omega)) only [s1,decide_true,if_true,jG d,Option.bind_some,hbr,hp,bE]) (by
  unfold Bh
  simp only [show ¬ x≤x-1 from by omega,decide_false,Bool.false_eq_true,if_false,Option.bind_some])
 simp only [x1,y1,Option.bind_some]
 by_cases hxy:x>y
 ·right
  refine ⟨(y,l),by simp only [hxy,decide_true,if_true],hon,hp,by simp only;omega,by simp only;omega,fun k k1 k2=>?_,fun k k1 k2=>?_⟩
  ·simp only at k2 ⊢
   by_cases e:k<i
   ·exact hI k k1 e
   ·exact x4 k (by omega) (by omega)
  ·simp only at k1 ⊢
   by_cases e:j<k
   ·exact hJ k e k2
   ·have:=y4 k (by omega) (by omega)
    simpa using this
 ·left
  have hx:=x5 (by omega)
  have hy:=y5 (by omega)
  simp only [Bool.not_eq_eq_eq_not,Bool.not_false] at hy
  have hne:x≠y:=fun e=>by subst e;rw [hx] at hy;cases hy
  refine ⟨(x+1,y-1,sw d l x y), ?_,⟨by simp only;omega,by simp only;omega,by simp only;omega,.step hon x y (by omega) (by omega) (by omega) (by omega) (by omega) (by omega), ?_,fun k k1 k2=>?_,fun k k1 k2=>?_⟩,by simp only;omega⟩
  ·simp (disch:=first | omega | (simp only [List.length_set];omega)) only [hxy,decide_false,Bool.false_eq_true,if_false,jG d,Option.bind_some,aP,bE]
   rfl
  ·simp only
   rw [tH d (by omega) (by omega) (by omega) (by omega) (by omega),if_neg (by omega),if_neg (by omega)];exact hp
  ·simp only at k2 ⊢
   rw [tH d (by omega) (by omega) (by omega) (by omega) (by omega),if_neg (by omega)]
   by_cases e:k=x
   ·rw [if_pos e];exact hy
   ·rw [if_neg e]
    by_cases e:k<i
    ·exact hI k k1 e
    ·exact x4 k (by omega) (by omega)
  ·simp only at k1 ⊢
   rw [tH d (by omega) (by omega) (by omega) (by omega) (by omega)]
   by_cases e:k=y
   ·rw [if_pos e];exact hx
   ·rw [if_neg e,if_neg (by omega)]
    by_cases e:j<k
    ·exact hJ k e k2
    ·have:=y4 k (by omega) (by omega)
     simpa using this
theorem Zu {a b pivot:Int} {l0:List α} (ha:0≤a) (hab:a<b) (hb:b≤l0.length) (hf0:Iw P d l0) (hp1:a≤pivot) (hp2:pivot<b) :
  ∃ mid al l',Gh br a b pivot l0=some (mid,al,l')∧On d a b l0 l'∧a≤mid∧mid<b∧(∀ k,a≤k→k<mid→lt (gz d l' k) (gz d l' mid)=true)∧(∀ k,mid<k→k<b→lt (gz d l' k) (gz d l' mid)=false):=by
 have hL:=hf0.len
 have hon1:On d a b l0 (sw d l0 a pivot):=.step (.refl _) _ _ (Int.le_refl _) hab hp1 hp2 ha hb
 obtain ⟨l1,hl1⟩:∃ l1,sw d l0 a pivot=l1:=⟨_,rfl⟩
 have e1:List.set (List.set l0 (Int.toNat a) (gz d l0 pivot)) (Int.toNat pivot) (gz d l0 a)=l1:=hl1
 rw [hl1] at hon1
 have hf:=hf0.on hon1
 have hl:=hon1.len
 have s1:aH b 1=b-1:=bE (by omega) (by omega)
 have s2:aF a 1=a+1:=aP (by omega) (by omega)
 unfold Gh
 simp (disch:=first | omega | (simp only [List.length_set];omega)) only [jG d (l:=l0),Option.bind_some]
 rw [show idx (l0.set a.toNat (gz d l0 pivot)) pivot=some (gz d (l0.set a.toNat (gz d l0 pivot)) pivot) from jG d (by omega) (by rw [List.length_set];omega),Option.bind_some,e1]
 obtain ⟨x,x1,x2,x3,x4,x5⟩:=Uh (body:=Be br a b pivot l0 (gz d l0 pivot) (gz d l0 a)) (fun k=>lt (gz d l1 k) (gz d l1 a)) (i:=a+1) (j:=b-1) (by omega) (fun s q1 q2=>by
  unfold Be
  simp (disch:=first | omega | (refine hf.all _ ?_ ?_ <;> omega)) only [e1,s1,q2,decide_true,if_true,jG d,Option.bind_some,hbr,aP]) (by
  unfold Be
  simp only [s1,show ¬ b-1+1≤b-1 from by omega,decide_false,Bool.false_eq_true,if_false,Option.bind_some])
 obtain ⟨y,y1,y2,y3,y4,y5⟩:=Sc (body:=Bf br a pivot l0 (gz d l0 pivot) (gz d l0 a) x) (fun k=>!lt (gz d l1 k) (gz d l1 a)) (i:=x) (j:=b-1) x3 (fun s q1 q2=>by
  unfold Bf
  simp (disch:=first | omega | (refine hf.all _ ?_ ?_ <;> omega)) only [e1,q1,decide_true,if_true,jG d,Option.bind_some,hbr,bE]) (by
  unfold Bf
  simp only [show ¬ x≤x-1 from by omega,decide_false,Bool.false_eq_true,if_false,Option.bind_some])
 have fin:∀ (m:Int) (l:List α),On d a b l0 l→a≤m→m<b→gz d l a=gz d l1 a→(∀ k,a+1≤k→k≤m→lt (gz d l k) (gz d l1 a)=true)→(∀ k,m<k→k<b→lt (gz d l k) (gz d l1 a)=false) →
   On d a b l0 (sw d l m a)∧(∀ k,a≤k→k<m→lt (gz d (sw d l m a) k) (gz d (sw d l m a) m)=true)∧(∀ k,m<k→k<b→lt (gz d (sw d l m a) k) (gz d (sw d l m a) m)=false):=by
  intro m l on m1 m2 hq hlo hhi
  have hl:=on.len
  have em:gz d (sw d l m a) m=gz d l1 a:=by
   rw [tH d (by omega) (by omega) (by omega) (by omega) (by omega)]
   by_cases e:m=a
   ·rw [if_pos e,e];exact hq
   ·rw [if_neg e,if_pos rfl];exact hq
  refine ⟨.step on m a (by omega) (by omega) (by omega) (by omega) ha (by omega),fun k k1 k2=>?_,fun k k1 k2=>?_⟩
  ·rw [em,tH d (by omega) (by omega) (by omega) (by omega) (by omega)]
   by_cases e:k=a
   ·rw [if_pos e];exact hlo m (by omega) (Int.le_refl _)
   ·rw [if_neg e,if_neg (by omega)];exact hlo k (by omega) (by omega)
  ·rw [em,tH d (by omega) (by omega) (by omega) (by omega) (by omega),if_neg (by omega),if_neg (by omega)]
   exact hhi k k1 k2
 simp only [s1,s2,x1,y1,Option.bind_some]
 by_cases hxy:x>y
 ·obtain ⟨f1,f2,f3⟩:=fin y l1 hon1 (by omega) (by omega) rfl (fun k k1 k2=>x4 k k1 (by omega)) (fun k k1 k2=>by
   have:=y4 k k1 (by omega)
   simpa using this)
  refine ⟨y,true,sw d l1 y a, ?_,f1,by omega,by omega,f2,f3⟩
  simp (disch:=first | omega | (simp only [List.length_set];omega)) only [hxy,decide_true,if_true,jG d,Option.bind_some]
  rfl
 ·have hx:=x5 (by omega)
  have hy:=y5 (by omega)
  simp only [Bool.not_eq_eq_eq_not,Bool.not_false] at hy
  have hne:x≠y:=fun e=>by subst e;rw [hx] at hy;cases hy
  have hon2:On d (a+1) b l1 (sw d l1 x y):=.step (.refl _) x y (by omega) (by omega) (by omega) (by omega) (by omega) (by omega)
  have hga:gz d (sw d l1 x y) a=gz d l1 a:=by rw [tH d (by omega) (by omega) (by omega) (by omega) (by omega),if_neg (by omega),if_neg (by omega)]
  have hl2:(sw d l1 x y).length=l1.length:=Ww ..
  obtain ⟨r,r1,r2,r3,r4,r5,r6,r7⟩:=Wl hbr (i0:=x+1) (j0:=y-1) ha hab (by omega) (hf.on hon2) (by omega) (by omega) (by omega) (fun k k1 k2=>by
   rw [hga,tH d (by omega) (by omega) (by omega) (by omega) (by omega),if_neg (by omega)]
   by_cases e:k=x
   ·rw [if_pos e];exact hy
   ·rw [if_neg e];exact x4 k k1 (by omega)) (fun k k1 k2=>by
   rw [hga,tH d (by omega) (by omega) (by omega) (by omega) (by omega)]
   by_cases e:k=y
   ·rw [if_pos e];exact hx
   ·rw [if_neg e,if_neg (by omega)]
    have:=y4 k (by omega) (by omega)
    simpa using this)
  rw [hga] at r3 r6 r7
  have hon3:=(hon2.trans d r2).mono d ha (by omega) (Int.le_refl _) (by omega)
  have hl3:=r2.len
  obtain ⟨f1,f2,f3⟩:=fin r.1 r.2 (hon1.trans d hon3) r4 r5 r3 r6 r7
  have e2:List.set (List.set l1 (Int.toNat x) (gz d l1 y)) (Int.toNat y) (gz d l1 x)=sw d l1 x y:=rfl
  refine ⟨r.1,false,sw d r.2 r.1 a, ?_,f1,r4,r5,f2,f3⟩
  simp (disch:=first | omega | (simp only [List.length_set];omega)) only [hxy,decide_false,Bool.false_eq_true,if_false,jG d,Option.bind_some,aP,bE,e2,r1]
  rfl
theorem Rb {a b pivot:Int} {l0:List α} (ha:0≤a) (hab:a<b) (hb:b≤l0.length) (hf0:Iw P d l0) (hp1:a≤pivot) (hp2:pivot<b) (hirr:∀ x,lt x x=false) :
  ∃ mid l',Cq br a b pivot l0=some (mid,l')∧On d a b l0 l'∧a<mid∧mid≤b∧(∀ k,a≤k→k<mid→lt (gz d l0 pivot) (gz d l' k)=false):=by
 have hL:=hf0.len
 have hon1:On d a b l0 (sw d l0 a pivot):=.step (.refl _) _ _ (Int.le_refl _) hab hp1 hp2 ha hb
 obtain ⟨l1,hl1⟩:∃ l1,sw d l0 a pivot=l1:=⟨_,rfl⟩
 have e1:List.set (List.set l0 (Int.toNat a) (gz d l0 pivot)) (Int.toNat pivot) (gz d l0 a)=l1:=hl1
 have hpa:gz d l1 a=gz d l0 pivot:=by
  rw [← hl1,tH d (by omega) (by omega) (by omega) (by omega) (by omega)]
  by_cases e:a=pivot
  ·rw [if_pos e,e]
  ·rw [if_neg e,if_pos rfl]
 rw [hl1] at hon1
 have hf1:=hf0.on hon1
 have hl1':=hon1.len
 have s1:aH b 1=b-1:=bE (by omega) (by omega)
 have s2:aF a 1=a+1:=aP (by omega) (by omega)
 obtain ⟨r,r1,r2,r3,r4,r5⟩:=nW (fun s:Int×Int×List α=>(s.2.1+1-s.1).toNat) (fun s:Int×Int×List α=>a+1≤s.1∧s.2.1≤b-1∧s.1≤s.2.1+1∧On d (a+1) b l1 s.2.2∧gz d s.2.2 a=gz d l1 a ∧
   (∀ k,a+1≤k→k<s.1→lt (gz d l1 a) (gz d s.2.2 k)=false)) (fun r:Int×List α=>On d a b l0 r.2∧a<r.1∧r.1≤b∧(∀ k,a≤k→k<r.1→lt (gz d l0 pivot) (gz d r.2 k)=false)) (xX br a) (by
  rintro ⟨i,j,l⟩ ⟨i1,i2,i3,hon,hp,hI⟩
  simp only at i1 i2 i3 hon hp hI ⊢
  have hf:=hf1.on hon
  have hl:=hon.len
  unfold xX
  obtain ⟨x,x1,x2,x3,x4,x5⟩:=Uh (body:=tE br a (i,j,l)) (fun k=>!lt (gz d l1 a) (gz d l k)) i3 (fun s s1 s2=>by
   unfold tE
   simp (disch:=first | omega | (refine hf.all _ ?_ ?_ <;> omega) | (refine hf1.all _ ?_ ?_ <;> omega)) only [s2,decide_true,if_true,jG d,Option.bind_some,hbr,hp,aP]) (by
   unfold tE
   simp only [show ¬ j+1≤j from by omega,decide_false,Bool.false_eq_true,if_false,Option.bind_some])
  obtain ⟨y,y1,y2,y3,y4,y5⟩:=Sc (body:=tF br a (i,j,l) x) (fun k=>lt (gz d l1 a) (gz d l k)) x3 (fun s s1 s2=>by
   unfold tF
   simp (disch:=first | omega | (refine hf.all _ ?_ ?_ <;> omega) | (refine hf1.all _ ?_ ?_ <;> omega)) only [s1,decide_true,if_true,jG d,Option.bind_some,hbr,hp,bE]) (by
   unfold tF
   simp only [show ¬ x≤x-1 from by omega,decide_false,Bool.false_eq_true,if_false,Option.bind_some])
  simp only [x1,y1,Option.bind_some]
  have below:∀ k,a+1≤k→k<x→lt (gz d l1 a) (gz d l k)=false:=fun k k1 k2=>by
   by_cases e:k<i
   ·exact hI k k1 e
   ·have:=x4 k (by omega) k2
    simpa using this
  by_cases hxy:x>y
  ·right
   refine ⟨(x,l),by simp only [hxy,decide_true,if_true],hon1.trans d (hon.mono d ha (by omega) (Int.le_refl _) (by omega)),by simp only;omega,by simp only;omega,fun k k1 k2=>?_⟩
   simp only at k2 ⊢
   rw [← hpa]
   by_cases e:k=a
   ·rw [e,hp];exact hirr _
   ·exact below k (by omega) k2
  ·left
   have hx:=x5 (by omega)
   have hy:=y5 (by omega)
   simp only [Bool.not_eq_eq_eq_not,Bool.not_false] at hx
   have hne:x≠y:=fun e=>by subst e;rw [hx] at hy;cases hy
   refine ⟨(x+1,y-1,sw d l x y), ?_,⟨by simp only;omega,by simp only;omega,by simp only;omega,.step hon x y (by omega) (by omega) (by omega) (by omega) (by omega) (by omega), ?_,fun k k1 k2=>?_⟩,by simp only;omega⟩
   ·simp (disch:=first | omega | (simp only [List.length_set];omega)) only [hxy,decide_false,Bool.false_eq_true,if_false,jG d,Option.bind_some,aP,bE]
    rfl
   ·simp only
    rw [tH d (by omega) (by omega) (by omega) (by omega) (by omega),if_neg (by omega),if_neg (by omega)];exact hp
   ·simp only at k2 ⊢
    rw [tH d (by omega) (by omega) (by omega) (by omega) (by omega),if_neg (by omega)]
    by_cases e:k=x
    ·rw [if_pos e];exact hy
    ·rw [if_neg e];exact below k k1 (by omega)) (a+1,b-1,l1) ⟨by simp only;omega,by simp only;omega,by simp only;omega,.refl _,rfl,fun k k1 k2=>absurd k1 (by simp only at k2;omega)⟩
 refine ⟨r.1,r.2, ?_,r2,r3,r4,r5⟩
 unfold Cq
 simp (disch:=first | omega | (simp only [List.length_set];omega)) only [jG d (l:=l0),Option.bind_some]
 rw [show idx (l0.set a.toNat (gz d l0 pivot)) pivot=some (gz d (l0.set a.toNat (gz d l0 pivot)) pivot) from jG d (by omega) (by rw [List.length_set];omega),Option.bind_some,e1]
 simp only [s1,s2,r1,Option.bind_some]
end
theorem wrap_u64 {x:Int} (h0:0≤x) (h1:x<18446744073709551616):IntKind.wrap .u64 x=x:=by
 simp only [IntKind.wrap,IntKind.signed,IntKind.bits,IntKind.min,IntKind.max]
 first | omega | (simp;omega)
theorem UW:((List.range 256).all fun c=>match vF ((c:Int),0) with | some t=>decide (0≤t∧t≤8∧2^t.toNat≤max 1 (2*c)) | none=>false)=true:=by decide +kernel
theorem MO (c n:Int) (h0:0≤n) (h1:n≤64) (hc:0≤c) (hc2:c<256):∃ t:Int,vF (c,n)=some (n+t)∧0≤t∧t≤8∧2^t.toNat≤max 1 (2*c.toNat):=by
 have h:=List.all_eq_true.1 UW c.toNat (List.mem_range.2 (by omega))
 rw [show ((c.toNat:Nat):Int)=c from by omega] at h
 obtain ⟨T,hT⟩:∃ T:Int→Option Int,∀ c n,vF (c,n)=(T c).bind fun x=>some (aF n (IntKind.wrap .i64 x)):=⟨fun c=>Mu (ByteArray.mk #[0,1,2,2,3,3,3,3,4,4,4,4,4,4,4,4,5,5,5,5,5,5,5,5,5,5,5,5,5,5,5,5,6,6,6,6,6,6,6,6,6,6,6,6,6,6,6,6,6,6,6,6,6,6,6,6,6,6,6,6,6,6,6,6,7,7,7,7,7,7,7,7,7,7,7,7,7,7,7,7,7,7,7,7,7,7,7,7,7,7,7,7,7,7,7,7,7,7,7,7,7,7,7,7,7,7,7,7,7,7,7,7,7,7,7,7,7,7,7,7,7,7,7,7,7,7,7,7,8,8,8,8,8,8,8,8,8,8,8,8,8,8,8,8,8,8,8,8,8,8,8,8,8,8,8,8,8,8,8,8,8,8,8,8,8,8,8,8,8,8,8,8,8,8,8,8,8,8,8,8,8,8,8,8,8,8,8,8,8,8,8,8,8,8,8,8,8,8,8,8,8,8,8,8,8,8,8,8,8,8,8,8,8,8,8,8,8,8,8,8,8,8,8,8,8,8,8,8,8,8,8,8,8,8,8,8,8,8,8,8,8,8,8,8,8,8,8,8,8,8,8,8,8,8,8,8]) (IntKind.wrap .u8 c),fun _ _=>rfl⟩
 rw [hT] at h ⊢
 cases hs:T c with
 | none=>rw [hs] at h;simp at h
 | some t =>
   rw [hs] at h
   simp only [Option.bind_some,decide_eq_true_eq] at h ⊢
   generalize hw:IntKind.i64.wrap t=v at h ⊢
   have hv:aF 0 v=v:=by
    unfold aF
    rw [Int.zero_add,← hw]
    simp only [IntKind.wrap,IntKind.signed,IntKind.bits,IntKind.min,IntKind.max]
    first | omega | (simp only [Int.reducePow,if_true];omega) | (simp;omega)
   rw [hv] at h
   exact ⟨v,by rw [aP (by omega) (by omega)],h.1,h.2.1,h.2.2⟩
theorem MS {x:Int} (h0:0≤x) (h1:x≤1073741824):∃ v:Int,Ir (IntKind.wrap .u64 x)=some v∧0≤v∧v≤40∧2^v.toNat≤max 1 (2*x.toNat):=by
 have hw:IntKind.wrap .u64 x=x:=by
  exact wrap_u64 (by omega) (by omega)
 have c8:(2^(min (Int.toNat 8) 64):Int)=256:=by decide
 have c16:(2^(min (Int.toNat 16) 64):Int)=65536:=by decide
 have step:∀ (c n:Int),0≤c→0≤n→n≤30→c<65536→∃ t:Int,yT (c,n)=some (n+t)∧0≤t∧t≤16∧2^t.toNat≤max 1 (2*c.toNat):=fun c n h0 hn hn2 hc=>by
  unfold yT
  by_cases q:c ≥ 256
  ·simp only [q,decide_true,if_true,c8]
   have e:Int.fdiv c 256=c / 256:=Int.fdiv_eq_ediv_of_nonneg _ (by omega)
   rw [e,aP (by omega) (by omega)]
   obtain ⟨t,t1,t2,t3,t4⟩:=MO (c / 256) (n+8) (by omega) (by omega) (by omega) (by omega)
   refine ⟨8+t,by rw [t1];congr 1;omega,by omega,by omega, ?_⟩
   rw [show (8+t).toNat=8+t.toNat from by omega,Nat.pow_add]
   omega
  ·simp only [q,decide_false,Bool.false_eq_true,if_false]
   obtain ⟨t,t1,t2,t3,t4⟩:=MO c n (by omega) (by omega) (by omega) (by omega)
   exact ⟨t,t1,t2,by omega,t4⟩
 unfold Ir Oh Dm
 rw [hw]
 have q:¬ x ≥ 4294967296:=by omega
 simp only [q,decide_false,Bool.false_eq_true,if_false]
 by_cases q:x ≥ 65536
 ·simp only [q,decide_true,if_true,c16]
  have e:Int.fdiv x 65536=x / 65536:=Int.fdiv_eq_ediv_of_nonneg _ (by omega)
  rw [e,show aF 0 16=16 from rfl]
  obtain ⟨t,t1,t2,t3,t4⟩:=step (x / 65536) 16 (by omega) (by omega) (by omega) (by omega)
  refine ⟨16+t,by rw [t1];rfl,by omega,by omega, ?_⟩
  rw [show (16+t).toNat=16+t.toNat from by omega,Nat.pow_add]
  omega
 ·simp only [q,decide_false,Bool.false_eq_true,if_false]
  obtain ⟨t,t1,t2,t3,t4⟩:=step x 0 h0 (by omega) (by omega) (by omega)
  refine ⟨t,by rw [t1,Int.zero_add];rfl,t2,by omega,t4⟩
section
variable {α:Type} {br:Br α} {lt:α→α→Bool} {P:α→Prop} {d:α} (hbr:∀ (β:Type) (x y:α) (k:Bool→Option β),P x→P y→br β x y k=k (lt x y)) (w:Rn lt)
theorem ER {a b:Int} {l0:List α} (ha:0≤a) (hb:b≤l0.length) (hL:(l0.length:Int)≤1073741824) (hab:a≤b):∃ l',Fs br a b l0=some l'∧On d a b l0 l':=by
 obtain ⟨l',r1,r2⟩:=nW (fun s:Int×Int×List α=>(s.2.1+1-s.1).toNat) (fun s:Int×Int×List α=>a≤s.1∧s.2.1<b∧s.1≤b∧a-1≤s.2.1∧On d a b l0 s.2.2) (fun l'=>On d a b l0 l') (Bm br) (by
  rintro ⟨i,j,l⟩ ⟨h1,h2,h3,h4,hon⟩
  simp only at h1 h2 h3 h4 hon ⊢
  have hl:=hon.len
  unfold Bm
  by_cases q:i<j
  ·left
   refine ⟨(i+1,j-1,sw d l i j), ?_,⟨by simp only;omega,by simp only;omega,by simp only;omega,by simp only;omega,.step hon i j h1 (by omega) (by omega) h2 ha (by omega)⟩,by simp only;omega⟩
   simp (disch:=first | omega | (simp only [List.length_set];omega)) only [q,decide_true,if_true,jG d,Option.bind_some,aP,bE]
   rfl
  ·right
   exact ⟨l,by simp only [q,decide_false,Bool.false_eq_true,if_false],hon⟩) (a,b-1,l0) ⟨by simp only;omega,by simp only;omega,by simp only;omega,by simp only;omega,.refl _⟩
 refine ⟨l', ?_,r2⟩
 unfold Fs
 rw [bE (by omega) (by omega),r1];rfl
theorem TM (r m:Int) (h0:0≤m) (h1:m<9223372036854775808):0≤Gj .u64 r m∧Gj .u64 r m≤m:=by
 unfold Gj
 have hb:(BitVec.ofInt 64 m).toNat=m.toNat:=by
  rw [BitVec.toNat_ofInt]
  omega
 have hle:(BitVec.ofInt IntKind.u64.bits r &&& BitVec.ofInt IntKind.u64.bits m).toNat≤m.toNat:=by
  show (BitVec.ofInt 64 r &&& BitVec.ofInt 64 m).toNat≤m.toNat
  rw [BitVec.toNat_and,hb]
  exact Nat.and_le_right
 generalize (BitVec.ofInt IntKind.u64.bits r &&& BitVec.ofInt IntKind.u64.bits m).toNat=v at hle ⊢
 have hw:IntKind.wrap .u64 (v:Int)=v:=by
  exact wrap_u64 (by omega) (by omega)
 rw [hw];omega
theorem VR {n:Int} (h:0≤n) (h2:n≤1073741824):jT n 4=n / 4:=by
 unfold jT
 rw [Int.tdiv_eq_ediv_of_nonneg h]
 exact Lq _ (by omega) (by omega)
theorem LA {a b:Int} {l0:List α} (ha:0≤a) (hb:b≤l0.length) (hL:(l0.length:Int)≤1073741824) (hab:a≤b):∃ l',Dn br a b l0=some l'∧On d a b l0 l':=by
 have s1:aH b a=b-a:=bE (by omega) (by omega)
 unfold Dn
 rw [s1]
 by_cases h8:b-a ≥ 8
 case neg=>simp only [h8,decide_false,Bool.false_eq_true,if_false];exact ⟨l0,rfl,.refl _⟩
 simp only [h8,decide_true,if_true]
 obtain ⟨v,v1,v2,v3,v4⟩:=MS (x:=b-a) (by omega) (by omega)
 have hpow:1≤2^v.toNat:=Nat.one_le_two_pow
 have hr2:Cp (b-a)=some ((2^v.toNat:Nat):Int):=by
  unfold Cp
  rw [v1]
  simp only [Option.bind_some,v2,decide_true,if_true]
  congr 1
  rw [show min v.toNat 64=v.toNat from by omega,Int.one_mul,show (2:Int)^v.toNat=((2^v.toNat:Nat):Int) from by simp]
  exact wrap_u64 (by omega) (by omega)
 rw [hr2,Option.bind_some]
 obtain ⟨R,hR⟩:∃ R:Int,((2^v.toNat:Nat):Int)=R:=⟨_,rfl⟩
 rw [hR]
 have hR1:1≤R:=by omega
 have hR2:R≤2*(b-a):=by omega
 have hm:IntKind.wrap .u64 (R-1)=R-1:=by
  exact wrap_u64 (by omega) (by omega)
 have q4:=VR (n:=b-a) (by omega) (by omega)
 have q2:cK ((b-a) / 4) 2=(b-a) / 4*2:=tJ (by omega) (by omega)
 have q3:aF a ((b-a) / 4*2)=a+(b-a) / 4*2:=aP (by omega) (by omega)
 have q5:aF (a+(b-a) / 4*2) 1=a+(b-a) / 4*2+1:=aP (by omega) (by omega)
 have q6:aH (a+(b-a) / 4*2) 1=a+(b-a) / 4*2-1:=bE (by omega) (by omega)
 obtain ⟨l',r1,r2⟩:=nW (fun s:Int×Int×List α=>(a+(b-a) / 4*2+2-s.1).toNat) (fun s:Int×Int×List α=>a≤s.1∧On d a b l0 s.2.2) (fun l'=>On d a b l0 l') (zR br a b R) (by
  rintro ⟨i,rr,l⟩ ⟨h1,hon⟩
  simp only at h1 hon ⊢
  have hl:=hon.len
  unfold zR
  simp only [s1,q4,q2,q3,q5,hm]
  by_cases q:i≤a+(b-a) / 4*2+1
  ·left
   simp only [q,decide_true,if_true,Jy,Option.bind_some]
   generalize hz:(eT IntKind.u64 _ _:Int)=z
   obtain ⟨a1,a2⟩:=TM z (R-1) (by omega) (by omega)
   have hw:IntKind.wrap .i64 (Gj .u64 z (R-1))=Gj .u64 z (R-1):=Lq _ (by omega) (by omega)
   rw [hw]
   obtain ⟨o,ho⟩:∃ o,Gj .u64 z (R-1)=o:=⟨_,rfl⟩
   rw [ho] at a1 a2 ⊢
   have key:∀ t:Int,0≤t→t<b-a→∃ s',uU br a (i,rr,l) t=some (.inl s')∧(a≤s'.1∧On d a b l0 s'.2.2)∧(a+(b-a) / 4*2+2-s'.1).toNat<(a+(b-a) / 4*2+2-i).toNat:=fun t t1 t2=>by
    have e:aF a t=a+t:=aP (by omega) (by omega)
    unfold uU
    simp (disch:=first | omega | (simp only [List.length_set];omega)) only [e,jG d,Option.bind_some]
    refine ⟨_,rfl,⟨?_, ?_⟩, ?_⟩
    ·simp only;rw [aP (by omega) (by omega)];omega
    ·exact .step hon i (a+t) (by omega) (by omega) (by omega) (by omega) ha (by omega)
    ·simp only;rw [aP (by omega) (by omega)];omega
   by_cases hge:o ≥ b-a
   ·simp only [hge,decide_true,if_true]
    rw [bE (by omega) (by omega)]
    exact key (o-(b-a)) (by omega) (by omega)
   ·simp only [hge,decide_false,Bool.false_eq_true,if_false]
    exact key o a1 (by omega)
  ·right
   exact ⟨l,by simp only [q,decide_false,Bool.false_eq_true,if_false],hon⟩) (a+(b-a) / 4*2-1,IntKind.wrap .u64 (b-a),l0) ⟨by simp only;omega,.refl _⟩
 refine ⟨l', ?_,r2⟩
 simp only [q4,q2,q3,q6,r1,Option.bind_some]
include hbr
theorem Rw {l:List α} (hf:Iw P d l) {x y:Int} (s:Int) (hx:0≤x) (hx':x<l.length) (hy:0≤y) (hy':y<l.length):∃ r,Jx br l x y s=some r∧((r.1=x∧r.2.1=y)∨(r.1=y∧r.2.1=x)):=by
 unfold Jx
 rw [jG d hy hy',Option.bind_some,jG d hx hx',Option.bind_some,hbr _ _ _ _ (hf.all _ hy hy') (hf.all _ hx hx')]
 cases lt (gz d l y) (gz d l x) with
 | true=>exact ⟨_,rfl,.inr ⟨rfl,rfl⟩⟩
 | false=>exact ⟨_,rfl,.inl ⟨rfl,rfl⟩⟩
theorem Yf {l:List α} (hf:Iw P d l) {lo hi x y z:Int} (s:Int) (hlo:0≤lo) (hhi:hi≤l.length) (hx:lo≤x∧x<hi) (hy:lo≤y∧y<hi) (hz:lo≤z∧z<hi):∃ r,Ng br l x y z s=some r∧lo≤r.1∧r.1<hi:=by
 unfold Ng
 obtain ⟨r1,e1,q1⟩:=Rw hbr hf (x:=x) (y:=y) s (by omega) (by omega) (by omega) (by omega)
 rw [e1,Option.bind_some]
 obtain ⟨r2,e2,q2⟩:=Rw hbr hf (x:=r1.2.1) (y:=z) r1.2.2 (by omega) (by omega) (by omega) (by omega)
 rw [e2,Option.bind_some]
 obtain ⟨r3,e3,q3⟩:=Rw hbr hf (x:=r1.1) (y:=r2.1) r2.2.2 (by omega) (by omega) (by omega) (by omega)
 rw [e3,Option.bind_some]
 exact ⟨_,rfl,by simp only;omega,by simp only;omega⟩
theorem IC {l:List α} (hf:Iw P d l) {a b:Int} (ha:0≤a) (hb:b≤l.length) (hab:a+12<b):∃ p h,Ha br l a b=some (p,h)∧a≤p∧p<b:=by
 have hL:=hf.len
 have s1:aH b a=b-a:=bE (by omega) (by omega)
 have q4:=VR (n:=b-a) (by omega) (by omega)
 have m1:cK ((b-a) / 4) 1=(b-a) / 4*1:=tJ (by omega) (by omega)
 have m2:cK ((b-a) / 4) 2=(b-a) / 4*2:=tJ (by omega) (by omega)
 have m3:cK ((b-a) / 4) 3=(b-a) / 4*3:=tJ (by omega) (by omega)
 have a1:aF a ((b-a) / 4*1)=a+(b-a) / 4*1:=aP (by omega) (by omega)
 have a2:aF a ((b-a) / 4*2)=a+(b-a) / 4*2:=aP (by omega) (by omega)
 have a3:aF a ((b-a) / 4*3)=a+(b-a) / 4*3:=aP (by omega) (by omega)
 have k1:∀ p n:Int,∃ h,xO br (p,n)=some (p,h):=fun p n=>by
  unfold xO
  simp only
  split
  ·exact ⟨_,rfl⟩
  ·split
   ·exact ⟨_,rfl⟩
   ·exact ⟨_,rfl⟩
 have k2:∀ x y z s:Int,(a≤x∧x<b)→(a≤y∧y<b)→(a≤z∧z<b)→∃ p h,xP br l (x,y,z,s)=some (p,h)∧a≤p∧p<b:=fun x y z s hx hy hz=>by
  unfold xP
  obtain ⟨r,e,r1,r2⟩:=Yf hbr hf (lo:=a) (hi:=b) s ha hb hx hy hz
  simp only [e,Option.bind_some]
  obtain ⟨h,e2⟩:=k1 r.1 r.2
  exact ⟨_,h,e2,r1,r2⟩
 have adj:∀ x s:Int,a+1≤x→x+1<b→∃ r,tD br l x s=some r∧a≤r.1∧r.1<b:=fun x s h1 h2=>by
  unfold tD
  rw [bE (by omega) (by omega),aP (by omega) (by omega)]
  obtain ⟨r,e,r1,r2⟩:=Yf hbr hf (lo:=a) (hi:=b) (x:=x-1) (y:=x) (z:=x+1) s ha hb (by omega) (by omega) (by omega)
  rw [e]
  exact ⟨_,rfl,r1,r2⟩
 unfold Ha
 have h8:b-a ≥ 8:=by omega
 simp only [s1,q4,m1,m2,m3,a1,a2,a3,h8,decide_true,if_true]
 by_cases h50:b-a ≥ 50
 ·simp only [h50,decide_true,if_true]
  obtain ⟨r1,e1,p1,p2⟩:=adj (a+(b-a) / 4*1) 0 (by omega) (by omega)
  rw [e1,Option.bind_some]
  obtain ⟨r2,e2,p3,p4⟩:=adj (a+(b-a) / 4*2) r1.2 (by omega) (by omega)
  rw [e2,Option.bind_some]
  obtain ⟨r3,e3,p5,p6⟩:=adj (a+(b-a) / 4*3) r2.2 (by omega) (by omega)
  rw [e3,Option.bind_some]
  exact k2 _ _ _ _ ⟨p1,p2⟩ ⟨p3,p4⟩ ⟨p5,p6⟩
 ·simp only [h50,decide_false,Bool.false_eq_true,if_false]
  exact k2 _ _ _ _ (by omega) (by omega) (by omega)
end
section
variable {α:Type} {br:Br α} {lt:α→α→Bool} {P:α→Prop} {d:α} (hbr:∀ (β:Type) (x y:α) (k:Bool→Option β),P x→P y→br β x y k=k (lt x y)) (w:Rn lt)
include hbr
theorem KB {i b:Int} {l0:List α} (hi:0≤i) (hib:i+1≤b) (hb:b≤l0.length) (hf0:Iw P d l0):∃ l',aL (lI br b) (i+1,l0)=some l'∧On d i b l0 l':=by
 have hL:=hf0.len
 refine nW (fun s:Int×List α=>(b-s.1).toNat) (fun s:Int×List α=>i+1≤s.1∧On d i b l0 s.2) _ (lI br b) ?_ (i+1,l0) ⟨Int.le_refl _,.refl _⟩
 rintro ⟨j,l⟩ ⟨h1,hon⟩
 simp only at h1 hon ⊢
 have hf:=hf0.on hon
 have hl:=hon.len
 unfold lI
 by_cases q:j<b
 ·cases hc:lt (gz d l j) (gz d l (j-1)) with
  | true =>
    left
    refine ⟨(j+1,sw d l j (j-1)), ?_,⟨by simp only;omega,.step hon j (j-1) (by omega) (by omega) (by omega) (by omega) hi (by omega)⟩,by simp only;omega⟩
    simp (disch:=first | omega | (simp only [List.length_set];omega) | (refine hf.all _ ?_ ?_ <;> omega)) only [q,decide_true,if_true,bE,aP,jG d,Option.bind_some,hbr,hc,Bool.not_true,Bool.false_eq_true,if_false]
    rfl
  | false =>
    right
    refine ⟨l, ?_,hon⟩
    simp (disch:=first | omega | (refine hf.all _ ?_ ?_ <;> omega)) only [q,decide_true,if_true,bE,jG d,Option.bind_some,hbr,hc,Bool.not_false]
 ·right
  exact ⟨l,by simp only [q,decide_false,Bool.false_eq_true,if_false],hon⟩
include w
theorem KA {a b i:Int} {l0:List α} (ha:0≤a) (hi:a<i) (hib:i≤b) (hb:b≤l0.length) (hf0:Iw P d l0) (hpre:0<a→∀ k,a≤k→k<b→lt (gz d l0 k) (gz d l0 (a-1))=false) (h0:Asc d lt a (i-1) l0) :
  ∃ l',aL (lJ br) (i-1,l0)=some l'∧On d a i l0 l'∧Asc d lt a i l':=by
 have hL:=hf0.len
 refine nW (fun s:Int×List α=>(s.1-a).toNat) (fun s:Int×List α=>a≤s.1∧s.1≤i-1∧On d a i l0 s.2∧∀ p q:Int,a≤p→p<q→q≤i-1→q≠s.1→lt (gz d s.2 q) (gz d s.2 p)=false)
  (fun l'=>On d a i l0 l'∧Asc d lt a i l') (lJ br) ?_ (i-1,l0) ⟨by simp only;omega,Int.le_refl _,.refl _,fun p q h1 h2 h3 h4=>h0 p q h1 h2 (by simp only at h4;omega)⟩
 rintro ⟨j,l⟩ ⟨h1,h2,hon,hI⟩
 simp only at h1 h2 hon hI ⊢
 have hf:=hf0.on hon
 have hl:=hon.len
 have stop:(j=a∨lt (gz d l j) (gz d l (j-1))=false)→Asc d lt a i l:=fun hs p q p1 p2 p3=>by
  by_cases e1:q=j
  ·subst e1
   rcases hs with hs | hs
   ·omega
   ·by_cases e2:p=q-1
    ·subst e2;exact hs
    ·exact w.le_trans (hI p (q-1) p1 (by omega) (by omega) (by omega)) hs
  ·exact hI p q p1 p2 (by omega) e1
 unfold lJ
 by_cases hj:j ≥ 1
 ·cases hc:lt (gz d l j) (gz d l (j-1)) with
  | false =>
    right
    refine ⟨l, ?_,hon,stop (.inr hc)⟩
    simp (disch:=first | omega | (refine hf.all _ ?_ ?_ <;> omega)) only [hj,decide_true,if_true,bE,jG d,Option.bind_some,hbr,hc,Bool.not_false]
  | true =>
    have hja:a<j:=by
     rcases Int.lt_or_le a j with q | q
     ·exact q
     ·exfalso
      obtain rfl:j=a:=by omega
      have e:gz d l (j-1)=gz d l0 (j-1):=hon.out d (by omega) (.inl (by omega))
      have:=hon.all d (fun x=>lt x (gz d l0 (j-1))=false) (fun k k1 k2=>hpre (by omega) k k1 (by omega)) j (Int.le_refl _) hi
      rw [e,this] at hc;cases hc
    left
    refine ⟨(j-1,sw d l j (j-1)), ?_,⟨by simp only;omega,by simp only;omega,.step hon j (j-1) (by omega) (by omega) (by omega) (by omega) ha (by omega), ?_⟩,by simp only;omega⟩
    ·simp (disch:=first | omega | (simp only [List.length_set];omega) | (refine hf.all _ ?_ ?_ <;> omega)) only [hj,decide_true,if_true,bE,jG d,Option.bind_some,hbr,hc,Bool.not_true,Bool.false_eq_true,if_false]
     rfl
    ·simp only
     intro p q p1 p2 p3 p4
     rw [tH d (by omega) (by omega) (by omega) (by omega) (by omega),tH d (by omega) (by omega) (by omega) (by omega) (by omega)]
     rw [if_neg p4]
     by_cases e1:q=j
     ·rw [if_pos e1]
      by_cases e2:p=j-1
      ·rw [if_pos e2];exact w.asymm _ _ hc
      ·rw [if_neg e2,if_neg (by omega)]
       exact hI p (j-1) (by omega) (by omega) (by omega) (by omega)
     ·rw [if_neg e1]
      by_cases e2:p=j-1
      ·rw [if_pos e2];exact hI j q (by omega) (by omega) p3 e1
      ·rw [if_neg e2]
       by_cases e3:p=j
       ·rw [if_pos e3];exact hI (j-1) q (by omega) (by omega) p3 e1
       ·rw [if_neg e3];exact hI p q p1 p2 p3 e1
 ·right
  refine ⟨l,by simp only [hj,decide_false,Bool.false_eq_true,if_false],hon,stop (.inl (by omega))⟩
theorem EI {a b:Int} {l0:List α} (ha:0≤a) (hab:a<b) (hb:b≤l0.length) (hf0:Iw P d l0) (hpre:0<a→∀ k,a≤k→k<b→lt (gz d l0 k) (gz d l0 (a-1))=false) :
  ∃ r l',vG br a b l0=some (r,l')∧On d a b l0 l'∧(r=true→Asc d lt a b l'):=by
 have hL:=hf0.len
 have s1:aH b a=b-a:=bE (by omega) (by omega)
 have s2:aF a 1=a+1:=aP (by omega) (by omega)
 obtain ⟨r,r1,r2⟩:=nW (fun s:Int×Int×List α=>(5-s.2.1).toNat) (fun s:Int×Int×List α=>a+1≤s.1∧s.1≤b∧0≤s.2.1∧On d a b l0 s.2.2∧Asc d lt a s.1 s.2.2)
  (fun r:Bool×List α ⊕ List α=>match r with | .inl x=>On d a b l0 x.2∧(x.1=true→Asc d lt a b x.2) | .inr l=>On d a b l0 l) (rP br a b) (by
  rintro ⟨i,c,l⟩ ⟨i1,i2,i3,hon,hA⟩
  simp only at i1 i2 i3 hon hA ⊢
  have hf:=hf0.on hon
  have hl:=hon.len
  unfold rP
  by_cases hc5:c<5
  case neg =>
   right
   exact ⟨.inr l,by simp only [hc5,decide_false,Bool.false_eq_true,if_false],hon⟩
  obtain ⟨x,x1,x2,x3,x4,x5⟩:=Uh (body:=lH br b (i,c,l)) (fun k=>!lt (gz d l k) (gz d l (k-1))) (i:=i) (j:=b-1) (by omega) (fun s q1 q2=>by
   unfold lH
   simp (disch:=first | omega | (refine hf.all _ ?_ ?_ <;> omega)) only [show s<b from by omega,decide_true,if_true,jG d,Option.bind_some,hbr,aP,bE]) (by
   unfold lH
   simp only [show ¬ b-1+1<b from by omega,decide_false,Bool.false_eq_true,if_false,Option.bind_some])
  have hAx:Asc d lt a x l:=by
   have:∀ n:Nat,∀ y,y≤x→y≤i+n→Asc d lt a y l:=by
    intro n
    induction n with
    | zero=>intro y _ y2 p q p1 p2 p3;exact hA p q p1 p2 (by omega)
    | succ n ih =>
      intro y y1 y2
      by_cases e:y≤i+n
      ·exact ih y y1 e
      ·have h0:=ih (y-1) (by omega) (by omega)
       have h1:=x4 (y-1) (by omega) (by omega)
       simp only [Bool.not_eq_eq_eq_not,Bool.not_true] at h1
       intro p q p1 p2 p3
       by_cases e1:q=y-1
       ·subst e1
        by_cases e2:p=y-1-1
        ·subst e2;exact h1
        ·exact w.le_trans (h0 p (y-1-1) p1 (by omega) (by omega)) h1
       ·exact h0 p q p1 p2 (by omega)
   exact this (x-i).toNat x (Int.le_refl _) (by omega)
  simp only [hc5,decide_true,if_true,x1,Option.bind_some]
  by_cases hxb:x=b
  ·right
   refine ⟨.inl (true,l),by simp only [hxb,beq_self_eq_true,if_true],hon,fun _=>?_⟩
   simp only;rw [← hxb];exact hAx
  have hbx:(x==b)=false:=by simp [hxb]
  simp only [hbx,Bool.false_eq_true,if_false,s1]
  by_cases h50:b-a<50
  ·right
   exact ⟨.inl (false,l),by simp only [h50,decide_true,if_true],hon,fun q=>by cases q⟩
  left
  have e1:aH x 1=x-1:=bE (by omega) (by omega)
  have e2:aH x a=x-a:=bE (by omega) (by omega)
  have e3:aH b x=b-x:=bE (by omega) (by omega)
  have e4:aF x 1=x+1:=aP (by omega) (by omega)
  have e5:aF c 1=c+1:=aP (by omega) (by omega)
  obtain ⟨l1,hl1⟩:∃ l1,sw d l x (x-1)=l1:=⟨_,rfl⟩
  have e6:List.set (List.set l (Int.toNat x) (gz d l (x-1))) (Int.toNat (x-1)) (gz d l x)=l1:=hl1
  have hon1:On d a b l0 l1:=hl1 ▸ .step hon x (x-1) (by omega) (by omega) (by omega) (by omega) ha (by omega)
  have hl1':=hon1.len
  have hf1:=hf0.on hon1
  have hpre1:0<a→∀ k,a≤k→k<b→lt (gz d l1 k) (gz d l1 (a-1))=false:=fun h k k1 k2=>by
   rw [hon1.out d (k:=a-1) (by omega) (.inl (by omega))]
   exact hon1.all d (fun y=>lt y (gz d l0 (a-1))=false) (fun k k1 k2=>hpre h k k1 k2) k k1 k2
  have hA1:Asc d lt a (x-1) l1:=fun p q p1 p2 p3=>by
   rw [← hl1,tH d (by omega) (by omega) (by omega) (by omega) (by omega),tH d (by omega) (by omega) (by omega) (by omega) (by omega),if_neg (by omega),if_neg (by omega),if_neg (by omega),if_neg (by omega)]
   exact hAx p q p1 p2 (by omega)
  -- behind the shift to the left
  have right_:∀ l2,On d a b l0 l2→Asc d lt a x l2→∃ l3,lG br b (i,c,l) x l2=some (.inl (x,c+1,l3))∧On d a b l0 l3∧Asc d lt a x l3:=fun l2 o2 a2=>by
   have hl2:=o2.len
   unfold lG rO
   by_cases q:b-x ≥ 2
   ·obtain ⟨l3,t1,t2⟩:=KB hbr (i:=x) (b:=b) (l0:=l2) (by omega) (by omega) (by omega) (hf0.on o2)
    refine ⟨l3, ?_,o2.trans d (t2.mono d ha (by omega) (Int.le_refl _) (by omega)),fun p q p1 p2 p3=>?_⟩
    ·simp only [e3,q,decide_true,if_true,e4,t1,Option.bind_some,e5]
    ·rw [t2.out d (by omega) (.inl (by omega)),t2.out d (by omega) (.inl (by omega))]
     exact a2 p q p1 p2 p3
   ·exact ⟨l2,by simp only [e3,q,decide_false,Bool.false_eq_true,if_false,e5],o2,a2⟩
  simp (disch:=first | omega | (simp only [List.length_set];omega)) only [h50,decide_false,Bool.false_eq_true,if_false,e1,e2,jG d,Option.bind_some,e6]
  by_cases h2:x-a ≥ 2
  ·obtain ⟨l2,t1,t2,t3⟩:=KA hbr w (a:=a) (b:=b) (i:=x) ha (by omega) (by omega) (by omega) hf1 hpre1 hA1
   obtain ⟨l3,u1,u2,u3⟩:=right_ l2 (hon1.trans d (t2.mono d ha (Int.le_refl _) (by omega) (by omega))) t3
   refine ⟨(x,c+1,l3), ?_,⟨by simp only;omega,by simp only;omega,by simp only;omega,u2,u3⟩,by simp only;omega⟩
   simp only [h2,decide_true,if_true,t1,Option.bind_some,u1]
  ·obtain ⟨l3,u1,u2,u3⟩:=right_ l1 hon1 (fun p q p1 p2 p3=>by omega)
   refine ⟨(x,c+1,l3), ?_,⟨by simp only;omega,by simp only;omega,by simp only;omega,u2,u3⟩,by simp only;omega⟩
   simp only [h2,decide_false,Bool.false_eq_true,if_false,u1]) (a+1,0,l0) ⟨by simp only;omega,by simp only;omega,by simp only;omega,.refl _,fun p q p1 p2 p3=>by simp only at p3;omega⟩
 unfold vG
 rw [s2,r1,Option.bind_some]
 cases r with
 | inl x=>exact ⟨x.1,x.2,rfl,r2.1,r2.2⟩
 | inr l=>exact ⟨false,l,rfl,r2,fun q=>by cases q⟩
end
def Out {α:Type} (d:α) (lt:α→α→Bool) (a0 b0 a b:Int) (l:List α):Prop:=∀ p q:Int,a0≤p→p<q→q<b0→(p<a∨b≤q)→lt (gz d l q) (gz d l p)=false
def Pre {α:Type} (d:α) (lt:α→α→Bool) (a b:Int) (l:List α):Prop:=0<a→∀ k,a≤k→k<b→lt (gz d l k) (gz d l (a-1))=false
section
variable {α:Type} {br:Br α} {lt:α→α→Bool} {P:α→Prop} {d:α} (hbr:∀ (β:Type) (x y:α) (k:Bool→Option β),P x→P y→br β x y k=k (lt x y)) (w:Rn lt)
theorem Wi {a0 b0 a b:Int} {l l':List α} (h:Out d lt a0 b0 a b l) (ho:On d a b l l') (h0:0≤a0) (h1:a0≤a) (h2:b≤b0):Out d lt a0 b0 a b l':=by
 intro p q p1 p2 p3 p4
 by_cases hp:a≤p∧p<b
 ·rw [ho.out d (k:=q) (by omega) (.inr (by omega))]
  exact ho.all d (fun x=>lt (gz d l q) x=false) (fun k k1 k2=>h k q (by omega) (by omega) p3 (.inr (by omega))) p hp.1 hp.2
 ·rw [ho.out d (k:=p) (by omega) (by omega)]
  by_cases hq:a≤q∧q<b
  ·exact ho.all d (fun x=>lt x (gz d l p)=false) (fun k k1 k2=>h p k p1 (by omega) (by omega) (.inl (by omega))) q hq.1 hq.2
  ·rw [ho.out d (k:=q) (by omega) (by omega)]
   exact h p q p1 p2 p3 p4
theorem PY {a0 b0 a b:Int} {l:List α} (h:Out d lt a0 b0 a b l) (ha:Asc d lt a b l):Asc d lt a0 b0 l:=by
 intro p q p1 p2 p3
 by_cases e:p<a∨b≤q
 ·exact h p q p1 p2 p3 e
 ·exact ha p q (by omega) p2 (by omega)
theorem EL {a0 b0 a b:Int} {l0 l:List α} (hp:Pre d lt a0 b0 l0) (h0:0≤a0) (h1:a0≤a) (h2:b≤b0) (ho:On d a0 b0 l0 l) (h:Out d lt a0 b0 a b l):Pre d lt a b l:=by
 intro hpos k k1 k2
 by_cases e:a=a0
 ·subst e
  rw [ho.out d (k:=a-1) (by omega) (.inl (by omega))]
  exact ho.all d (fun x=>lt x (gz d l0 (a-1))=false) (fun k k1 k2=>hp hpos k k1 k2) k k1 (by omega)
 ·exact h (a-1) k (by omega) (by omega) (by omega) (.inl (by omega))
theorem pre_on {a b:Int} {l l':List α} (hp:Pre d lt a b l) (h0:0≤a) (ho:On d a b l l'):Pre d lt a b l':=EL (a0:=a) (b0:=b) hp h0 (Int.le_refl _) (Int.le_refl _) ho fun p q p1 p2 p3 p4=>absurd p4 (by omega)
include hbr w
theorem CC {self:Int→Int→Int→List α→Option (List α)} {N:Int}
  (hself:∀ (a b limit:Int) (l:List α),0≤a→a≤b→b≤l.length→Iw P d l→Pre d lt a b l→b-a<N→∃ l',self a b limit l=some l'∧On d a b l l'∧Asc d lt a b l')
  {a0 b0 limit:Int} {l0:List α} (h0:0≤a0) (hab:a0≤b0) (hb:b0≤l0.length) (hf0:Iw P d l0) (hpre:Pre d lt a0 b0 l0) (hN:b0-a0≤12∨b0-a0<2*N) :
  ∃ l',aL (En br self) (a0,b0,limit,true,true,l0)=some l'∧On d a0 b0 l0 l'∧Asc d lt a0 b0 l':=by
 have hL:=hf0.len
 refine nW (fun s:Int×Int×Int×Bool×Bool×List α=>(s.2.1-s.1).toNat) (fun s:Int×Int×Int×Bool×Bool×List α=>a0≤s.1∧s.1≤s.2.1∧s.2.1≤b0∧On d a0 b0 l0 s.2.2.2.2.2∧Out d lt a0 b0 s.1 s.2.1 s.2.2.2.2.2)
  (fun l'=>On d a0 b0 l0 l'∧Asc d lt a0 b0 l') (En br self) ?_ (a0,b0,limit,true,true,l0) ⟨Int.le_refl _,hab,Int.le_refl _,.refl _,fun p q p1 p2 p3 p4=>absurd p4 (by simp only;omega)⟩
 rintro ⟨a,b,lim,wb,wp,l⟩ ⟨i1,i2,i3,hon,hout⟩
 simp only at i1 i2 i3 hon hout ⊢
 have hf:=hf0.on hon
 have hl:=hon.len
 have s1:aH b a=b-a:=bE (by omega) (by omega)
 -- what ends it
 have fin:∀ l',On d a b l l'→Asc d lt a b l'→On d a0 b0 l0 l'∧Asc d lt a0 b0 l':=fun l' o as =>
  ⟨hon.trans d (o.mono d h0 i1 i3 (by omega)),PY (Wi hout o h0 i1 i3) as⟩
 unfold En
 simp only [s1]
 by_cases h12:b-a≤12
 ·right
  obtain ⟨l',t1,t2,t3⟩:=Rs hbr w (a:=a) (b:=b) (l0:=l) (by omega) i2 (by omega) hf
  exact ⟨l',by simp only [h12,decide_true,if_true,t1,Option.bind_some],fin l' t2 t3⟩
 simp only [h12,decide_false,Bool.false_eq_true,if_false]
 by_cases hz:lim=0
 ·right
  obtain ⟨l',t1,t2,t3⟩:=BP hbr w (a:=a) (b:=b) (l0:=l) (by omega) i2 (by omega) hf
  exact ⟨l',by simp only [hz,beq_self_eq_true,if_true,t1,Option.bind_some],fin l' t2 t3⟩
 have hz':(lim==0)=false:=by simp [hz]
 simp only [hz',Bool.false_eq_true,if_false]
 have hN':b-a<2*N:=by omega
 -- the partition
 have k1 : ∀ (j127:Int×List α) (pivot hint:Int) (lx:List α) (wb' wp':Bool) (l1:List α),On d a b l l1→a≤pivot→pivot<b →
   (∃ s',Ae br self (a,b,lim,wb,wp,l) j127 (pivot,hint,lx) (wb',wp',l1)=some (.inl s')∧(a0≤s'.1∧s'.1≤s'.2.1∧s'.2.1≤b0∧On d a0 b0 l0 s'.2.2.2.2.2∧Out d lt a0 b0 s'.1 s'.2.1 s'.2.2.2.2.2)∧(s'.2.1-s'.1).toNat<(b-a).toNat) ∨
   (∃ r,Ae br self (a,b,lim,wb,wp,l) j127 (pivot,hint,lx) (wb',wp',l1)=some (.inr r)∧On d a0 b0 l0 r∧Asc d lt a0 b0 r):=by
  intro j127 pivot hint lx wb' wp' l1 o1 v1 v2
  left
  have hl1:=o1.len
  have hf1:=hf.on o1
  have hon1:On d a0 b0 l0 l1:=hon.trans d (o1.mono d h0 i1 i3 (by omega))
  have hout1:=Wi hout o1 h0 i1 i3
  have hpre1:Pre d lt a b l1:=EL hpre h0 i1 i3 hon1 hout1
  have part:∃ s',((Gh br a b pivot l1).bind fun r162=>if (decide ((aH r162.1 a)<(aH b r162.1))) then ((self a r162.1 j127.1 r162.2.2).bind fun r164=>some (.inl ((aF r162.1 1),b,j127.1,(decide ((aH r162.1 a) ≥ (jT (aH b a) 8))),r162.2.1,r164))) else ((self (aF r162.1 1) b j127.1 r162.2.2).bind fun r166=>some (Sum.inl (β:=List α) (a,r162.1,j127.1,(decide ((aH b r162.1) ≥ (jT (aH b a) 8))),r162.2.1,r166))))=some (.inl s') ∧
    (a0≤s'.1∧s'.1≤s'.2.1∧s'.2.1≤b0∧On d a0 b0 l0 s'.2.2.2.2.2∧Out d lt a0 b0 s'.1 s'.2.1 s'.2.2.2.2.2)∧(s'.2.1-s'.1).toNat<(b-a).toNat:=by
   obtain ⟨mid,al,l2,t1,t2,t3,t4,t5,t6⟩:=Zu hbr (a:=a) (b:=b) (pivot:=pivot) (l0:=l1) (by omega) (by omega) (by omega) hf1 v1 v2
   have hl2:=t2.len
   have hf2:=hf1.on t2
   have hon2:On d a0 b0 l0 l2:=hon1.trans d (t2.mono d h0 i1 i3 (by omega))
   have hout2:=Wi hout1 t2 h0 i1 i3
   have hpre2:Pre d lt a b l2:=pre_on hpre1 (by omega) t2
   -- all pairs that are not both on one side
   have ord:∀ p q:Int,a0≤p→p<q→q<b0→(p<a∨b≤q∨(p≤mid∧mid≤q))→lt (gz d l2 q) (gz d l2 p)=false:=fun p q p1 p2 p3 p4=>by
    by_cases e:p<a∨b≤q
    ·exact hout2 p q p1 p2 p3 e
    ·by_cases ep:p=mid
     ·subst ep;exact t6 q (by omega) (by omega)
     ·have hp:=w.asymm _ _ (t5 p (by omega) (by omega))
      by_cases eq:q=mid
      ·subst eq;exact hp
      ·exact w.le_trans hp (t6 q (by omega) (by omega))
   have e1:aH mid a=mid-a:=bE (by omega) (by omega)
   have e2:aH b mid=b-mid:=bE (by omega) (by omega)
   have e3:aF mid 1=mid+1:=aP (by omega) (by omega)
   simp only [t1,Option.bind_some,e1,e2,e3]
   by_cases hlr:mid-a<b-mid
   ·obtain ⟨l3,u1,u2,u3⟩:=hself a mid j127.1 l2 (by omega) t3 (by omega) hf2 (fun hpos k k1 k2=>hpre2 hpos k k1 (by omega)) (by omega)
    simp only [hlr,decide_true,if_true,u1,Option.bind_some]
    refine ⟨_,rfl,⟨by simp only;omega,by simp only;omega,i3,hon2.trans d (u2.mono d h0 i1 (by omega) (by omega)), ?_⟩,by simp only;omega⟩
    intro p q p1 p2 p3 p4
    simp only at p4 ⊢
    by_cases hp:a≤p∧p<mid
    ·by_cases hq:q<mid
     ·exact u3 p q hp.1 p2 hq
     ·rw [u2.out d (k:=q) (by omega) (.inr (by omega))]
      exact u2.all d (fun x=>lt (gz d l2 q) x=false) (fun k k1 k2=>ord k q (by omega) (by omega) p3 (by omega)) p hp.1 hp.2
    ·rw [u2.out d (k:=p) (by omega) (by omega)]
     by_cases hq:a≤q∧q<mid
     ·exact u2.all d (fun x=>lt x (gz d l2 p)=false) (fun k k1 k2=>ord p k p1 (by omega) (by omega) (by omega)) q hq.1 hq.2
     ·rw [u2.out d (k:=q) (by omega) (by omega)]
      exact ord p q p1 p2 p3 (by omega)
   ·obtain ⟨l3,u1,u2,u3⟩:=hself (mid+1) b j127.1 l2 (by omega) (by omega) (by omega) hf2 (fun hpos k k1 k2=>by
     rw [show mid+1-1=mid from by omega]
     exact t6 k (by omega) k2) (by omega)
    simp only [hlr,decide_false,Bool.false_eq_true,if_false,u1,Option.bind_some]
    refine ⟨_,rfl,⟨i1,t3,by simp only;omega,hon2.trans d (u2.mono d h0 (by omega) i3 (by omega)), ?_⟩,by simp only;omega⟩
    intro p q p1 p2 p3 p4
    simp only at p4 ⊢
    by_cases hp:mid+1≤p∧p<b
    ·by_cases hq:q<b
     ·exact u3 p q hp.1 p2 hq
     ·rw [u2.out d (k:=q) (by omega) (.inr (by omega))]
      exact u2.all d (fun x=>lt (gz d l2 q) x=false) (fun k k1 k2=>ord k q (by omega) (by omega) p3 (by omega)) p hp.1 hp.2
    ·rw [u2.out d (k:=p) (by omega) (by omega)]
     by_cases hq:mid+1≤q∧q<b
     ·exact u2.all d (fun x=>lt x (gz d l2 p)=false) (fun k k1 k2=>ord p k p1 (by omega) (by omega) (by omega)) q hq.1 hq.2
     ·rw [u2.out d (k:=q) (by omega) (by omega)]
      exact ord p q p1 p2 p3 (by omega)
  unfold Ae
  by_cases hpos:a>0
  ·cases hc:lt (gz d l1 (a-1)) (gz d l1 pivot) with
   | true =>
     simp (disch:=first | omega | (refine hf1.all _ ?_ ?_ <;> omega)) only [hpos,decide_true,if_true,bE,jG d,Option.bind_some,hbr,hc,Bool.not_true,Bool.false_eq_true,if_false]
     simpa only [s1] using part
   | false =>
     obtain ⟨mid,l2,t1,t2,t3,t4,t5⟩:=Rb hbr (a:=a) (b:=b) (pivot:=pivot) (l0:=l1) (by omega) (by omega) (by omega) hf1 v1 v2 w.irrefl
     refine ⟨(mid,b,j127.1,wb',wp',l2), ?_,⟨by simp only;omega,t4,i3,hon1.trans d (t2.mono d h0 i1 i3 (by omega)), ?_⟩,by simp only;omega⟩
     ·simp (disch:=first | omega | (refine hf1.all _ ?_ ?_ <;> omega)) only [hpos,decide_true,if_true,bE,jG d,Option.bind_some,hbr,hc,Bool.not_false,t1]
     ·have hout2:=Wi hout1 t2 h0 i1 i3
      have hpre2:Pre d lt a b l2:=pre_on hpre1 (by omega) t2
      have hl2:=t2.len
      intro p q p1 p2 p3 p4
      simp only at p4 ⊢
      by_cases e:p<a∨b≤q
      ·exact hout2 p q p1 p2 p3 e
      ·have hp:=t5 p (by omega) (by omega)
       have hq:=hpre2 hpos q (by omega) (by omega)
       rw [t2.out d (k:=a-1) (by omega) (.inl (by omega))] at hq
       cases hlt:lt (gz d l2 q) (gz d l2 p) with
       | false=>rfl
       | true =>
         rcases w.neg _ (gz d l1 pivot) _ hlt with r | r
         ·rcases w.neg _ (gz d l1 (a-1)) _ r with r | r
          ·rw [hq] at r;cases r
          ·rw [hc] at r;cases r
         ·rw [hp] at r;cases r
  ·simp only [hpos,decide_false,Bool.false_eq_true,if_false,Option.bind_some]
   simpa only [s1] using part
 have k2:∀ (j127:Int×List α) (pivot hint:Int) (l1:List α),On d a b l l1→a≤pivot→pivot<b →
   (∃ s',Af br self (a,b,lim,wb,wp,l) j127 (pivot,hint,l1)=some (.inl s')∧(a0≤s'.1∧s'.1≤s'.2.1∧s'.2.1≤b0∧On d a0 b0 l0 s'.2.2.2.2.2∧Out d lt a0 b0 s'.1 s'.2.1 s'.2.2.2.2.2)∧(s'.2.1-s'.1).toNat<(b-a).toNat) ∨
   (∃ r,Af br self (a,b,lim,wb,wp,l) j127 (pivot,hint,l1)=some (.inr r)∧On d a0 b0 l0 r∧Asc d lt a0 b0 r):=by
  intro j127 pivot hint l1 o1 v1 v2
  unfold Af
  obtain ⟨c,hc⟩:∃ c:Bool×Bool×Bool,(if wb then (if wp then (some (true,true,(hint==1))) else (some (true,false,false))) else (some (false,wp,false)))=some c:=by
   cases wb <;> cases wp <;> exact ⟨_,rfl⟩
  simp only [hc,Option.bind_some]
  cases hc2:c.2.2 with
  | false =>
    simp only [Bool.false_eq_true,if_false]
    exact k1 _ _ _ _ _ _ _ o1 v1 v2
  | true =>
    have hl1:=o1.len
    have hon1:On d a0 b0 l0 l1:=hon.trans d (o1.mono d h0 i1 i3 (by omega))
    have hpre1:Pre d lt a b l1:=EL hpre h0 i1 i3 hon1 (Wi hout o1 h0 i1 i3)
    obtain ⟨r,l2,t1,t2,t3⟩:=EI hbr w (a:=a) (b:=b) (l0:=l1) (by omega) (by omega) (by omega) (hf.on o1) hpre1
    simp only [if_true,t1,Option.bind_some]
    cases hr:r with
    | true =>
      right
      simp only [if_true]
      exact ⟨l2,rfl,fin l2 (o1.trans d t2) (t3 hr)⟩
    | false =>
      simp only [Bool.false_eq_true,if_false]
      exact k1 _ _ _ _ _ _ _ (o1.trans d t2) v1 v2
 have k3:∀ (lim':Int) (l1:List α),On d a b l l1 →
   (∃ s',Ag br self (a,b,lim,wb,wp,l) (lim',l1)=some (.inl s')∧(a0≤s'.1∧s'.1≤s'.2.1∧s'.2.1≤b0∧On d a0 b0 l0 s'.2.2.2.2.2∧Out d lt a0 b0 s'.1 s'.2.1 s'.2.2.2.2.2)∧(s'.2.1-s'.1).toNat<(b-a).toNat) ∨
   (∃ r,Ag br self (a,b,lim,wb,wp,l) (lim',l1)=some (.inr r)∧On d a0 b0 l0 r∧Asc d lt a0 b0 r):=by
  intro lim' l1 o1
  have hl1:=o1.len
  unfold Ag
  obtain ⟨pv,h,t1,t2,t3⟩:=IC hbr (l:=l1) (hf.on o1) (a:=a) (b:=b) (by omega) (by omega) (by omega)
  simp only [t1,Option.bind_some]
  by_cases h2:h=2
  ·obtain ⟨l2,u1,u2⟩:=ER (br:=br) (d:=d) (a:=a) (b:=b) (l0:=l1) (by omega) (by omega) (by omega) i2
   have e1:aH b 1=b-1:=bE (by omega) (by omega)
   have e2:aH pv a=pv-a:=bE (by omega) (by omega)
   have e3:aH (b-1) (pv-a)=b-1-(pv-a):=bE (by omega) (by omega)
   simp only [h2,beq_self_eq_true,if_true,u1,Option.bind_some,e1,e2,e3]
   exact k2 _ _ _ _ (o1.trans d u2) (by omega) (by omega)
  ·have:(h==2)=false:=by simp [h2]
   simp only [this,Bool.false_eq_true,if_false]
   exact k2 _ _ _ _ o1 t2 t3
 cases hwb:wb with
 | false =>
   obtain ⟨l1,t1,t2⟩:=LA (br:=br) (d:=d) (a:=a) (b:=b) (l0:=l) (by omega) (by omega) (by omega) i2
   simp only [Bool.not_false,if_true,t1,Option.bind_some]
   have:=k3 (aH lim 1) l1 t2
   rw [hwb] at this
   exact this
 | true =>
   simp only [Bool.not_true,Bool.false_eq_true,if_false]
   have:=k3 lim l (.refl _)
   rw [hwb] at this
   exact this
theorem NN:∀ (n:Nat) (a b limit:Int) (l:List α),0≤a→a≤b→b≤l.length→Iw P d l→Pre d lt a b l→b-a<2^n→∃ l',tG br (n+1) a b limit l=some l'∧On d a b l l'∧Asc d lt a b l'
 | 0,a,b,limit,l,h0,hab,hb,hf,hp,hn=>by
   obtain ⟨l',t1,t2,t3⟩:=CC hbr w (self:=tG br 0) (N:=0) (fun a b limit l h1 h2 _ _ _ h3=>by omega) (limit:=limit) h0 hab hb hf hp (.inl (by omega))
   refine ⟨l', ?_,t2,t3⟩
   show wS br (tG br 0) a b limit l=some l'
   unfold wS
   rw [t1];rfl
 | n+1,a,b,limit,l,h0,hab,hb,hf,hp,hn=>by
   obtain ⟨l',t1,t2,t3⟩:=CC hbr w (self:=tG br (n+1)) (N:=2^n) (fun a b limit l h1 h2 h3 h4 h5 h6=>NN n a b limit l h1 h2 h3 h4 h5 h6) (limit:=limit) h0 hab hb hf hp (.inr (by rw [Int.pow_succ] at hn;omega))
   refine ⟨l', ?_,t2,t3⟩
   show wS br (tG br (n+1)) a b limit l=some l'
   unfold wS
   rw [t1];rfl
theorem RH (m:Nat) (hm:31≤m) {l:List α} (hf:Iw P d l) (v:Int):∃ l',tG br (m+1) 0 (l.length:Int) v l=some l'∧On d 0 (l.length:Int) l l'∧Asc d lt 0 (l.length:Int) l':=by
 have hL:=hf.len
 refine NN hbr w m 0 (l.length:Int) v l (Int.le_refl _) (by omega) (Int.le_refl _) hf (fun h=>absurd h (by omega)) ?_
 have h1:(2147483648:Nat)≤2^m:=Nat.le_trans (by decide:2147483648≤2^31) (Nat.pow_le_pow_right (by omega) hm)
 have h3:((2:Int)^m)=((2^m:Nat):Int):=by simp
 rw [h3]
 omega
theorem Mv {l:List α} (hf:Iw P d l):∃ l',Fa br l=some l'∧l'.Perm l∧l'.Pairwise fun x y=>lt y x=false:=by
 have hL:=hf.len
 obtain ⟨v,v1,_⟩:=MS (x:=(l.length:Int)) (by omega) hL
 obtain ⟨l',t1,t2,t3⟩:=RH hbr w 999 (by omega) hf v
 refine ⟨l', ?_,t2.perm, ?_⟩
 ·unfold Fa Vl
  rw [v1,Option.bind_some,t1];rfl
 ·have hl:=t2.len
  rw [List.pairwise_iff_getElem]
  intro i j hi hj hij
  have:=t3 (i:Int) (j:Int) (by omega) (by omega) (by omega)
  unfold gz at this
  rw [List.getD_eq_getElem?_getD,List.getD_eq_getElem?_getD,Int.toNat_natCast,Int.toNat_natCast,List.getElem?_eq_getElem hi,List.getElem?_eq_getElem hj] at this
  exact this
end
def El {α:Type} (a1:Int×Int×(List α)):Int×(List α)→Option (Int×Int×(List α) ⊕ Int×(List α)):=fun a0 =>
 some (.inl (a0.1,(aF a1.2.1 1),a0.2))
def Em {α:Type} (eqb:α→α→Bool) (h0:(List α)) (a1:Int):Int×Int×(List α)→Option (Int×Int×(List α) ⊕ Int×(List α)):=fun a0 =>
 if (decide (a0.2.1<((Int.toNat (h0.length:Int)-Int.toNat a1:Nat):Int))) then ((idx (List.take (Int.toNat (h0.length:Int)-Int.toNat a1) (List.drop (Int.toNat a1) a0.2.2)) a0.2.1).bind fun a2=>(idx (List.take (Int.toNat (h0.length:Int)-Int.toNat a1) (List.drop (Int.toNat a1) a0.2.2)) (aH a0.2.1 1)).bind fun a3=>if (!(eqb a2 a3)) then ((idx (List.take (Int.toNat (h0.length:Int)-Int.toNat a1) (List.drop (Int.toNat a1) a0.2.2)) a0.2.1).bind fun a4=>(idx a0.2.2 a0.1).bind fun a5=>El a0 ((aF a0.1 1),(List.set a0.2.2 (Int.toNat a0.1) a4))) else (El a0 (a0.1,a0.2.2))) else (some (.inr (a0.1,a0.2.2)))
def Jf {α:Type} (eqb:α→α→Bool) (z:α) (h0:(List α)):Int→Option (Int ⊕ ((List α) ⊕ Unit)):=fun a1 =>
 if (decide (a1<(h0.length:Int))) then ((idx h0 a1).bind fun a3=>(idx h0 (aH a1 1)).bind fun a4=>if (eqb a3 a4) then (if (decide ((0:Int)≤a1)&&(decide (a1≤(h0.length:Int))&&decide ((h0.length:Int)≤(h0.length:Int)))) then ((aL (Em eqb h0 a1) (a1,1,h0)).bind fun a0=>if (decide ((0:Int)≤a0.1)&&(decide (a0.1≤(a0.2.length:Int))&&decide ((a0.2.length:Int)≤(a0.2.length:Int)))) then ((slc (cpy a0.2 (Int.toNat a0.1) (List.replicate (Int.toNat (a0.2.length:Int)-Int.toNat a0.1) z)) 0 a0.1).bind fun a2=>some (.inr (.inl a2))) else none) else none) else (some (.inl (aF a1 1)))) else (some (.inr (.inr (()))))
def Pg {α:Type} (eqb:α→α→Bool) (z:α) (h0:(List α)):Option ((List α)):=
 if (decide ((h0.length:Int)<2)) then (some h0) else ((aL (Jf eqb z h0) 1).bind fun a1=>match a1 with | .inl a0=>some a0 | .inr a2=>some h0)
section
variable {α:Type} {lt:α→α→Bool} (w:Rn lt) (tri:∀ x y,lt x y=false→lt y x=false→x=y) {eqb:α→α→Bool} (heq:∀ x y,eqb x y=true↔x=y) (z:α)
include w tri
theorem Ta {r:List α} {y x:α} (hr:(r++[y]).Pairwise fun a b=>lt a b=true) (hy:lt x y=false) (hne:x≠y):(r++[y]++[x]).Pairwise fun a b=>lt a b=true:=by
 have hyx:lt y x=true:=by
  cases h:lt y x with
  | true=>rfl
  | false=>exact absurd (tri x y hy h) hne
 rw [List.pairwise_append]
 refine ⟨hr,by simp,fun a ha b hb=>?_⟩
 simp at hb
 subst hb
 rw [List.pairwise_append] at hr
 rcases List.mem_append.1 ha with m | m
 ·have h1:=hr.2.2 a m y (by simp)
  rcases w.neg y a b hyx with q | q
  ·rw [w.asymm _ _ h1] at q;cases q
  ·exact q
 ·simp at m;subst m;exact hyx
include heq
theorem Uz {l:List α} (hl:(l.length:Int)≤1073741824) (hs:l.Pairwise fun x y=>lt y x=false) :
  ∃ r,Pg eqb z l=some r∧(r.Pairwise fun x y=>lt x y=true)∧∀ x,x ∈ r↔x ∈ l:=by
 unfold Pg
 by_cases h2:(l.length:Int)<2
 ·refine ⟨l,by simp only [h2,decide_true,if_true], ?_,fun x=>Iff.rfl⟩
  have hlen:l.length<2:=by omega
  clear hl hs h2
  rcases l with _ | ⟨x,_ | ⟨y,t⟩⟩
  ·exact .nil
  ·simp
  ·simp at hlen;omega
 simp only [h2,decide_false,Bool.false_eq_true,if_false]
 have adj:∀ (i j:Nat) (x y:α),i<j→l[i]?=some x→l[j]?=some y→lt y x=false:=fun i j x y hij hx hy=>by
  have h1:=(List.getElem?_eq_some_iff.1 hx)
  have h3:=(List.getElem?_eq_some_iff.1 hy)
  obtain ⟨a1,rfl⟩:=h1
  obtain ⟨b1,rfl⟩:=h3
  exact List.pairwise_iff_getElem.1 hs i j a1 b1 hij
 have get:∀ i:Nat,i<l.length→∃ x,l[i]?=some x:=fun i hi=>⟨l[i],List.getElem?_eq_getElem hi⟩
 have takes:∀ (i:Nat) (x:α),l[i]?=some x→l.take (i+1)=l.take i++[x]:=fun i x hx=>by rw [List.take_add_one,hx];rfl
 -- the second walk
 have inner:∀ (k:Nat) (y:α),1≤k→k<l.length→l[k]?=some y→l[k-1]?=some y→((l.take k).Pairwise fun x y=>lt x y=true) →
   ∃ (i:Nat) (l':List α),aL (Em eqb l (k:Int)) ((k:Int),1,l)=some ((i:Int),l')∧i≤l'.length∧l'.length=l.length∧((l'.take i).Pairwise fun x y=>lt x y=true)∧∀ x,x ∈ l'.take i↔x ∈ l:=by
  intro k y k1 kl hy hy1 hp
  obtain ⟨r,r1,i,r2,r3,r4,r5,r6⟩:=nW (fun s:Int×Int×List α=>((l.length:Int)-k-s.2.1).toNat)
   (fun s:Int×Int×List α=>∃ (i p:Nat) (y:α),s.1=i∧s.2.1=((p-k:Nat):Int)∧k+1≤p∧p≤l.length∧1≤i∧i≤p-1∧s.2.2.length=l.length∧s.2.2.drop i=l.drop i∧l[p-1]?=some y∧(∃ t,s.2.2.take i=t++[y])∧((s.2.2.take i).Pairwise fun x y=>lt x y=true)∧∀ x,x ∈ s.2.2.take i↔x ∈ l.take p)
   (fun r:Int×List α=>∃ i:Nat,r.1=i∧i≤r.2.length∧r.2.length=l.length∧((r.2.take i).Pairwise fun x y=>lt x y=true)∧∀ x,x ∈ r.2.take i↔x ∈ l) (Em eqb l (k:Int)) (by
    rintro ⟨i',k2,m⟩ ⟨i,p,y,hi',hk2,p1,p2,i0,i1,hml,hdrop,hy,⟨t,ht⟩,hpw,hmem⟩
    simp only at hi' hk2 hml hdrop ht hpw hmem ⊢
    subst hi' hk2
    unfold Em
    simp only [Int.toNat_natCast]
    by_cases hp:p<l.length
    ·left
     obtain ⟨x,hx⟩:=get p hp
     have mg:∀ j,i≤j→m[j]?=l[j]?:=fun j hj=>by
      have:=congrArg (fun q=>q[j-i]?) hdrop
      simp only [List.getElem?_drop] at this
      rwa [show i+(j-i)=j from by omega] at this
     have hc:((p-k:Nat):Int)<((l.length-k:Nat):Int):=by omega
     have g1:idx (List.take (l.length-k) (List.drop k m)) ((p-k:Nat):Int)=some x:=by
      rw [Zj,List.getElem?_take,if_pos (by omega),List.getElem?_drop,show k+(p-k)=p from by omega,mg p (by omega),hx]
     have e1:aH ((p-k:Nat):Int) 1=((p-1-k:Nat):Int):=by rw [bE (by omega) (by omega)];omega
     have g2:idx (List.take (l.length-k) (List.drop k m)) ((p-1-k:Nat):Int)=some y:=by
      rw [Zj,List.getElem?_take,if_pos (by omega),List.getElem?_drop,show k+(p-1-k)=p-1 from by omega,mg (p-1) (by omega),hy]
     have e2:aF ((p-k:Nat):Int) 1=((p+1-k:Nat):Int):=by rw [aP (by omega) (by omega)];omega
     have e3:aF (i:Int) 1=((i+1:Nat):Int):=by rw [aP (by omega) (by omega)];omega
     have tk:=takes p x hx
     simp only [hc,decide_true,if_true,g1,Option.bind_some,e1,g2]
     cases hb:eqb x y with
     | true =>
       obtain rfl:=(heq x y).1 hb
       simp only [Bool.not_true,Bool.false_eq_true,if_false,El,e2]
       refine ⟨_,rfl,⟨i,p+1,x,rfl,rfl,by omega,by omega,i0,by omega,hml,hdrop,by rw [show p+1-1=p from by omega];exact hx,⟨t,ht⟩,hpw,fun v=>?_⟩,by simp only;omega⟩
       rw [hmem v,tk,List.mem_append,List.mem_singleton]
       constructor
       ·exact .inl
       ·rintro (q | rfl)
        ·exact q
        ·rw [← hmem v,ht];simp
     | false =>
       have hne:x≠y:=fun e=>by rw [(heq x y).2 e] at hb;cases hb
       have gi:idx m (i:Int)=some (m[i]'(by omega)):=by rw [Zj];exact List.getElem?_eq_getElem _
       simp only [Bool.not_false,if_true,gi,Option.bind_some,El,e2,e3]
       have tset:(m.set i x).take (i+1)=m.take i++[x]:=by
        rw [List.take_add_one,List.take_set_of_le (Nat.le_refl i),List.getElem?_set,if_pos rfl,if_pos (by omega)];rfl
       refine ⟨_,rfl,⟨i+1,p+1,x,rfl,rfl,by omega,by omega,by omega,by omega,by simp only [List.length_set];exact hml, ?_,by rw [show p+1-1=p from by omega];exact hx,⟨m.take i,tset⟩, ?_,fun v=>?_⟩,by simp only;omega⟩
       ·simp only
        rw [List.drop_set_of_lt (by omega),← List.drop_drop,hdrop,List.drop_drop]
       ·simp only
        rw [tset,ht]
        rw [ht] at hpw
        exact Ta w tri hpw (adj (p-1) p y x (by omega) hy hx) hne
       ·simp only
        rw [tset,tk,List.mem_append,List.mem_append,hmem v]
    ·right
     have hc:¬ ((p-k:Nat):Int)<((l.length-k:Nat):Int):=by omega
     refine ⟨((i:Int),m),by simp only [hc,decide_false,Bool.false_eq_true,if_false],i,rfl,by simp only;omega,hml,hpw,fun v=>?_⟩
     rw [hmem v,List.take_of_length_le (by omega)]) ((k:Int),1,l) ⟨k,k+1,y,rfl,by simp only;omega,by omega,by omega,k1,by omega,rfl,rfl,by rw [show k+1-1=k from by omega];exact hy,⟨l.take (k-1),by
      have:=takes (k-1) y hy1
      rwa [show k-1+1=k from by omega] at this⟩,hp,fun v=>by
      rw [takes k y hy,List.mem_append,List.mem_singleton]
      constructor
      ·exact .inl
      ·rintro (q | rfl)
       ·exact q
       ·have:=takes (k-1) v hy1
        rw [show k-1+1=k from by omega] at this
        rw [this];simp⟩
  exact ⟨i,r.2,by rw [r1];congr 1;exact Prod.ext r2 rfl,r3,r4,r5,r6⟩
 obtain ⟨r,r1,r2⟩:=nW (fun s:Int=>((l.length:Int)-s).toNat) (fun s:Int=>∃ k:Nat,s=k∧1≤k∧k≤l.length∧((l.take k).Pairwise fun x y=>lt x y=true))
  (fun r:List α ⊕ Unit=>match r with | .inl r=>(r.Pairwise fun x y=>lt x y=true)∧∀ x,x ∈ r↔x ∈ l | .inr _=>l.Pairwise fun x y=>lt x y=true) (Jf eqb z l) (by
   rintro s ⟨k,rfl,k1,k2,hp⟩
   unfold Jf
   by_cases hk:k<l.length
   ·have hc:(k:Int)<(l.length:Int):=by omega
    obtain ⟨x,hx⟩:=get k hk
    obtain ⟨y,hy⟩:=get (k-1) (by omega)
    have e1:aH (k:Int) 1=((k-1:Nat):Int):=by rw [bE (by omega) (by omega)];omega
    simp only [hc,decide_true,if_true,bB hx,Option.bind_some,e1,bB hy]
    cases hb:eqb x y with
    | false =>
      left
      have hne:x≠y:=fun e=>by rw [(heq x y).2 e] at hb;cases hb
      simp only [Bool.false_eq_true,if_false]
      refine ⟨((k+1:Nat):Int),by rw [bJ k (by omega)],⟨k+1,rfl,by omega,by omega, ?_⟩,by omega⟩
      rw [takes k x hx]
      have:=takes (k-1) y hy
      rw [show k-1+1=k from by omega] at this
      rw [this] at hp ⊢
      exact Ta w tri hp (adj (k-1) k y x (by omega) hy hx) hne
    | true =>
      right
      obtain rfl:=(heq x y).1 hb
      obtain ⟨i,l',t1,t2,t3,t4,t5⟩:=inner k x k1 hk hx hy hp
      have c0:decide ((0:Int)≤(k:Int))=true:=by simp
      have c1:decide ((k:Int)≤(l.length:Int))=true:=by simp;omega
      have c2:decide ((l.length:Int)≤(l.length:Int))=true:=by simp
      have c3:decide ((0:Int)≤(i:Int))=true:=by simp
      have c4:decide ((i:Int)≤(l'.length:Int))=true:=by simp;omega
      have c5:decide ((l'.length:Int)≤(l'.length:Int))=true:=by simp
      have hsl:slc (cpy l' i (List.replicate (l'.length-i) z)) 0 (i:Int)=some (l'.take i):=by
       unfold slc cpy
       rw [if_pos ⟨Int.le_refl _,by omega,by simp;omega⟩]
       simp only [Int.toNat_natCast,Int.toNat_zero,List.drop_zero]
       rw [List.append_assoc,List.take_append_of_le_length (by rw [List.length_take];omega),List.take_take,Nat.min_self]
      simp only [if_true,c0,c1,c2,Bool.and_self,t1,Option.bind_some,c3,c4,c5,Int.toNat_natCast,hsl]
      exact ⟨_,rfl,t4,t5⟩
   ·right
    have hc:¬ (k:Int)<(l.length:Int):=by omega
    refine ⟨.inr (),by simp only [hc,decide_false,Bool.false_eq_true,if_false], ?_⟩
    simp only
    rwa [List.take_of_length_le (by omega)] at hp) 1 ⟨1,rfl,by omega,by omega,by
     have hlen:2≤l.length:=by omega
     clear inner takes get adj h2 hs hl
     rcases l with _ | ⟨x,t⟩
     ·simp at hlen
     ·simp⟩
 rw [r1,Option.bind_some]
 cases r with
 | inl r=>exact ⟨r,rfl,r2.1,r2.2⟩
 | inr _=>exact ⟨l,rfl,r2,fun x=>Iff.rfl⟩
end
end Go.SM
namespace Go.Cells
def UY (s:Int→Int) (a b:Int):Prop:=a<b∧s a≠0∧(∀ z,a≤z→z<b→s z=s a)∧s (a-1)≠s a∧s b≠s a
def TI (s:Int→Int) (l:List (Int×Int)):Prop:=l.Pairwise (fun p q=>p.1<q.1)∧∀ a b,(a,b) ∈ l↔UY s a b
def cut (s:Int→Int) (e:Int):Int→Int:=fun z=>if z<e then s z else 0
section
variable {s:Int→Int} {e e':Int} {l:List (Int×Int)} (h:TI (cut s e) l) (he:e<e') (hs:∀ z,e≤z→z<e'→s z=s e)
include h he hs
end
end Go.Cells
namespace Go.SM
open Go Go.VI
structure aE where
 X:Int
 Y:Int
 W:Int
 H:Int
def aJ (x:aE):List PV:=[(vI x.X),(vI x.Y),(vI x.W),(vI x.H)]
abbrev bD (l:List aE):PV:=.sl (List.map aJ l)
abbrev cD (e:Nat) (l:List aE):HO:=.row e [] (List.map aJ l)
structure aZ where
 Name:ByteArray
 aW:ByteArray
 bQ:Int
 bM:Int
 bI:Int
 aY:Int
 aT:(List aE)
 Used:(List aE)
def bS (x:aZ):List PV:=[(vS x.Name),(vS x.aW),(vI x.bQ),(vI x.bM),(vI x.bI),(vI x.aY),(.sl (List.map aJ x.aT)),(.sl (List.map aJ x.Used))]
abbrev qG (l:List aZ):PV:=.sl (List.map bS l)
structure aQ where
 Name:ByteArray
 aW:ByteArray
 bQ:Int
 bM:Int
 aD:(List aE)
 bU:(List aE)
 Forms:(List aE)
def bN (x:aQ):List PV:=[(vS x.Name),(vS x.aW),(vI x.bQ),(vI x.bM),(.sl (List.map aJ x.aD)),(.sl (List.map aJ x.bU)),(.sl (List.map aJ x.Forms))]
abbrev kV (l:List aQ):PV:=.sl (List.map bN l)
abbrev vC (e:Nat) (l:List aQ):HO:=.row e [] (List.map bN l)
structure bK where
 Gap:Int
 bF:Int
 jS:Bool
def bX (x:bK):List PV:=[(vI x.Gap),(vI x.bF),(vB x.jS)]
structure eA where
 Bl:(List aZ)
 wF:(List aQ)
 Set:bK
def bO (x:eA):List PV:=[(.sl (List.map bS x.Bl)),(.sl (List.map bN x.wF)),(vI x.Set.Gap),(vI x.Set.bF),(vB x.Set.jS)]
structure aS where
 aQ:Int
 aZ:Int
 X:Int
 Y:Int
 zK:Int
def bG (x:aS):List PV:=[(vI x.aQ),(vI x.aZ),(vI x.X),(vI x.Y),(vI x.zK)]
abbrev bH (l:List aS):PV:=.sl (List.map bG l)
abbrev rB (e:Nat) (l:List aS):HO:=.row e [] (List.map bG l)
structure Ef where
 X1:Int
 Y1:Int
 X2:Int
 Y2:Int
def Jp (x:Ef):List PV:=[(vI x.X1),(vI x.Y1),(vI x.X2),(vI x.Y2)]
structure rN where
 CY:Int
 CZ:Int
 Line:Ef
 KJ:Int
 CX:Int
def iL (x:rN):List PV:=[(vI x.CY),(vI x.CZ),(vI x.Line.X1),(vI x.Line.Y1),(vI x.Line.X2),(vI x.Line.Y2),(vI x.KJ),(vI x.CX)]
abbrev yI (l:List rN):PV:=.sl (List.map iL l)
abbrev Bv (e:Nat) (l:List rN):HO:=.row e [] (List.map iL l)
structure Flat where
 aD:(List aE)
 bU:(List aE)
 Forms:(List aE)
 sU:(List rN)
def Dj (x:Flat):List PV:=[(.sl (List.map aJ x.aD)),(.sl (List.map aJ x.bU)),(.sl (List.map aJ x.Forms)),(.sl (List.map iL x.sU))]
structure aR where
 aE:aE
 gap:Int
 common:Bool
def cE (x:aR):List PV:=[(vI x.aE.X),(vI x.aE.Y),(vI x.aE.W),(vI x.aE.H),(vI x.gap),(vB x.common)]
abbrev gS (l:List aR):PV:=.sl (List.map cE l)
abbrev dF (e:Nat) (l:List aR):HO:=.row e [] (List.map cE l)
structure fE where
 mN:(List aE)
 bV:(List aR)
 eB:aE
 w:Int
 h:Int
def gD (x:fE):List PV:=[(.sl (List.map aJ x.mN)),(.sl (List.map cE x.bV)),(vI x.eB.X),(vI x.eB.Y),(vI x.eB.W),(vI x.eB.H),(vI x.w),(vI x.h)]
structure aI where
 lo:Int
 hi:Int
def aB (x:aI):List PV:=[(vI x.lo),(vI x.hi)]
abbrev rA (l:List aI):PV:=.sl (List.map aB l)
abbrev aO (e:Nat) (l:List aI):HO:=.row e [] (List.map aB l)
structure eL where
structure Bz where
 x:(List Int)
 y:(List Int)
def Oz (x:aE):Prop:=R64 x.X∧R64 x.Y∧R64 x.W∧R64 x.H
def Yy (x:aZ):Prop:=RT x.Name∧RT x.aW∧R64 x.bQ∧R64 x.bM∧R64 x.bI∧R64 x.aY∧(RL Oz) x.aT∧(RL Oz) x.Used
def Yx (x:aQ):Prop:=RT x.Name∧RT x.aW∧R64 x.bQ∧R64 x.bM∧(RL Oz) x.aD∧(RL Oz) x.bU∧(RL Oz) x.Forms
def Un (x:bK):Prop:=R64 x.Gap∧R64 x.bF∧RT x.jS
def Lu (x:eA):Prop:=(RL Yy) x.Bl∧(RL Yx) x.wF∧Un x.Set
def Sn (x:aS):Prop:=R64 x.aQ∧R64 x.aZ∧R64 x.X∧R64 x.Y∧R64 x.zK
end Go.SM
end
