/- What the functions compute, part 1. -/
import Derived.Test.YtonmponhpfpokaaGreatRVHC3
import Derived.Test.YtonmponhpfpokaaGreatRVHC4
import Derived.Lib.IndexMore
set_option linter.unusedVariables false
set_option linter.unusedSimpArgs false
set_option linter.unusedSectionVars false
noncomputable section
namespace Go.Cells
def wO (f:Nat→Int):Nat→Int
 | 0=>0
 | n+1=>wO f n+f n
def S (a b:Int) (f:Int→Int):Int:=wO (fun k=>f (a+k)) (b-a).toNat
theorem Bh {f g:Nat→Int}:∀ {n:Nat},(∀ k,k<n→f k=g k)→wO f n=wO g n
 | 0,_=>rfl
 | n+1,h=>by simp only [wO];rw [Bh fun k hk=>h k (by omega),h n (by omega)]
theorem Mp (f:Nat→Int) (m:Nat):∀ n,wO f (m+n)=wO f m+wO (fun k=>f (m+k)) n
 | 0=>by simp [wO]
 | n+1=>by rw [← Nat.add_assoc];simp only [wO];rw [Mp f m n];omega
theorem Af {a b:Int} (h:b≤a) (f:Int→Int):S a b f=0:=by
 unfold S;rw [show (b-a).toNat=0 from by omega];rfl
theorem Da {a b:Int} {f g:Int→Int} (h:∀ x,a≤x→x<b→f x=g x):S a b f=S a b g:=
 Bh fun k hk=>h _ (by omega) (by omega)
theorem Jw {a m b:Int} (h1:a≤m) (h2:m≤b) (f:Int→Int):S a b f=S a m f+S m b f:=by
 unfold S
 rw [show (b-a).toNat=(m-a).toNat+(b-m).toNat from by omega,Mp]
 congr 1
 exact Bh fun k _=>by congr 1;omega
theorem GF (a:Int) (f:Int→Int):S a (a+1) f=f a:=by
 unfold S;rw [show (a+1-a).toNat=1 from by omega];simp [wO]
theorem Ha {a b:Int} (h:a≤b) (f:Int→Int):S a (b+1) f=S a b f+f b:=by
 rw [Jw h (by omega),GF]
theorem Yi {a:Int} {P:Int→Prop} (h0:P a) (hs:∀ b,a≤b→P b→P (b+1)) (b:Int) (h:a≤b):P b:=by
 have:∀ n:Nat,P (a+n):=fun n=>by
  induction n with
  | zero=>simpa using h0
  | succ n ih=>have:=hs _ (by omega) ih;rwa [show a+((n+1:Nat):Int)=a+n+1 from by omega]
 have:=this (b-a).toNat
 rwa [show a+((b-a).toNat:Int)=b from by omega] at this
theorem Ii {a b:Int} (f g:Int→Int):S a b (fun x=>f x+g x)=S a b f+S a b g:=by
 by_cases h:a≤b
 ·revert b
  intro b h
  refine Yi (P:=fun b=>S a b (fun x=>f x+g x)=S a b f+S a b g) ?_ (fun b hb ih=>?_) b h
  ·simp [Af]
  ·rw [Ha hb,Ha hb,Ha hb,ih];omega
 ·simp [Af (show b≤a by omega)]
theorem Db {a b:Int} (h:a≤b) {f:Int→Int} {c:Int} (hc:∀ x,a≤x→x<b→f x=c):S a b f=(b-a)*c:=by
 rw [Da hc]
 refine Yi (P:=fun b=>S a b (fun _=>c)=(b-a)*c) ?_ (fun b hb ih=>?_) b h
 ·simp [Af]
 ·rw [Ha hb,ih,show b+1-a=(b-a)+1 from by omega,Int.add_mul];omega
theorem Ag {a b:Int} {f:Int→Int} (hc:∀ x,a≤x→x<b→f x=0):S a b f=0:=by
 by_cases h:a≤b
 ·rw [Db h hc,Int.mul_zero]
 ·exact Af (by omega) f
theorem FF {a b:Int} {f g:Int→Int} (h:∀ x,a≤x→x<b→f x≤g x):S a b f≤S a b g:=by
 by_cases hab:a≤b
 ·revert h
  refine Yi (P:=fun b=>(∀ x,a≤x→x<b→f x≤g x)→S a b f≤S a b g) (fun _=>by simp [Af]) (fun b hb ih h=>?_) b hab
  rw [Ha hb,Ha hb]
  have:=ih fun x h1 h2=>h x h1 (by omega)
  have:=h b hb (by omega)
  omega
 ·simp [Af (show b≤a by omega)]
theorem Qg {a b:Int} {f:Int→Int} (h:∀ x,a≤x→x<b→0≤f x):0≤S a b f:=by
 have:=FF (a:=a) (b:=b) (f:=fun _=>0) (g:=f) h
 rwa [Ag fun _ _ _=>rfl] at this
theorem Jx {a b a' b':Int} {f:Int→Int} (h1:a'≤a) (h2:a≤b) (h3:b≤b') (h:∀ x,a'≤x→x<b'→(x<a∨b≤x)→f x=0):S a' b' f=S a b f:=by
 rw [Jw h1 (by omega),Jw h2 h3,Ag (a:=a') (b:=a) fun x p q=>h x p (by omega) (.inl q),Ag (a:=b) (b:=b') fun x p q=>h x (by omega) q (.inr p)]
 omega
def pS (g:Int→Int):List Int→Int
 | []=>0
 | [_]=>0
 | x::y::t=>(y-x)*g x+pS g (y::t)
def xR {β:Type} (g:Int→β):List Int→Prop
 | []=>True
 | [_]=>True
 | x::y::t=>x<y∧(∀ z,x≤z→z<y→g z=g x)∧xR g (y::t)
theorem Bd {β:Type} {g:Int→β}:∀ (x:Int) (t:List Int),xR g (x::t)→x≤(x::t).getLast (by simp)
 | x,[],_=>by simp
 | x,y::t,h=>by
   have:=Bd y t h.2.2
   have:=h.1
   rw [List.getLast_cons (by simp)]
   omega
theorem Pf {g:Int→Int}:∀ (x:Int) (t:List Int),xR g (x::t)→S x ((x::t).getLast (by simp)) g=pS g (x::t)
 | x,[],_=>by simp [Af,pS]
 | x,y::t,h=>by
   have h1:=h.1
   rw [List.getLast_cons (by simp),Jw (Int.le_of_lt h1) (Bd y t h.2.2),Pf y t h.2.2,Db (Int.le_of_lt h1) h.2.1]
   rfl
def one (b:Bool):Int:=if b then 1 else 0
theorem one_nonneg (b:Bool):0≤one b:=by cases b <;> decide
def gE (M:Int) (p:Int→Int→Bool):Int:=S (-M) M fun x=>S (-M) M fun y=>one (p x y)
theorem Kt {M:Int} {p q:Int→Int→Bool} (h:∀ x y,p x y=q x y):gE M p=gE M q:=by
 have:p=q:=funext fun x=>funext fun y=>h x y
 rw [this]
theorem tY {M:Int} (p:Int→Int→Bool):0≤gE M p:=Qg fun _ _ _=>Qg fun _ _ _=>one_nonneg _
theorem Hb {M:Int} {p:Int→Int→Bool} (h:∀ x y,p x y=false):gE M p=0:=Ag fun x _ _=>Ag fun y _ _=>by rw [h];rfl
def inR (a b c d:Int) (x y:Int):Bool:=decide (a≤x∧x<b)&&decide (c≤y∧y<d)
theorem Wk {M a b c d:Int} (ha : -M≤a) (hab:a≤b) (hb:b≤M) (hc : -M≤c) (hcd:c≤d) (hd:d≤M):gE M (inR a b c d)=(b-a)*(d-c):=by
 unfold gE
 rw [Jx ha hab hb fun x _ _ h=>Ag fun y _ _=>by
  unfold inR
  rw [decide_eq_false (by omega:¬ (a≤x∧x<b))];rfl]
 refine Db hab fun x h1 h2=>?_
 rw [Jx hc hcd hd fun y _ _ h=>by
  unfold inR
  rw [decide_eq_false (by omega:¬ (c≤y∧y<d)),Bool.and_false];rfl]
 rw [Db hcd (c:=1) fun y h3 h4=>by
  unfold inR
  rw [decide_eq_true (⟨h1,h2⟩:a≤x∧x<b),decide_eq_true (⟨h3,h4⟩:c≤y∧y<d)];rfl]
 omega
theorem Wi {M:Int} {p:Int→Int→Bool} {x0 y0:Int} {xs ys:List Int} (hx:xR (fun x=>p x) (x0::xs)) (hy:∀ x,xR (fun y=>p x y) (y0::ys))
  (h1 : -M≤x0) (h2:(x0::xs).getLast (by simp)≤M) (h3 : -M≤y0) (h4:(y0::ys).getLast (by simp)≤M)
  (hox:∀ x y,(x<x0∨(x0::xs).getLast (by simp)≤x)→p x y=false) (hoy:∀ x y,(y<y0∨(y0::ys).getLast (by simp)≤y)→p x y=false) :
  gE M p=pS (fun x=>pS (fun y=>one (p x y)) (y0::ys)) (x0::xs):=by
 have st1:∀ {β γ:Type} (f:β→γ) (g:Int→β) (l:List Int),xR g l→xR (fun x=>f (g x)) l:=by
  intro β γ f g l
  induction l with
  | nil=>exact fun _=>trivial
  | cons x t ih =>
    cases t with
    | nil=>exact fun _=>trivial
    | cons y t=>exact fun h=>⟨h.1,fun z a b=>congrArg f (h.2.1 z a b),ih h.2.2⟩
 unfold gE
 rw [Jx h1 (Bd _ _ hx) h2 fun x _ _ h=>Ag fun y _ _=>by rw [hox x y h];rfl]
 have e:∀ x,S (-M) M (fun y=>one (p x y))=pS (fun y=>one (p x y)) (y0::ys):=fun x=>by
  rw [Jx h3 (Bd _ _ (hy x)) h4 fun y _ _ h=>by rw [hoy x y h];rfl]
  exact Pf _ _ (st1 one (fun y=>p x y) _ (hy x))
 rw [Da fun x _ _=>e x]
 exact Pf _ _ (st1 (fun q=>pS (fun y=>one (q y)) (y0::ys)) (fun x=>p x) _ hx)
end Go.Cells
namespace Go.VI
theorem jB {S R:Type} (μ:S→Nat) (I:S→Prop) (Q:R→Prop) (body:S→Option (S ⊕ R))
  (step:∀ s,I s→(∃ s',body s=some (.inl s')∧I s'∧μ s'<μ s)∨(∃ r,body s=some (.inr r)∧Q r)):∀ s,I s→∃ r,aJ body s=some r∧Q r:=by
 have key:∀ (n:Nat) s,μ s<n→I s→∃ r,aJ body s=some r∧Q r:=by
  intro n
  induction n with
  | zero=>intro s h;exact absurd h (Nat.not_lt_zero _)
  | succ n ih =>
    intro s h hs
    rcases step s hs with ⟨s',e,hs',hm⟩ | ⟨r,e,hr⟩
    ·rw [tT e];exact ih s' (by omega) hs'
    ·exact ⟨r,pU e,hr⟩
 exact fun s hs=>key (μ s+1) s (Nat.lt_succ_self _) hs
section
variable {α:Type} (d:α)
def gz (l:List α) (i:Int):α:=l.getD i.toNat d
theorem eP {l:List α} {i:Int} (h:0≤i) (h2:i<l.length):idx l i=some (gz d l i):=by
 unfold idx gz
 rw [if_pos h,List.getD_eq_getElem?_getD,List.getElem?_eq_getElem (by omega)]
 rfl
theorem Zu {l:List α} {i k:Int} (hi:0≤i) (hk:0≤k) (h:i<l.length) (v:α):gz d (l.set i.toNat v) k=if k=i then v else gz d l k:=by
 unfold gz
 rw [List.getD_eq_getElem?_getD,List.getD_eq_getElem?_getD,List.getElem?_set]
 by_cases e:k=i
 ·subst e
  rw [if_pos rfl,if_pos (by omega),if_pos rfl];rfl
 ·rw [if_neg (by omega),if_neg e]
def sw (l:List α) (i j:Int):List α:=(l.set i.toNat (gz d l j)).set j.toNat (gz d l i)
theorem Mq (l:List α) (i j:Int):(sw d l i j).length=l.length:=by simp [sw]
theorem kY {l:List α} {i j k:Int} (hi:0≤i) (hj:0≤j) (hk:0≤k) (h1:i<l.length) (h2:j<l.length):gz d (sw d l i j) k=if k=j then gz d l i else if k=i then gz d l j else gz d l k:=by
 unfold sw
 rw [Zu d hj hk (by rw [List.length_set];exact h2),Zu d hi hk h1]
inductive On (a b:Int):List α→List α→Prop
 | refl (l:List α):On a b l l
 | step {l l':List α} (h:On a b l l') (i j:Int) (hi:a≤i) (hi':i<b) (hj:a≤j) (hj':j<b) (ha:0≤a) (hb:b≤l'.length):On a b l (sw d l' i j)
theorem On.len {a b:Int} {l l':List α} (h:On d a b l l'):l'.length=l.length:=by
 induction h with
 | refl=>rfl
 | step h i j _ _ _ _ _ _ ih=>rw [Mq,ih]
theorem On.trans {a b:Int} {l l' l'':List α} (h:On d a b l l') (h':On d a b l' l''):On d a b l l'':=by
 induction h' with
 | refl=>exact h
 | step _ i j hi hi' hj hj' ha hb ih=>exact .step ih i j hi hi' hj hj' ha hb
theorem On.mono {a b a' b':Int} {l l':List α} (h:On d a b l l') (h0:0≤a') (h1:a'≤a) (h2:b≤b') (h3:b'≤l.length):On d a' b' l l':=by
 induction h with
 | refl=>exact .refl _
 | step h i j hi hi' hj hj' ha hb ih=>exact .step ih i j (by omega) (by omega) (by omega) (by omega) h0 (by rw [h.len];exact h3)
theorem On.out {a b:Int} {l l':List α} (h:On d a b l l') {k:Int} (hk:0≤k) (hk':k<a∨b≤k):gz d l' k=gz d l k:=by
 induction h with
 | refl=>rfl
 | step h i j hi hi' hj hj' ha hb ih =>
   rw [kY d (by omega) (by omega) hk (by omega) (by omega),if_neg (by omega),if_neg (by omega),ih]
theorem On.all {a b:Int} {l l':List α} (h:On d a b l l') (Q:α→Prop) (hq:∀ k,a≤k→k<b→Q (gz d l k)):∀ k,a≤k→k<b→Q (gz d l' k):=by
 induction h with
 | refl=>exact hq
 | step h i j hi hi' hj hj' ha hb ih =>
   intro k h1 h2
   rw [kY d (by omega) (by omega) (by omega) (by omega) (by omega)]
   split
   ·exact ih i hi hi'
   ·split
    ·exact ih j hj hj'
    ·exact ih k h1 h2
theorem EI {l:List α} {i j:Int} (hi:0≤i) (hj:0≤j) (h1:i<l.length) (h2:j<l.length):(sw d l i j).Perm l:=by
 unfold sw gz
 have e1:l.getD i.toNat d=l[i.toNat]'(by omega):=by rw [List.getD_eq_getElem?_getD,List.getElem?_eq_getElem (by omega)];rfl
 have e2:l.getD j.toNat d=l[j.toNat]'(by omega):=by rw [List.getD_eq_getElem?_getD,List.getElem?_eq_getElem (by omega)];rfl
 rw [e1,e2]
 exact List.set_set_perm (by omega) (by omega)
theorem On.perm {a b:Int} {l l':List α} (h:On d a b l l'):l'.Perm l:=by
 induction h with
 | refl=>exact .refl _
 | step h i j hi hi' hj hj' ha hb ih=>exact (EI d (by omega) (by omega) (by omega) (by omega)).trans ih
def Asc (lt:α→α→Bool) (a b:Int) (l:List α):Prop:=∀ i j,a≤i→i<j→j<b→lt (gz d l j) (gz d l i)=false
structure Iz (lt:α→α→Bool):Prop where
 asymm:∀ x y,lt x y=true→lt y x=false
 neg:∀ x y z,lt x z=true→lt x y=true∨lt y z=true
theorem Iz.le_trans {lt:α→α→Bool} (w:Iz lt) {x y z:α} (h1:lt y x=false) (h2:lt z y=false):lt z x=false:=by
 cases h:lt z x with
 | false=>rfl
 | true=>rcases w.neg z y x h with q | q <;> simp_all
theorem Iz.irrefl {lt:α→α→Bool} (w:Iz lt) (x:α):lt x x=false:=by
 cases h:lt x x with
 | false=>rfl
 | true=>have:=w.asymm x x h;simp_all
end
end Go.VI
namespace Go.SM
open Go Go.VI
abbrev Br (α:Type):Type 1:=∀ (β:Type),α→α→(Bool→Option β)→Option β
def brC {α:Type} (cmp:α→α→Option Int):Br α:=fun _ x y k=>(cmp x y).bind fun r=>k (decide (r<0))
def mK:(Int×Int)→Option (Int):=fun j3 =>
 (Cw (ByteArray.mk #[0,1,2,2,3,3,3,3,4,4,4,4,4,4,4,4,5,5,5,5,5,5,5,5,5,5,5,5,5,5,5,5,6,6,6,6,6,6,6,6,6,6,6,6,6,6,6,6,6,6,6,6,6,6,6,6,6,6,6,6,6,6,6,6,7,7,7,7,7,7,7,7,7,7,7,7,7,7,7,7,7,7,7,7,7,7,7,7,7,7,7,7,7,7,7,7,7,7,7,7,7,7,7,7,7,7,7,7,7,7,7,7,7,7,7,7,7,7,7,7,7,7,7,7,7,7,7,7,8,8,8,8,8,8,8,8,8,8,8,8,8,8,8,8,8,8,8,8,8,8,8,8,8,8,8,8,8,8,8,8,8,8,8,8,8,8,8,8,8,8,8,8,8,8,8,8,8,8,8,8,8,8,8,8,8,8,8,8,8,8,8,8,8,8,8,8,8,8,8,8,8,8,8,8,8,8,8,8,8,8,8,8,8,8,8,8,8,8,8,8,8,8,8,8,8,8,8,8,8,8,8,8,8,8,8,8,8,8,8,8,8,8,8,8,8,8,8,8,8,8,8,8,8,8,8,8]) (IntKind.wrap .u8 j3.1)).bind fun x5=>some (aE j3.2 (IntKind.wrap .i64 x5))
def oV:(Int×Int)→Option (Int):=fun j2 =>
 if (decide (j2.1 ≥ 256)) then (mK ((Int.fdiv j2.1 (2^(min (Int.toNat 8) 64))),(aE j2.2 8))) else (mK (j2.1,j2.2))
def sR:(Int×Int)→Option (Int):=fun j1 =>
 if (decide (j1.1 ≥ 65536)) then (oV ((Int.fdiv j1.1 (2^(min (Int.toNat 16) 64))),(aE j1.2 16))) else (oV (j1.1,j1.2))
def Dz (x0:Int):Option (Int):=
 if (decide (x0 ≥ 4294967296)) then (sR ((Int.fdiv x0 (2^(min (Int.toNat 32) 64))),32)) else (sR (x0,0))
def xM (x0:Int):Option (Int):=
 (Dz x0).bind fun r2=>some r2
def rM (length:Int):Option (Int):=
 (xM (IntKind.wrap .u64 length)).bind fun r2=>if (decide (0≤r2)) then (some (IntKind.wrap .u64 (1*2^(min (Int.toNat r2) 64)))) else none
def yU (h0_0:Int):Option (Int):=
 some (fC .u64 (fC .u64 (fC .u64 h0_0 (IntKind.wrap .u64 (h0_0*2^(min (Int.toNat 13) 64)))) (Int.fdiv (fC .u64 h0_0 (IntKind.wrap .u64 (h0_0*2^(min (Int.toNat 13) 64)))) (2^(min (Int.toNat 7) 64)))) (IntKind.wrap .u64 ((fC .u64 (fC .u64 h0_0 (IntKind.wrap .u64 (h0_0*2^(min (Int.toNat 13) 64)))) (Int.fdiv (fC .u64 h0_0 (IntKind.wrap .u64 (h0_0*2^(min (Int.toNat 13) 64)))) (2^(min (Int.toNat 7) 64))))*2^(min (Int.toNat 17) 64))))
def mH {α:Type} (br:Br α) (a:Int):Int×(List α)→Option (Int×(List α) ⊕ (List α)):=fun a0 =>
 (if (decide (a0.1>a)) then ((idx a0.2 a0.1).bind fun a4=>(idx a0.2 (aH a0.1 1)).bind fun a5=>br _ a4 a5 fun a3=>some a3) else (some false)).bind fun a2=>if a2 then ((idx a0.2 (aH a0.1 1)).bind fun a1=>(idx a0.2 a0.1).bind fun a6=>(idx a0.2 a0.1).bind fun a7=>(idx (List.set a0.2 (Int.toNat a0.1) a1) (aH a0.1 1)).bind fun a8=>some (.inl ((aH a0.1 1),(List.set (List.set a0.2 (Int.toNat a0.1) a1) (Int.toNat (aH a0.1 1)) a6)))) else (some (.inr a0.2))
def pJ {α:Type} (br:Br α) (a:Int) (b:Int):Int×(List α)→Option (Int×(List α) ⊕ (List α)):=fun a0 =>
 if (decide (a0.1<b)) then ((aJ (mH br a) (a0.1,a0.2)).bind fun a1=>some (.inl ((aE a0.1 1),a1))) else (some (.inr a0.2))
def sU {α:Type} (br:Br α) (a:Int) (b:Int) (h0:(List α)):Option ((List α)):=
 (aJ (pJ br a b) ((aE a 1),h0)).bind fun a0=>some a0
def oG {α:Type} (br:Br α) (first:Int) (a0:Int×(List α)):Int→Option (Int×(List α) ⊕ ((List α) ⊕ (List α))):=fun a1 =>
 (idx a0.2 (aE first a0.1)).bind fun a4=>(idx a0.2 (aE first a1)).bind fun a5=>br _ a4 a5 fun a3=>if (!a3) then (some (.inr (.inr a0.2))) else ((idx a0.2 (aE first a1)).bind fun a2=>(idx a0.2 (aE first a0.1)).bind fun a6=>(idx a0.2 (aE first a0.1)).bind fun a7=>(idx (List.set a0.2 (Int.toNat (aE first a0.1)) a2) (aE first a1)).bind fun a8=>some (.inl (a1,(List.set (List.set a0.2 (Int.toNat (aE first a0.1)) a2) (Int.toNat (aE first a1)) a6))))
def vO {α:Type} (br:Br α) (hi:Int) (first:Int):Int×(List α)→Option (Int×(List α) ⊕ ((List α) ⊕ (List α))):=fun a0 =>
 if (decide ((aE (eG 2 a0.1) 1) ≥ hi)) then (some (.inr (.inl a0.2))) else ((if (decide ((aE (aE (eG 2 a0.1) 1) 1)<hi)) then ((idx a0.2 (aE first (aE (eG 2 a0.1) 1))).bind fun a3=>(idx a0.2 (aE (aE first (aE (eG 2 a0.1) 1)) 1)).bind fun a4=>br _ a3 a4 fun a2=>some a2) else (some false)).bind fun a1=>if a1 then (oG br first a0 (aE (aE (eG 2 a0.1) 1) 1)) else (oG br first a0 (aE (eG 2 a0.1) 1)))
def uC {α:Type} (br:Br α) (lo:Int) (hi:Int) (first:Int) (h0:(List α)):Option ((List α)):=
 (aJ (vO br hi first) (lo,h0)).bind fun a2=>match a2 with | .inl a0=>some a0 | .inr a1=>some a1
def vM {α:Type} (br:Br α) (a:Int) (b:Int):Int×(List α)→Option (Int×(List α) ⊕ (List α)):=fun a0 =>
 if (decide (a0.1 ≥ 0)) then ((uC br a0.1 (aH b a) a a0.2).bind fun a1=>some (.inl ((aH a0.1 1),a1))) else (some (.inr a0.2))
def vN {α:Type} (br:Br α) (a:Int):Int×(List α)→Option (Int×(List α) ⊕ (List α)):=fun a0 =>
 if (decide (a0.1 ≥ 0)) then ((idx a0.2 (aE a a0.1)).bind fun a1=>(idx a0.2 a).bind fun a3=>(idx a0.2 a).bind fun a4=>(idx (List.set a0.2 (Int.toNat a) a1) (aE a a0.1)).bind fun a5=>(uC br 0 a0.1 a (List.set (List.set a0.2 (Int.toNat a) a1) (Int.toNat (aE a a0.1)) a3)).bind fun a2=>some (.inl ((aH a0.1 1),a2))) else (some (.inr a0.2))
def Cj {α:Type} (br:Br α) (a:Int) (b:Int) (h0:(List α)):Option ((List α)):=
 (aJ (vM br a b) ((pK (aH (aH b a) 1) 2),h0)).bind fun a1=>(aJ (vN br a) ((aH (aH b a) 1),a1)).bind fun a0=>some a0
def mG {α:Type} (br:Br α) (a:Int) (a0:Int×Int×(List α)):Int→Option (Int×Int×(List α) ⊕ (List α)):=fun a1 =>
 (idx a0.2.2 (aE a a1)).bind fun a2=>(idx a0.2.2 a0.1).bind fun a3=>(idx a0.2.2 a0.1).bind fun a4=>(idx (List.set a0.2.2 (Int.toNat a0.1) a2) (aE a a1)).bind fun a5=>some (.inl ((aE a0.1 1),(fC .u64 (fC .u64 (fC .u64 a0.2.1 (IntKind.wrap .u64 (a0.2.1*2^(min (Int.toNat 13) 64)))) (Int.fdiv (fC .u64 a0.2.1 (IntKind.wrap .u64 (a0.2.1*2^(min (Int.toNat 13) 64)))) (2^(min (Int.toNat 7) 64)))) (IntKind.wrap .u64 ((fC .u64 (fC .u64 a0.2.1 (IntKind.wrap .u64 (a0.2.1*2^(min (Int.toNat 13) 64)))) (Int.fdiv (fC .u64 a0.2.1 (IntKind.wrap .u64 (a0.2.1*2^(min (Int.toNat 13) 64)))) (2^(min (Int.toNat 7) 64))))*2^(min (Int.toNat 17) 64)))),(List.set (List.set a0.2.2 (Int.toNat a0.1) a2) (Int.toNat (aE a a1)) a3)))
def pI {α:Type} (br:Br α) (a:Int) (b:Int) (r2:Int):Int×Int×(List α)→Option (Int×Int×(List α) ⊕ (List α)):=fun a0 =>
 if (decide (a0.1≤(aE (aE a (eG (pK (aH b a) 4) 2)) 1))) then ((yU a0.2.1).bind fun a1=>if (decide ((IntKind.wrap .i64 (Gi .u64 a1 (IntKind.wrap .u64 (r2-1)))) ≥ (aH b a))) then (mG br a a0 (aH (IntKind.wrap .i64 (Gi .u64 a1 (IntKind.wrap .u64 (r2-1)))) (aH b a))) else (mG br a a0 (IntKind.wrap .i64 (Gi .u64 a1 (IntKind.wrap .u64 (r2-1)))))) else (some (.inr a0.2.2))
def sS {α:Type} (br:Br α) (a:Int) (b:Int) (h0:(List α)):Option ((List α)):=
 if (decide ((aH b a) ≥ 8)) then ((rM (aH b a)).bind fun r2=>(aJ (pI br a b r2) ((aH (aE a (eG (pK (aH b a) 4) 2)) 1),(IntKind.wrap .u64 (aH b a)),h0)).bind fun a0=>some a0) else (some h0)
def yT {α:Type} (br:Br α) (data:(List α)) (a:Int) (b:Int) (h0_0:Int):Option (Int×Int×Int):=
 (idx data b).bind fun a1=>(idx data a).bind fun a2=>br _ a1 a2 fun a0=>if a0 then (some (b,a,(aE h0_0 1))) else (some (a,b,h0_0))
def Df {α:Type} (br:Br α) (data:(List α)) (a:Int) (b:Int) (c:Int) (h0_0:Int):Option (Int×Int):=
 (yT br data a b h0_0).bind fun r2=>(yT br data r2.2.1 c r2.2.2).bind fun r4=>(yT br data r2.1 r4.1 r4.2.2).bind fun r6=>some (r6.2.1,r6.2.2)
def kU {α:Type} (br:Br α) (data:(List α)) (a:Int) (h0_0:Int):Option (Int×Int):=
 (Df br data (aH a 1) a (aE a 1) h0_0).bind fun r2=>some (r2.1,r2.2)
def nS {α:Type} (br:Br α):(Int×Int)→Option (Int×Int):=fun a0 =>
 if (a0.2==0) then (some (a0.1,1)) else (if (a0.2==12) then (some (a0.1,2)) else (some (a0.1,0)))
def nT {α:Type} (br:Br α) (data:(List α)):(Int×Int×Int×Int)→Option (Int×Int):=fun a0 =>
 (Df br data a0.1 a0.2.1 a0.2.2.1 a0.2.2.2).bind fun a1=>nS br (a1.1,a1.2)
def vL {α:Type} (br:Br α) (data:(List α)) (a:Int) (b:Int):Option (Int×Int):=
 if (decide ((aH b a) ≥ 8)) then (if (decide ((aH b a) ≥ 50)) then ((kU br data (aE a (eG (pK (aH b a) 4) 1)) 0).bind fun a0=>(kU br data (aE a (eG (pK (aH b a) 4) 2)) a0.2).bind fun a1=>(kU br data (aE a (eG (pK (aH b a) 4) 3)) a1.2).bind fun a2=>nT br data (a0.1,a1.1,a2.1,a2.2)) else (nT br data ((aE a (eG (pK (aH b a) 4) 1)),(aE a (eG (pK (aH b a) 4) 2)),(aE a (eG (pK (aH b a) 4) 3)),0))) else (nS br ((aE a (eG (pK (aH b a) 4) 2)),0))
def qQ {α:Type} (br:Br α):Int×Int×(List α)→Option (Int×Int×(List α) ⊕ (List α)):=fun a0 =>
 if (decide (a0.1<a0.2.1)) then ((idx a0.2.2 a0.2.1).bind fun a1=>(idx a0.2.2 a0.1).bind fun a2=>(idx a0.2.2 a0.1).bind fun a3=>(idx (List.set a0.2.2 (Int.toNat a0.1) a1) a0.2.1).bind fun a4=>some (.inl ((aE a0.1 1),(aH a0.2.1 1),(List.set (List.set a0.2.2 (Int.toNat a0.1) a1) (Int.toNat a0.2.1) a2)))) else (some (.inr a0.2.2))
def uM {α:Type} (br:Br α) (a:Int) (b:Int) (h0:(List α)):Option ((List α)):=
 (aJ (qQ br) (a,(aH b 1),h0)).bind fun a0=>some a0
def jX {α:Type} (br:Br α) (a1:Int×Int×(List α)):Int×(List α)→Option (Int×Int×(List α) ⊕ (Bool×(List α) ⊕ (List α))):=fun a0 =>
 some (.inl (a0.1,(aE a1.2.1 1),a0.2))
def fZ {α:Type} (br:Br α) (b:Int) (a1:Int×Int×(List α)):Int→Option (Int ⊕ Int):=fun a0 =>
 (if (decide (a0<b)) then ((idx a1.2.2 a0).bind fun a4=>(idx a1.2.2 (aH a0 1)).bind fun a5=>br _ a4 a5 fun a3=>some (!a3)) else (some false)).bind fun a2=>if a2 then (some (.inl (aE a0 1))) else (some (.inr a0))
def gA {α:Type} (br:Br α) (b:Int):Int×(List α)→Option (Int×(List α) ⊕ (List α)):=fun a0 =>
 if (decide (a0.1<b)) then ((idx a0.2 a0.1).bind fun a3=>(idx a0.2 (aH a0.1 1)).bind fun a4=>br _ a3 a4 fun a2=>if (!a2) then (some (.inr a0.2)) else ((idx a0.2 (aH a0.1 1)).bind fun a1=>(idx a0.2 a0.1).bind fun a5=>(idx a0.2 a0.1).bind fun a6=>(idx (List.set a0.2 (Int.toNat a0.1) a1) (aH a0.1 1)).bind fun a7=>some (.inl ((aE a0.1 1),(List.set (List.set a0.2 (Int.toNat a0.1) a1) (Int.toNat (aH a0.1 1)) a5))))) else (some (.inr a0.2))
def fY {α:Type} (br:Br α) (b:Int) (a2:Int×Int×(List α)) (a0:Int):(List α)→Option (Int×Int×(List α) ⊕ (Bool×(List α) ⊕ (List α))):=fun a1 =>
 if (decide ((aH b a0) ≥ 2)) then ((aJ (gA br b) ((aE a0 1),a1)).bind fun a3=>jX br a2 (a0,a3)) else (jX br a2 (a0,a1))
def gB {α:Type} (br:Br α):Int×(List α)→Option (Int×(List α) ⊕ (List α)):=fun a0 =>
 if (decide (a0.1 ≥ 1)) then ((idx a0.2 a0.1).bind fun a3=>(idx a0.2 (aH a0.1 1)).bind fun a4=>br _ a3 a4 fun a2=>if (!a2) then (some (.inr a0.2)) else ((idx a0.2 (aH a0.1 1)).bind fun a1=>(idx a0.2 a0.1).bind fun a5=>(idx a0.2 a0.1).bind fun a6=>(idx (List.set a0.2 (Int.toNat a0.1) a1) (aH a0.1 1)).bind fun a7=>some (.inl ((aH a0.1 1),(List.set (List.set a0.2 (Int.toNat a0.1) a1) (Int.toNat (aH a0.1 1)) a5))))) else (some (.inr a0.2))
def jY {α:Type} (br:Br α) (a:Int) (b:Int):Int×Int×(List α)→Option (Int×Int×(List α) ⊕ (Bool×(List α) ⊕ (List α))):=fun a0 =>
 if (decide (a0.2.1<5)) then ((aJ (fZ br b a0) a0.1).bind fun a1=>if (a1==b) then (some (.inr (.inl (true,a0.2.2)))) else (if (decide ((aH b a)<50)) then (some (.inr (.inl (false,a0.2.2)))) else ((idx a0.2.2 (aH a1 1)).bind fun a2=>(idx a0.2.2 a1).bind fun a3=>(idx a0.2.2 a1).bind fun a5=>(idx (List.set a0.2.2 (Int.toNat a1) a2) (aH a1 1)).bind fun a6=>if (decide ((aH a1 a) ≥ 2)) then ((aJ (gB br) ((aH a1 1),(List.set (List.set a0.2.2 (Int.toNat a1) a2) (Int.toNat (aH a1 1)) a3))).bind fun a4=>fY br b a0 a1 a4) else (fY br b a0 a1 (List.set (List.set a0.2.2 (Int.toNat a1) a2) (Int.toNat (aH a1 1)) a3))))) else (some (.inr (.inr a0.2.2)))
def mL {α:Type} (br:Br α) (a:Int) (b:Int) (h0:(List α)):Option (Bool×(List α)):=
 (aJ (jY br a b) ((aE a 1),0,h0)).bind fun a2=>match a2 with | .inl a0=>some (a0.1,a0.2) | .inr a1=>some (false,a1)
def kV {α:Type} (br:Br α) (a:Int) (a1:Int×Int×(List α)):Int→Option (Int ⊕ Int):=fun a0 =>
 (if (decide (a0≤a1.2.1)) then ((idx a1.2.2 a).bind fun a4=>(idx a1.2.2 a0).bind fun a5=>br _ a4 a5 fun a3=>some (!a3)) else (some false)).bind fun a2=>if a2 then (some (.inl (aE a0 1))) else (some (.inr a0))
def kW {α:Type} (br:Br α) (a:Int) (a1:Int×Int×(List α)) (a4:Int):Int→Option (Int ⊕ Int):=fun a0 =>
 (if (decide (a4≤a0)) then ((idx a1.2.2 a).bind fun a5=>(idx a1.2.2 a0).bind fun a6=>br _ a5 a6 fun a3=>some a3) else (some false)).bind fun a2=>if a2 then (some (.inl (aH a0 1))) else (some (.inr a0))
def oF {α:Type} (br:Br α) (a:Int):Int×Int×(List α)→Option (Int×Int×(List α) ⊕ Int×(List α)):=fun a0 =>
 (aJ (kV br a a0) a0.1).bind fun a1=>(aJ (kW br a a0 a1) a0.2.1).bind fun a2=>if (decide (a1>a2)) then (some (.inr (a1,a0.2.2))) else ((idx a0.2.2 a2).bind fun a3=>(idx a0.2.2 a1).bind fun a4=>(idx a0.2.2 a1).bind fun a5=>(idx (List.set a0.2.2 (Int.toNat a1) a3) a2).bind fun a6=>some (.inl ((aE a1 1),(aH a2 1),(List.set (List.set a0.2.2 (Int.toNat a1) a3) (Int.toNat a2) a4))))
def rN {α:Type} (br:Br α) (a:Int) (b:Int) (pivot:Int) (h0:(List α)):Option (Int×(List α)):=
 (idx h0 pivot).bind fun x9=>(idx h0 a).bind fun a1=>(idx h0 a).bind fun a2=>(idx (List.set h0 (Int.toNat a) x9) pivot).bind fun a3=>(aJ (oF br a) ((aE a 1),(aH b 1),(List.set (List.set h0 (Int.toNat a) x9) (Int.toNat pivot) a1))).bind fun a0=>some (a0.1,a0.2)
def qE {α:Type} (br:Br α) (a:Int) (b:Int) (pivot:Int) (h0:(List α)) (x9:α) (a5:α):Int→Option (Int ⊕ Int):=fun a0 =>
 (if (decide (a0≤(aH b 1))) then ((idx (List.set (List.set h0 (Int.toNat a) x9) (Int.toNat pivot) a5) a0).bind fun a3=>(idx (List.set (List.set h0 (Int.toNat a) x9) (Int.toNat pivot) a5) a).bind fun a4=>br _ a3 a4 fun a2=>some a2) else (some false)).bind fun a1=>if a1 then (some (.inl (aE a0 1))) else (some (.inr a0))
def qF {α:Type} (br:Br α) (a:Int) (pivot:Int) (h0:(List α)) (x9:α) (a6:α) (a3:Int):Int→Option (Int ⊕ Int):=fun a0 =>
 (if (decide (a3≤a0)) then ((idx (List.set (List.set h0 (Int.toNat a) x9) (Int.toNat pivot) a6) a0).bind fun a4=>(idx (List.set (List.set h0 (Int.toNat a) x9) (Int.toNat pivot) a6) a).bind fun a5=>br _ a4 a5 fun a2=>some (!a2)) else (some false)).bind fun a1=>if a1 then (some (.inl (aH a0 1))) else (some (.inr a0))
def qG {α:Type} (br:Br α) (a:Int) (a1:Int×Int×(List α)):Int→Option (Int ⊕ Int):=fun a0 =>
 (if (decide (a0≤a1.2.1)) then ((idx a1.2.2 a0).bind fun a4=>(idx a1.2.2 a).bind fun a5=>br _ a4 a5 fun a3=>some a3) else (some false)).bind fun a2=>if a2 then (some (.inl (aE a0 1))) else (some (.inr a0))
def qJ {α:Type} (br:Br α) (a:Int) (a1:Int×Int×(List α)) (a4:Int):Int→Option (Int ⊕ Int):=fun a0 =>
 (if (decide (a4≤a0)) then ((idx a1.2.2 a0).bind fun a5=>(idx a1.2.2 a).bind fun a6=>br _ a5 a6 fun a3=>some (!a3)) else (some false)).bind fun a2=>if a2 then (some (.inl (aH a0 1))) else (some (.inr a0))
def qK {α:Type} (br:Br α) (a:Int):Int×Int×(List α)→Option (Int×Int×(List α) ⊕ Int×(List α)):=fun a0 =>
 (aJ (qG br a a0) a0.1).bind fun a1=>(aJ (qJ br a a0 a1) a0.2.1).bind fun a2=>if (decide (a1>a2)) then (some (.inr (a2,a0.2.2))) else ((idx a0.2.2 a2).bind fun a3=>(idx a0.2.2 a1).bind fun a4=>(idx a0.2.2 a1).bind fun a5=>(idx (List.set a0.2.2 (Int.toNat a1) a3) a2).bind fun a6=>some (.inl ((aE a1 1),(aH a2 1),(List.set (List.set a0.2.2 (Int.toNat a1) a3) (Int.toNat a2) a4))))
def uV {α:Type} (br:Br α) (a:Int) (b:Int) (pivot:Int) (h0:(List α)):Option (Int×Bool×(List α)):=
 (idx h0 pivot).bind fun x9=>(idx h0 a).bind fun a3=>(idx h0 a).bind fun b6=>(idx (List.set h0 (Int.toNat a) x9) pivot).bind fun b7=>(aJ (qE br a b pivot h0 x9 a3) (aE a 1)).bind fun a2=>(aJ (qF br a pivot h0 x9 a3 a2) (aH b 1)).bind fun a1=>if (decide (a2>a1)) then ((idx (List.set (List.set h0 (Int.toNat a) x9) (Int.toNat pivot) a3) a).bind fun a6=>(idx (List.set (List.set h0 (Int.toNat a) x9) (Int.toNat pivot) a3) a1).bind fun a8=>(idx (List.set (List.set h0 (Int.toNat a) x9) (Int.toNat pivot) a3) a1).bind fun b2=>(idx (List.set (List.set (List.set h0 (Int.toNat a) x9) (Int.toNat pivot) a3) (Int.toNat a1) a6) a).bind fun b3=>some (a1,true,(List.set (List.set (List.set (List.set h0 (Int.toNat a) x9) (Int.toNat pivot) a3) (Int.toNat a1) a6) (Int.toNat a) a8))) else ((idx (List.set (List.set h0 (Int.toNat a) x9) (Int.toNat pivot) a3) a1).bind fun a7=>(idx (List.set (List.set h0 (Int.toNat a) x9) (Int.toNat pivot) a3) a2).bind fun a9=>(idx (List.set (List.set h0 (Int.toNat a) x9) (Int.toNat pivot) a3) a2).bind fun b4=>(idx (List.set (List.set (List.set h0 (Int.toNat a) x9) (Int.toNat pivot) a3) (Int.toNat a2) a7) a1).bind fun b5=>(aJ (qK br a) ((aE a2 1),(aH a1 1),(List.set (List.set (List.set (List.set h0 (Int.toNat a) x9) (Int.toNat pivot) a3) (Int.toNat a2) a7) (Int.toNat a1) a9))).bind fun a0=>(idx a0.2 a).bind fun a4=>(idx a0.2 a0.1).bind fun a5=>(idx a0.2 a0.1).bind fun b0=>(idx (List.set a0.2 (Int.toNat a0.1) a4) a).bind fun b1=>some (a0.1,false,(List.set (List.set a0.2 (Int.toNat a0.1) a4) (Int.toNat a) a5)))
def pP {α:Type} (br:Br α) (self:Int→Int→Int→(List α)→Option ((List α))) (a1:Int×Int×Int×Bool×Bool×(List α)) (a3:Int×(List α)) (a4:Int×Int×(List α)):Bool×Bool×(List α)→Option (Int×Int×Int×Bool×Bool×(List α) ⊕ (List α)):=fun a2 =>
 (if (decide (a1.1>0)) then ((idx a2.2.2 (aH a1.1 1)).bind fun b0=>(idx a2.2.2 a4.1).bind fun b1=>br _ b0 b1 fun a7=>some (!a7)) else (some false)).bind fun a6=>if a6 then ((rN br a1.1 a1.2.1 a4.1 a2.2.2).bind fun a5=>some (.inl (a5.1,a1.2.1,a3.1,a2.1,a2.2.1,a5.2))) else ((uV br a1.1 a1.2.1 a4.1 a2.2.2).bind fun a0=>if (decide ((aH a0.1 a1.1)<(aH a1.2.1 a0.1))) then ((self a1.1 a0.1 a3.1 a0.2.2).bind fun a8=>some (.inl ((aE a0.1 1),a1.2.1,a3.1,(decide ((aH a0.1 a1.1) ≥ (pK (aH a1.2.1 a1.1) 8))),a0.2.1,a8))) else ((self (aE a0.1 1) a1.2.1 a3.1 a0.2.2).bind fun a9=>some (.inl (a1.1,a0.1,a3.1,(decide ((aH a1.2.1 a0.1) ≥ (pK (aH a1.2.1 a1.1) 8))),a0.2.1,a9))))
def pQ {α:Type} (br:Br α) (self:Int→Int→Int→(List α)→Option ((List α))) (a3:Int×Int×Int×Bool×Bool×(List α)) (a4:Int×(List α)):Int×Int×(List α)→Option (Int×Int×Int×Bool×Bool×(List α) ⊕ (List α)):=fun a0 =>
 (if a3.2.2.2.1 then (if a3.2.2.2.2.1 then (some (true,true,(a0.2.1==1))) else (some (true,false,false))) else (some (false,a3.2.2.2.2.1,false))).bind fun a1=>if a1.2.2 then ((mL br a3.1 a3.2.1 a0.2.2).bind fun a2=>if a2.1 then (some (.inr a2.2)) else (pP br self a3 a4 a0 (a1.1,a1.2.1,a2.2))) else (pP br self a3 a4 a0 (a1.1,a1.2.1,a0.2.2))
def pR {α:Type} (br:Br α) (self:Int→Int→Int→(List α)→Option ((List α))) (a2:Int×Int×Int×Bool×Bool×(List α)):Int×(List α)→Option (Int×Int×Int×Bool×Bool×(List α) ⊕ (List α)):=fun a0 =>
 (vL br a0.2 a2.1 a2.2.1).bind fun a1=>if (a1.2==2) then ((uM br a2.1 a2.2.1 a0.2).bind fun a3=>pQ br self a2 a0 ((aH (aH a2.2.1 1) (aH a1.1 a2.1)),1,a3)) else (pQ br self a2 a0 (a1.1,a1.2,a0.2))
def tR {α:Type} (br:Br α) (self:Int→Int→Int→(List α)→Option ((List α))):Int×Int×Int×Bool×Bool×(List α)→Option (Int×Int×Int×Bool×Bool×(List α) ⊕ (List α)):=fun a0 =>
 if (decide ((aH a0.2.1 a0.1)≤12)) then ((sU br a0.1 a0.2.1 a0.2.2.2.2.2).bind fun a1=>some (.inr a1)) else (if (a0.2.2.1==0) then ((Cj br a0.1 a0.2.1 a0.2.2.2.2.2).bind fun a2=>some (.inr a2)) else (if (!a0.2.2.2.1) then ((sS br a0.1 a0.2.1 a0.2.2.2.2.2).bind fun a3=>pR br self a0 ((aH a0.2.2.1 1),a3)) else (pR br self a0 (a0.2.2.1,a0.2.2.2.2.2))))
def nE {α:Type} (br:Br α) (self:Int→Int→Int→(List α)→Option ((List α))) (a:Int) (b:Int) (limit:Int) (h0:(List α)):Option ((List α)):=
 (aJ (tR br self) (a,b,limit,true,true,h0)).bind fun a0=>some a0
def kX {α:Type} (br:Br α):Nat→Int→Int→Int→(List α)→Option ((List α))
 | 0=>fun _ _ _ _=>none
 | n+1=>nE br (kX br n)
def Li {α:Type} (br:Br α) (a:Int) (b:Int) (limit:Int) (h0:(List α)):Option ((List α)):=kX br 1000 a b limit h0
def Ci {α:Type} (br:Br α) (h0:(List α)):Option ((List α)):=
 (xM (IntKind.wrap .u64 (h0.length:Int))).bind fun r3=>(Li br 0 (h0.length:Int) r3 h0).bind fun r4=>some r4
structure xQ {α:Type} (P:α→Prop) (d:α) (l:List α):Prop where
 len:(l.length:Int)≤1073741824
 all:∀ k:Int,0≤k→k<l.length→P (gz d l k)
theorem xQ.on {α:Type} {P:α→Prop} {d:α} {a b:Int} {l l':List α} (h:xQ P d l) (ho:On d a b l l'):xQ P d l':=by
 induction ho with
 | refl=>exact h
 | step ho i j hi hi' hj hj' ha hb ih =>
   refine ⟨by rw [Mq];exact ih.len,fun k h1 h2=>?_⟩
   rw [Mq] at h2
   rw [kY d (by omega) (by omega) h1 (by omega) (by omega)]
   split
   ·exact ih.all _ (by omega) (by omega)
   ·split
    ·exact ih.all _ (by omega) (by omega)
    ·exact ih.all _ h1 h2
section
variable {α:Type} {br:Br α} {lt:α→α→Bool} {P:α→Prop} {d:α} (hbr:∀ (β:Type) (x y:α) (k:Bool→Option β),P x→P y→br β x y k=k (lt x y)) (w:Iz lt)
include hbr w
theorem Xb {a i:Int} {l0:List α} (ha:0≤a) (hi:a<i) (hil:i<l0.length) (hf0:xQ P d l0) (h0:Asc d lt a i l0) :
  ∃ l',aJ (mH br a) (i,l0)=some l'∧On d a (i+1) l0 l'∧Asc d lt a (i+1) l':=by
 refine jB (fun s=>(s.1-a).toNat) (fun s=>a≤s.1∧s.1≤i∧On d a (i+1) l0 s.2∧∀ p q:Int,a≤p→p<q→q≤i→q≠s.1→lt (gz d s.2 q) (gz d s.2 p)=false)
  (fun l'=>On d a (i+1) l0 l'∧Asc d lt a (i+1) l') (mH br a) ?_ (i,l0) ⟨by omega,Int.le_refl _,.refl _,fun p q h1 h2 h3 h4=>h0 p q h1 h2 (by simp only at h4;omega)⟩
 rintro ⟨j,l⟩ ⟨h1,h2,hon,hI⟩
 simp only at h1 h2 hon hI ⊢
 have hf:=hf0.on hon
 have hl:=hon.len
 have hL:=hf.len
 unfold mH
 by_cases hja:j>a
 ·cases hc:lt (gz d l j) (gz d l (j-1)) with
  | true =>
    left
    refine ⟨(j-1,sw d l j (j-1)), ?_,⟨by simp only;omega,by simp only;omega,.step hon j (j-1) (by omega) (by omega) (by omega) (by omega) ha (by omega), ?_⟩,by simp only;omega⟩
    ·simp (disch:=first | omega | (simp only [List.length_set];omega) | (refine hf.all _ ?_ ?_ <;> omega)) only [hja,decide_true,if_true,aR,eP d,Option.bind_some,hbr,hc]
     rfl
    ·simp only
     intro p q p1 p2 p3 p4
     rw [kY d (by omega) (by omega) (by omega) (by omega) (by omega),kY d (by omega) (by omega) (by omega) (by omega) (by omega)]
     rw [if_neg p4]
     by_cases e1:q=j
     ·rw [if_pos e1]
      by_cases e2:p=j-1
      ·rw [if_pos e2];exact w.asymm _ _ hc
      ·rw [if_neg e2,if_neg (by omega)]
       exact hI p (j-1) (by omega) (by omega) (by omega) (by omega)
     ·rw [if_neg e1]
      by_cases e2:p=j-1
      ·rw [if_pos e2];exact hI j q (by omega) (by omega) p3 e1
      ·rw [if_neg e2]
       by_cases e3:p=j
       ·rw [if_pos e3];exact hI (j-1) q (by omega) (by omega) p3 e1
       ·rw [if_neg e3];exact hI p q p1 p2 p3 e1
  | false =>
    right
    refine ⟨l, ?_,hon, ?_⟩
    ·simp (disch:=first | omega | (simp only [List.length_set];omega) | (refine hf.all _ ?_ ?_ <;> omega)) only [hja,decide_true,if_true,aR,eP d,Option.bind_some,hbr,hc,Bool.false_eq_true,if_false]
    ·intro p q p1 p2 p3
     by_cases e1:q=j
     ·subst e1
      by_cases e2:p=q-1
      ·subst e2;exact hc
      ·exact w.le_trans (hI p (q-1) p1 (by omega) (by omega) (by omega)) hc
     ·exact hI p q p1 p2 (by omega) e1
 ·right
  refine ⟨l, ?_,hon, ?_⟩
  ·simp only [hja,decide_false,Bool.false_eq_true,if_false,Option.bind_some]
  ·intro p q p1 p2 p3
   exact hI p q p1 p2 (by omega) (by omega)
theorem Hg {a b:Int} {l0:List α} (ha:0≤a) (hab:a≤b) (hb:b≤l0.length) (hf0:xQ P d l0) :
  ∃ l',sU br a b l0=some l'∧On d a b l0 l'∧Asc d lt a b l':=by
 have hL:=hf0.len
 obtain ⟨l',h1,h2,h3⟩:=jB (fun s=>(b-s.1).toNat) (fun s=>a<s.1∧On d a b l0 s.2∧Asc d lt a (min s.1 b) s.2)
  (fun l'=>On d a b l0 l'∧Asc d lt a b l') (pJ br a b) (by
   rintro ⟨i,l⟩ ⟨h1,hon,hI⟩
   simp only at h1 hon hI ⊢
   have hf:=hf0.on hon
   have hl:=hon.len
   unfold pJ
   by_cases hib:i<b
   ·left
    obtain ⟨l',q1,q2,q3⟩:=Xb hbr w ha h1 (by omega) hf (by rwa [Int.min_eq_left (by omega)] at hI)
    refine ⟨(i+1,l'), ?_,⟨by simp only;omega,hon.trans d (q2.mono d ha (Int.le_refl _) (by omega) (by omega)), ?_⟩,by simp only;omega⟩
    ·simp (disch:=omega) only [hib,decide_true,if_true,q1,Option.bind_some,aO]
    ·simp only
     rw [Int.min_eq_left (by omega)];exact q3
   ·right
    refine ⟨l, ?_,hon, ?_⟩
    ·simp only [hib,decide_false,Bool.false_eq_true,if_false]
    ·rwa [Int.min_eq_right (by omega)] at hI) (a+1,l0) ⟨by simp only;omega,.refl _,fun p q p1 p2 p3=>by simp only at p3;omega⟩
 refine ⟨l', ?_,h2,h3⟩
 unfold sU
 simp (disch:=omega) only [aO,h1,Option.bind_some]
end
def Du {α:Type} (d:α) (lt:α→α→Bool) (first lo hi:Int) (r:Int) (l:List α):Prop:=∀ p c:Int,lo≤p→p≠r→c<hi→(c=2*p+1∨c=2*p+2)→lt (gz d l (first+p)) (gz d l (first+c))=false
section
variable {α:Type} {br:Br α} {lt:α→α→Bool} {P:α→Prop} {d:α} (hbr:∀ (β:Type) (x y:α) (k:Bool→Option β),P x→P y→br β x y k=k (lt x y)) (w:Iz lt)
include w
theorem Zy {first hi:Int} {l:List α} (h:Du d lt first 0 hi (-1) l):∀ n:Nat,∀ c:Int,0≤c→c≤n→c<hi→lt (gz d l first) (gz d l (first+c))=false:=by
 intro n
 induction n with
 | zero => intro c h1 h2 h3;obtain rfl:c = 0 := by omega
           rw [Int.add_zero];exact w.irrefl _
 | succ n ih =>
   intro c h1 h2 h3
   by_cases e:c=0
   ·subst e;rw [Int.add_zero];exact w.irrefl _
   ·have e1:=ih ((c-1) / 2) (by omega) (by omega) (by omega)
    have e2:=h ((c-1) / 2) c (by omega) (by omega) h3 (by omega)
    exact w.le_trans e2 e1
include hbr
theorem Iw {first lo hi:Int} {l0:List α} (h1:0≤first) (h2:0≤lo) (h3:first+hi≤l0.length) (hf0:xQ P d l0) (h0:Du d lt first lo hi lo l0) (hlo:lo≤l0.length) :
  ∃ l',uC br lo hi first l0=some l'∧On d (first+lo) (first+hi) l0 l'∧Du d lt first lo hi (-1) l':=by
 have hL:=hf0.len
 obtain ⟨r,q1,q2⟩:=jB (fun s:Int×List α=>(hi-s.1).toNat)
  (fun s:Int×List α=>lo≤s.1∧s.1≤(l0.length:Int)∧On d (first+lo) (first+hi) l0 s.2∧Du d lt first lo hi s.1 s.2∧∀ p c:Int,lo≤p→(s.1=2*p+1∨s.1=2*p+2)→(c=2*s.1+1∨c=2*s.1+2)→c<hi→lt (gz d s.2 (first+p)) (gz d s.2 (first+c))=false)
  (fun r:List α ⊕ List α=>∃ l',(r=.inl l'∨r=.inr l')∧On d (first+lo) (first+hi) l0 l'∧Du d lt first lo hi (-1) l') (vO br hi first) (by
   rintro ⟨r,l⟩ ⟨i1,i2,hon,hI,hG⟩
   simp only at i1 i2 hon hI hG ⊢
   have hf:=hf0.on hon
   have hl:=hon.len
   unfold vO
   have e1:aE (eG 2 r) 1=2*r+1:=by rw [oW (by omega) (by omega),aO (by omega) (by omega)]
   simp only [e1]
   by_cases hc:2*r+1 ≥ hi
   ·right
    refine ⟨.inl l,by simp only [hc,decide_true,if_true],l,.inl rfl,hon,fun p c p1 p2 p3 p4=>?_⟩
    by_cases e:p=r
    ·omega
    ·exact hI p c p1 e p3 p4
   ·-- the greater child
    have key:∀ ch:Int,(ch=2*r+1∨ch=2*r+2)→ch<hi→(∀ c:Int,(c=2*r+1∨c=2*r+2)→c<hi→lt (gz d l (first+ch)) (gz d l (first+c))=false) →
      (∃ s',oG br first (r,l) ch=some (.inl s')∧(lo≤s'.1∧s'.1≤l0.length∧On d (first+lo) (first+hi) l0 s'.2∧Du d lt first lo hi s'.1 s'.2∧∀ p c:Int,lo≤p→(s'.1=2*p+1∨s'.1=2*p+2)→(c=2*s'.1+1∨c=2*s'.1+2)→c<hi→lt (gz d s'.2 (first+p)) (gz d s'.2 (first+c))=false)∧(hi-s'.1).toNat<(hi-r).toNat) ∨
      (∃ x,oG br first (r,l) ch=some (.inr x)∧∃ l',(x=.inl l'∨x=.inr l')∧On d (first+lo) (first+hi) l0 l'∧Du d lt first lo hi (-1) l'):=by
     intro ch c1 c2 c3
     have a1:aE first r=first+r:=aO (by omega) (by omega)
     have a2:aE first ch=first+ch:=aO (by omega) (by omega)
     unfold oG
     cases hlt:lt (gz d l (first+r)) (gz d l (first+ch)) with
     | false =>
       right
       refine ⟨.inr l, ?_,l,.inr rfl,hon,fun p c p1 p2 p3 p4=>?_⟩
       ·simp (disch:=first | omega | (simp only [List.length_set];omega) | (refine hf.all _ ?_ ?_ <;> omega)) only [a1,a2,eP d,Option.bind_some,hbr,hlt,Bool.not_false,if_true]
       ·by_cases e:p=r
        ·subst e;exact w.le_trans (c3 c p4 p3) hlt
        ·exact hI p c p1 e p3 p4
     | true =>
       left
       refine ⟨(ch,sw d l (first+r) (first+ch)), ?_,⟨by simp only;omega,by simp only;omega,.step hon _ _ (by omega) (by omega) (by omega) (by omega) (by omega) (by omega), ?_, ?_⟩,by simp only;omega⟩
       ·simp (disch:=first | omega | (simp only [List.length_set];omega) | (refine hf.all _ ?_ ?_ <;> omega)) only [a1,a2,eP d,Option.bind_some,hbr,hlt,Bool.not_true,Bool.false_eq_true,if_false]
        rfl
       ·intro p c p1 p2 p3 p4
        simp only at p2 ⊢
        rw [kY d (by omega) (by omega) (by omega) (by omega) (by omega),kY d (by omega) (by omega) (by omega) (by omega) (by omega)]
        by_cases e1:p=r
        ·rw [if_neg (by omega),if_pos (by omega)]
         by_cases e2:c=ch
         ·rw [if_pos (by omega)];exact w.asymm _ _ hlt
         ·rw [if_neg (by omega),if_neg (by omega)];exact c3 c (by omega) p3
        ·rw [if_neg (by omega),if_neg (by omega)]
         by_cases e2:c=r
         ·rw [if_neg (by omega),if_pos (by omega)];exact hG p ch p1 (by omega) c1 c2
         ·rw [if_neg (by omega),if_neg (by omega)];exact hI p c p1 e1 p3 p4
       ·intro p c p1 p2 p3 p4
        simp only at p2 p3
        simp only
        obtain rfl:p=r:=by omega
        rw [kY d (by omega) (by omega) (by omega) (by omega) (by omega),kY d (by omega) (by omega) (by omega) (by omega) (by omega)]
        rw [if_neg (by omega),if_pos rfl,if_neg (by omega),if_neg (by omega)]
        exact hI ch c (by omega) (by omega) p4 p3
    have b1:aE first (2*r+1)=first+(2*r+1):=aO (by omega) (by omega)
    have b2:aE (first+(2*r+1)) 1=first+(2*r+2):=by rw [aO (by omega) (by omega)];omega
    have b3:aE (2*r+1) 1=2*r+2:=by rw [aO (by omega) (by omega)];omega
    simp only [hc,decide_false,Bool.false_eq_true,if_false,b1,b2,b3]
    by_cases h2c:2*r+2<hi
    ·cases hcc:lt (gz d l (first+(2*r+1))) (gz d l (first+(2*r+2))) with
     | true =>
       simp (disch:=first | omega | (refine hf.all _ ?_ ?_ <;> omega)) only [h2c,decide_true,if_true,eP d,Option.bind_some,hbr,hcc]
       refine key (2*r+2) (.inr rfl) h2c fun c p1 p2=>?_
       rcases p1 with rfl | rfl
       ·exact w.asymm _ _ hcc
       ·exact w.irrefl _
     | false =>
       simp (disch:=first | omega | (refine hf.all _ ?_ ?_ <;> omega)) only [h2c,decide_true,if_true,eP d,Option.bind_some,hbr,hcc,Bool.false_eq_true,if_false]
       refine key (2*r+1) (.inl rfl) (by omega) fun c p1 p2=>?_
       rcases p1 with rfl | rfl
       ·exact w.irrefl _
       ·exact hcc
    ·simp only [h2c,decide_false,Bool.false_eq_true,if_false,Option.bind_some]
     refine key (2*r+1) (.inl rfl) (by omega) fun c p1 p2=>?_
     obtain rfl:c=2*r+1:=by omega
     exact w.irrefl _) (lo,l0) ⟨Int.le_refl _,hlo,.refl _,h0,fun p c p1 p2=>by simp only at p2;omega⟩
 obtain ⟨l',hr,q3,q4⟩:=q2
 refine ⟨l', ?_,q3,q4⟩
 unfold uC
 rw [q1]
 rcases hr with rfl | rfl <;> rfl
theorem Rh {a b:Int} {l0:List α} (ha:0≤a) (hab:a≤b) (hb:b≤l0.length) (hf0:xQ P d l0) :
  ∃ l',Cj br a b l0=some l'∧On d a b l0 l'∧Asc d lt a b l':=by
 have hL:=hf0.len
 have s1:aH b a=b-a:=aR (by omega) (by omega)
 have s2:aH (b-a) 1=b-a-1:=aR (by omega) (by omega)
 have ht:0≤(b-a-1).tdiv 2∧(b-a-1).tdiv 2≤b-a∧b-a-1<2*(b-a-1).tdiv 2+2:=by
  by_cases h:0≤b-a-1
  ·rw [Int.tdiv_eq_ediv_of_nonneg h];omega
  ·rw [show b-a-1=-1 from by omega,show Int.tdiv (-1) 2=0 from rfl];omega
 have s3:pK (b-a-1) 2=(b-a-1).tdiv 2:=Bk _ (by omega) (by omega)
 obtain ⟨l1,q1,q2,q3⟩:=jB (fun s:Int×List α=>(s.1+1).toNat) (fun s:Int×List α=>-1≤s.1∧s.1≤b-a∧On d a b l0 s.2∧Du d lt a (s.1+1) (b-a) (-1) s.2)
  (fun l'=>On d a b l0 l'∧Du d lt a 0 (b-a) (-1) l') (vM br a b) (by
   rintro ⟨i,l⟩ ⟨i1,i2,hon,hI⟩
   simp only at i1 i2 hon hI ⊢
   have hf:=hf0.on hon
   have hl:=hon.len
   unfold vM
   by_cases hi:i ≥ 0
   ·left
    obtain ⟨l',p1,p2,p3⟩:=Iw hbr w (first:=a) (lo:=i) (hi:=b-a) ha hi (by omega) hf (fun p c c1 c2 c3 c4=>hI p c (by omega) (by omega) c3 c4) (by omega)
    refine ⟨(i-1,l'), ?_,⟨by simp only;omega,by simp only;omega,hon.trans d (p2.mono d ha (by omega) (by omega) (by omega)), ?_⟩,by simp only;omega⟩
    ·simp (disch:=omega) only [hi,decide_true,if_true,s1,p1,Option.bind_some,aR]
    ·simp only
     rw [show i-1+1=i from by omega];exact p3
   ·right
    refine ⟨l,by simp only [hi,decide_false,Bool.false_eq_true,if_false],hon, ?_⟩
    rwa [show i+1=0 from by omega] at hI) ((b-a-1).tdiv 2,l0) ⟨by simp only;omega,by simp only;omega,.refl _,fun p c p1 p2 p3 p4=>by simp only at p1;omega⟩
 have hl1:=q2.len
 obtain ⟨l2,r1,r2,r3⟩:=jB (fun s:Int×List α=>(s.1+1).toNat)
  (fun s:Int×List α=>-1≤s.1∧s.1<b-a∧On d a b l0 s.2∧Du d lt a 0 (s.1+1) (-1) s.2∧∀ q:Int,s.1<q→q<b-a→∀ p:Int,0≤p→p<q→lt (gz d s.2 (a+q)) (gz d s.2 (a+p))=false)
  (fun l'=>On d a b l0 l'∧Asc d lt a b l') (vN br a) (by
   rintro ⟨i,l⟩ ⟨i1,i2,hon,hH,hI⟩
   simp only at i1 i2 hon hH hI ⊢
   have hf:=hf0.on hon
   have hl:=hon.len
   unfold vN
   by_cases hi:i ≥ 0
   ·left
    have hmax:=fun c h1 h2=>Zy w hH i.toNat c h1 (by omega) h2
    have hsw:On d a (a+i+1) l (sw d l a (a+i)):=.step (.refl _) _ _ (Int.le_refl _) (by omega) (by omega) (by omega) ha (by omega)
    have hsl:(sw d l a (a+i)).length=l.length:=Mq ..
    obtain ⟨l',p1,p2,p3⟩:=Iw hbr w (first:=a) (lo:=0) (hi:=i) (l0:=sw d l a (a+i)) ha (Int.le_refl _) (by omega) (hf.on hsw) (fun p c c1 c2 c3 c4=>by
     rw [kY d (by omega) (by omega) (by omega) (by omega) (by omega),kY d (by omega) (by omega) (by omega) (by omega) (by omega)]
     rw [if_neg (by omega),if_neg (by omega),if_neg (by omega),if_neg (by omega)]
     exact hH p c c1 (by omega) (by omega) c4) (by omega)
    have hall:On d a (a+i+1) l l':=hsw.trans d (p2.mono d ha (by omega) (by omega) (by omega))
    have a1:aE a i=a+i:=aO (by omega) (by omega)
    refine ⟨(i-1,l'), ?_,⟨by simp only;omega,by simp only;omega,hon.trans d (hall.mono d ha (Int.le_refl _) (by omega) (by omega)), ?_, ?_⟩,by simp only;omega⟩
    ·have p1':uC br 0 i a (List.set (List.set l (Int.toNat a) (gz d l (a+i))) (Int.toNat (a+i)) (gz d l a))=some l':=p1
     simp (disch:=first | omega | (simp only [List.length_set];omega)) only [hi,decide_true,if_true,a1,eP d,Option.bind_some,p1',aR]
    ·simp only
     rw [show i-1+1=i from by omega];exact p3
    ·simp only
     intro q c1 c2 p c3 c4
     by_cases e:q=i
     ·subst e
      have e1:gz d l' (a+q)=gz d l a:=by
       rw [p2.out d (by omega) (.inr (by omega)),kY d (by omega) (by omega) (by omega) (by omega) (by omega),if_pos rfl]
      rw [e1]
      refine p2.all d (fun x=>lt (gz d l a) x=false) (fun k k1 k2=>?_) (a+p) (by omega) (by omega)
      rw [kY d (by omega) (by omega) (by omega) (by omega) (by omega),if_neg (by omega)]
      split
      ·exact hmax q (by omega) (by omega)
      ·have:=hmax (k-a) (by omega) (by omega)
       rwa [show a+(k-a)=k from by omega] at this
     ·have e1:gz d l' (a+q)=gz d l (a+q):=hall.out d (by omega) (.inr (by omega))
      rw [e1]
      by_cases e2:p≤i
      ·refine hall.all d (fun x=>lt (gz d l (a+q)) x=false) (fun k k1 k2=>?_) (a+p) (by omega) (by omega)
       have:=hI q (by omega) c2 (k-a) (by omega) (by omega)
       rwa [show a+(k-a)=k from by omega] at this
      ·rw [hall.out d (k:=a+p) (by omega) (.inr (by omega))]
       exact hI q (by omega) c2 p c3 c4
   ·right
    refine ⟨l,by simp only [hi,decide_false,Bool.false_eq_true,if_false],hon,fun p q c1 c2 c3=>?_⟩
    have:=hI (q-a) (by omega) (by omega) (p-a) (by omega) (by omega)
    rwa [show a+(q-a)=q from by omega,show a+(p-a)=p from by omega] at this) (b-a-1,l1) ⟨by simp only;omega,by simp only;omega,q2,by simp only;rw [show b-a-1+1=b-a from by omega];exact q3,fun q c1 c2=>by simp only at c1;omega⟩
 refine ⟨l2, ?_,r2,r3⟩
 unfold Cj
 simp only [s1,s2,s3,q1,Option.bind_some,r1]
end
theorem Kj {body:Int→Option (Int ⊕ Int)} (c:Int→Bool) {i j:Int} (hij:i≤j+1) (hs:∀ s,i≤s→s≤j→body s=if c s then some (.inl (s+1)) else some (.inr s)) (he:body (j+1)=some (.inr (j+1))) :
  ∃ x,aJ body i=some x∧i≤x∧x≤j+1∧(∀ k,i≤k→k<x→c k=true)∧(x≤j→c x=false):=
 jB (fun s:Int=>(j+1-s).toNat) (fun s=>i≤s∧s≤j+1∧∀ k,i≤k→k<s→c k=true) (fun x=>i≤x∧x≤j+1∧(∀ k,i≤k→k<x→c k=true)∧(x≤j→c x=false)) body (by
  rintro s ⟨h1,h2,h3⟩
  by_cases h:s≤j
  ·cases hc:c s with
   | true =>
     left
     refine ⟨s+1,by rw [hs s h1 h,hc];rfl,⟨by omega,by omega,fun k k1 k2=>?_⟩,by omega⟩
     by_cases e:k=s
     ·subst e;exact hc
     ·exact h3 k k1 (by omega)
   | false =>
     right
     exact ⟨s,by rw [hs s h1 h,hc];rfl,h1,h2,h3,fun _=>hc⟩
  ·right
   obtain rfl:s=j+1:=by omega
   exact ⟨_,he,h1,h2,h3,fun q=>absurd q (by omega)⟩) i ⟨Int.le_refl _,hij,fun k k1 k2=>absurd k1 (by omega)⟩
theorem Ia {body:Int→Option (Int ⊕ Int)} (c:Int→Bool) {i j:Int} (hij:i≤j+1) (hs:∀ s,i≤s→s≤j→body s=if c s then some (.inl (s-1)) else some (.inr s)) (he:body (i-1)=some (.inr (i-1))) :
  ∃ x,aJ body j=some x∧i-1≤x∧x≤j∧(∀ k,x<k→k≤j→c k=true)∧(i≤x→c x=false):=
 jB (fun s:Int=>(s+1-i).toNat) (fun s=>i-1≤s∧s≤j∧∀ k,s<k→k≤j→c k=true) (fun x=>i-1≤x∧x≤j∧(∀ k,x<k→k≤j→c k=true)∧(i≤x→c x=false)) body (by
  rintro s ⟨h1,h2,h3⟩
  by_cases h:i≤s
  ·cases hc:c s with
   | true =>
     left
     refine ⟨s-1,by rw [hs s h h2,hc];rfl,⟨by omega,by omega,fun k k1 k2=>?_⟩,by omega⟩
     by_cases e:k=s
     ·subst e;exact hc
     ·exact h3 k (by omega) k2
   | false =>
     right
     exact ⟨s,by rw [hs s h h2,hc];rfl,h1,h2,h3,fun _=>hc⟩
  ·right
   obtain rfl:s=i-1:=by omega
   exact ⟨_,he,h1,h2,h3,fun q=>absurd q (by omega)⟩) j ⟨by omega,Int.le_refl _,fun k k1 k2=>absurd k1 (by omega)⟩
section
variable {α:Type} {br:Br α} {lt:α→α→Bool} {P:α→Prop} {d:α} (hbr:∀ (β:Type) (x y:α) (k:Bool→Option β),P x→P y→br β x y k=k (lt x y)) (w:Iz lt)
include hbr
theorem Me {a b:Int} {l0:List α} (ha:0≤a) (hab:a<b) (hb:b≤l0.length) (hf0:xQ P d l0) {i0 j0:Int} (h1:a+1≤i0) (h2:j0≤b-1) (h3:i0≤j0+1)
  (hlo:∀ k,a+1≤k→k<i0→lt (gz d l0 k) (gz d l0 a)=true) (hhi:∀ k,j0<k→k<b→lt (gz d l0 k) (gz d l0 a)=false) :
  ∃ r,aJ (qK br a) (i0,j0,l0)=some r∧On d (a+1) b l0 r.2∧gz d r.2 a=gz d l0 a∧a≤r.1∧r.1<b∧(∀ k,a+1≤k→k≤r.1→lt (gz d r.2 k) (gz d l0 a)=true)∧(∀ k,r.1<k→k<b→lt (gz d r.2 k) (gz d l0 a)=false):=by
 have hL:=hf0.len
 refine jB (fun s:Int×Int×List α=>(s.2.1+1-s.1).toNat) (fun s:Int×Int×List α=>a+1≤s.1∧s.2.1≤b-1∧s.1≤s.2.1+1∧On d (a+1) b l0 s.2.2∧gz d s.2.2 a=gz d l0 a ∧
  (∀ k,a+1≤k→k<s.1→lt (gz d s.2.2 k) (gz d l0 a)=true)∧(∀ k,s.2.1<k→k<b→lt (gz d s.2.2 k) (gz d l0 a)=false)) _ (qK br a) ?_ (i0,j0,l0) ⟨h1,h2,h3,.refl _,rfl,hlo,hhi⟩
 rintro ⟨i,j,l⟩ ⟨i1,i2,i3,hon,hp,hI,hJ⟩
 simp only at i1 i2 i3 hon hp hI hJ ⊢
 have hf:=hf0.on hon
 have hl:=hon.len
 unfold qK
 obtain ⟨x,x1,x2,x3,x4,x5⟩:=Kj (body:=qG br a (i,j,l)) (fun k=>lt (gz d l k) (gz d l0 a)) i3 (fun s s1 s2=>by
  unfold qG
  simp (disch:=first | omega | (refine hf.all _ ?_ ?_ <;> omega) | (refine hf0.all _ ?_ ?_ <;> omega)) only [s2,decide_true,if_true,eP d,Option.bind_some,hbr,hp,aO]) (by
  unfold qG
  simp only [show ¬ j+1≤j from by omega,decide_false,Bool.false_eq_true,if_false,Option.bind_some])
 obtain ⟨y,y1,y2,y3,y4,y5⟩:=Ia (body:=qJ br a (i,j,l) x) (fun k=>!lt (gz d l k) (gz d l0 a)) x3 (fun s s1 s2=>by
  unfold qJ
  simp (disch:=first | omega | (refine hf.all _ ?_ ?_ <;> omega) | (refine hf0.all _ ?_ ?_ <;> omega)) only [s1,decide_true,if_true,eP d,Option.bind_some,hbr,hp,aR]) (by
  unfold qJ
  simp only [show ¬ x≤x-1 from by omega,decide_false,Bool.false_eq_true,if_false,Option.bind_some])
 simp only [x1,y1,Option.bind_some]
 by_cases hxy:x>y
 ·right
  refine ⟨(y,l),by simp only [hxy,decide_true,if_true],hon,hp,by simp only;omega,by simp only;omega,fun k k1 k2=>?_,fun k k1 k2=>?_⟩
  ·simp only at k2 ⊢
   by_cases e:k<i
   ·exact hI k k1 e
   ·exact x4 k (by omega) (by omega)
  ·simp only at k1 ⊢
   by_cases e:j<k
   ·exact hJ k e k2
   ·have:=y4 k (by omega) (by omega)
    simpa using this
 ·left
  have hx:=x5 (by omega)
  have hy:=y5 (by omega)
  simp only [Bool.not_eq_eq_eq_not,Bool.not_false] at hy
  have hne:x≠y:=fun e=>by subst e;rw [hx] at hy;cases hy
  refine ⟨(x+1,y-1,sw d l x y), ?_,⟨by simp only;omega,by simp only;omega,by simp only;omega,.step hon x y (by omega) (by omega) (by omega) (by omega) (by omega) (by omega), ?_,fun k k1 k2=>?_,fun k k1 k2=>?_⟩,by simp only;omega⟩
  ·simp (disch:=first | omega | (simp only [List.length_set];omega)) only [hxy,decide_false,Bool.false_eq_true,if_false,eP d,Option.bind_some,aO,aR]
   rfl
  ·simp only
   rw [kY d (by omega) (by omega) (by omega) (by omega) (by omega),if_neg (by omega),if_neg (by omega)];exact hp
  ·simp only at k2 ⊢
   rw [kY d (by omega) (by omega) (by omega) (by omega) (by omega),if_neg (by omega)]
   by_cases e:k=x
   ·rw [if_pos e];exact hy
   ·rw [if_neg e]
    by_cases e:k<i
    ·exact hI k k1 e
    ·exact x4 k (by omega) (by omega)
  ·simp only at k1 ⊢
   rw [kY d (by omega) (by omega) (by omega) (by omega) (by omega)]
   by_cases e:k=y
   ·rw [if_pos e];exact hx
   ·rw [if_neg e,if_neg (by omega)]
    by_cases e:j<k
    ·exact hJ k e k2
    ·have:=y4 k (by omega) (by omega)
     simpa using this
theorem Pp {a b pivot:Int} {l0:List α} (ha:0≤a) (hab:a<b) (hb:b≤l0.length) (hf0:xQ P d l0) (hp1:a≤pivot) (hp2:pivot<b) :
  ∃ mid al l',uV br a b pivot l0=some (mid,al,l')∧On d a b l0 l'∧a≤mid∧mid<b∧(∀ k,a≤k→k<mid→lt (gz d l' k) (gz d l' mid)=true)∧(∀ k,mid<k→k<b→lt (gz d l' k) (gz d l' mid)=false):=by
 have hL:=hf0.len
 have hon1:On d a b l0 (sw d l0 a pivot):=.step (.refl _) _ _ (Int.le_refl _) hab hp1 hp2 ha hb
 obtain ⟨l1,hl1⟩:∃ l1,sw d l0 a pivot=l1:=⟨_,rfl⟩
 have e1:List.set (List.set l0 (Int.toNat a) (gz d l0 pivot)) (Int.toNat pivot) (gz d l0 a)=l1:=hl1
 rw [hl1] at hon1
 have hf:=hf0.on hon1
 have hl:=hon1.len
 have s1:aH b 1=b-1:=aR (by omega) (by omega)
 have s2:aE a 1=a+1:=aO (by omega) (by omega)
 unfold uV
 simp (disch:=first | omega | (simp only [List.length_set];omega)) only [eP d (l:=l0),Option.bind_some]
 rw [show idx (l0.set a.toNat (gz d l0 pivot)) pivot=some (gz d (l0.set a.toNat (gz d l0 pivot)) pivot) from eP d (by omega) (by rw [List.length_set];omega),Option.bind_some,e1]
 obtain ⟨x,x1,x2,x3,x4,x5⟩:=Kj (body:=qE br a b pivot l0 (gz d l0 pivot) (gz d l0 a)) (fun k=>lt (gz d l1 k) (gz d l1 a)) (i:=a+1) (j:=b-1) (by omega) (fun s q1 q2=>by
  unfold qE
  simp (disch:=first | omega | (refine hf.all _ ?_ ?_ <;> omega)) only [e1,s1,q2,decide_true,if_true,eP d,Option.bind_some,hbr,aO]) (by
  unfold qE
  simp only [s1,show ¬ b-1+1≤b-1 from by omega,decide_false,Bool.false_eq_true,if_false,Option.bind_some])
 obtain ⟨y,y1,y2,y3,y4,y5⟩:=Ia (body:=qF br a pivot l0 (gz d l0 pivot) (gz d l0 a) x) (fun k=>!lt (gz d l1 k) (gz d l1 a)) (i:=x) (j:=b-1) x3 (fun s q1 q2=>by
  unfold qF
  simp (disch:=first | omega | (refine hf.all _ ?_ ?_ <;> omega)) only [e1,q1,decide_true,if_true,eP d,Option.bind_some,hbr,aR]) (by
  unfold qF
  simp only [show ¬ x≤x-1 from by omega,decide_false,Bool.false_eq_true,if_false,Option.bind_some])
 have fin:∀ (m:Int) (l:List α),On d a b l0 l→a≤m→m<b→gz d l a=gz d l1 a→(∀ k,a+1≤k→k≤m→lt (gz d l k) (gz d l1 a)=true)→(∀ k,m<k→k<b→lt (gz d l k) (gz d l1 a)=false) →
   On d a b l0 (sw d l m a)∧(∀ k,a≤k→k<m→lt (gz d (sw d l m a) k) (gz d (sw d l m a) m)=true)∧(∀ k,m<k→k<b→lt (gz d (sw d l m a) k) (gz d (sw d l m a) m)=false):=by
  intro m l on m1 m2 hq hlo hhi
  have hl:=on.len
  have em:gz d (sw d l m a) m=gz d l1 a:=by
   rw [kY d (by omega) (by omega) (by omega) (by omega) (by omega)]
   by_cases e:m=a
   ·rw [if_pos e,e];exact hq
   ·rw [if_neg e,if_pos rfl];exact hq
  refine ⟨.step on m a (by omega) (by omega) (by omega) (by omega) ha (by omega),fun k k1 k2=>?_,fun k k1 k2=>?_⟩
  ·rw [em,kY d (by omega) (by omega) (by omega) (by omega) (by omega)]
   by_cases e:k=a
   ·rw [if_pos e];exact hlo m (by omega) (Int.le_refl _)
   ·rw [if_neg e,if_neg (by omega)];exact hlo k (by omega) (by omega)
  ·rw [em,kY d (by omega) (by omega) (by omega) (by omega) (by omega),if_neg (by omega),if_neg (by omega)]
   exact hhi k k1 k2
 simp only [s1,s2,x1,y1,Option.bind_some]
 by_cases hxy:x>y
 ·obtain ⟨f1,f2,f3⟩:=fin y l1 hon1 (by omega) (by omega) rfl (fun k k1 k2=>x4 k k1 (by omega)) (fun k k1 k2=>by
   have:=y4 k k1 (by omega)
   simpa using this)
  refine ⟨y,true,sw d l1 y a, ?_,f1,by omega,by omega,f2,f3⟩
  simp (disch:=first | omega | (simp only [List.length_set];omega)) only [hxy,decide_true,if_true,eP d,Option.bind_some]
  rfl
 ·have hx:=x5 (by omega)
  have hy:=y5 (by omega)
  simp only [Bool.not_eq_eq_eq_not,Bool.not_false] at hy
  have hne:x≠y:=fun e=>by subst e;rw [hx] at hy;cases hy
  have hon2:On d (a+1) b l1 (sw d l1 x y):=.step (.refl _) x y (by omega) (by omega) (by omega) (by omega) (by omega) (by omega)
  have hga:gz d (sw d l1 x y) a=gz d l1 a:=by rw [kY d (by omega) (by omega) (by omega) (by omega) (by omega),if_neg (by omega),if_neg (by omega)]
  have hl2:(sw d l1 x y).length=l1.length:=Mq ..
  obtain ⟨r,r1,r2,r3,r4,r5,r6,r7⟩:=Me hbr (i0:=x+1) (j0:=y-1) ha hab (by omega) (hf.on hon2) (by omega) (by omega) (by omega) (fun k k1 k2=>by
   rw [hga,kY d (by omega) (by omega) (by omega) (by omega) (by omega),if_neg (by omega)]
   by_cases e:k=x
   ·rw [if_pos e];exact hy
   ·rw [if_neg e];exact x4 k k1 (by omega)) (fun k k1 k2=>by
   rw [hga,kY d (by omega) (by omega) (by omega) (by omega) (by omega)]
   by_cases e:k=y
   ·rw [if_pos e];exact hx
   ·rw [if_neg e,if_neg (by omega)]
    have:=y4 k (by omega) (by omega)
    simpa using this)
  rw [hga] at r3 r6 r7
  have hon3:=(hon2.trans d r2).mono d ha (by omega) (Int.le_refl _) (by omega)
  have hl3:=r2.len
  obtain ⟨f1,f2,f3⟩:=fin r.1 r.2 (hon1.trans d hon3) r4 r5 r3 r6 r7
  have e2:List.set (List.set l1 (Int.toNat x) (gz d l1 y)) (Int.toNat y) (gz d l1 x)=sw d l1 x y:=rfl
  refine ⟨r.1,false,sw d r.2 r.1 a, ?_,f1,r4,r5,f2,f3⟩
  simp (disch:=first | omega | (simp only [List.length_set];omega)) only [hxy,decide_false,Bool.false_eq_true,if_false,eP d,Option.bind_some,aO,aR,e2,r1]
  rfl
theorem Gt {a b pivot:Int} {l0:List α} (ha:0≤a) (hab:a<b) (hb:b≤l0.length) (hf0:xQ P d l0) (hp1:a≤pivot) (hp2:pivot<b) (hirr:∀ x,lt x x=false) :
  ∃ mid l',rN br a b pivot l0=some (mid,l')∧On d a b l0 l'∧a<mid∧mid≤b∧(∀ k,a≤k→k<mid→lt (gz d l0 pivot) (gz d l' k)=false):=by
 have hL:=hf0.len
 have hon1:On d a b l0 (sw d l0 a pivot):=.step (.refl _) _ _ (Int.le_refl _) hab hp1 hp2 ha hb
 obtain ⟨l1,hl1⟩:∃ l1,sw d l0 a pivot=l1:=⟨_,rfl⟩
 have e1:List.set (List.set l0 (Int.toNat a) (gz d l0 pivot)) (Int.toNat pivot) (gz d l0 a)=l1:=hl1
 have hpa:gz d l1 a=gz d l0 pivot:=by
  rw [← hl1,kY d (by omega) (by omega) (by omega) (by omega) (by omega)]
  by_cases e:a=pivot
  ·rw [if_pos e,e]
  ·rw [if_neg e,if_pos rfl]
 rw [hl1] at hon1
 have hf1:=hf0.on hon1
 have hl1':=hon1.len
 have s1:aH b 1=b-1:=aR (by omega) (by omega)
 have s2:aE a 1=a+1:=aO (by omega) (by omega)
 obtain ⟨r,r1,r2,r3,r4,r5⟩:=jB (fun s:Int×Int×List α=>(s.2.1+1-s.1).toNat) (fun s:Int×Int×List α=>a+1≤s.1∧s.2.1≤b-1∧s.1≤s.2.1+1∧On d (a+1) b l1 s.2.2∧gz d s.2.2 a=gz d l1 a ∧
   (∀ k,a+1≤k→k<s.1→lt (gz d l1 a) (gz d s.2.2 k)=false)) (fun r:Int×List α=>On d a b l0 r.2∧a<r.1∧r.1≤b∧(∀ k,a≤k→k<r.1→lt (gz d l0 pivot) (gz d r.2 k)=false)) (oF br a) (by
  rintro ⟨i,j,l⟩ ⟨i1,i2,i3,hon,hp,hI⟩
  simp only at i1 i2 i3 hon hp hI ⊢
  have hf:=hf1.on hon
  have hl:=hon.len
  unfold oF
  obtain ⟨x,x1,x2,x3,x4,x5⟩:=Kj (body:=kV br a (i,j,l)) (fun k=>!lt (gz d l1 a) (gz d l k)) i3 (fun s s1 s2=>by
   unfold kV
   simp (disch:=first | omega | (refine hf.all _ ?_ ?_ <;> omega) | (refine hf1.all _ ?_ ?_ <;> omega)) only [s2,decide_true,if_true,eP d,Option.bind_some,hbr,hp,aO]) (by
   unfold kV
   simp only [show ¬ j+1≤j from by omega,decide_false,Bool.false_eq_true,if_false,Option.bind_some])
  obtain ⟨y,y1,y2,y3,y4,y5⟩:=Ia (body:=kW br a (i,j,l) x) (fun k=>lt (gz d l1 a) (gz d l k)) x3 (fun s s1 s2=>by
   unfold kW
   simp (disch:=first | omega | (refine hf.all _ ?_ ?_ <;> omega) | (refine hf1.all _ ?_ ?_ <;> omega)) only [s1,decide_true,if_true,eP d,Option.bind_some,hbr,hp,aR]) (by
   unfold kW
   simp only [show ¬ x≤x-1 from by omega,decide_false,Bool.false_eq_true,if_false,Option.bind_some])
  simp only [x1,y1,Option.bind_some]
  have below:∀ k,a+1≤k→k<x→lt (gz d l1 a) (gz d l k)=false:=fun k k1 k2=>by
   by_cases e:k<i
   ·exact hI k k1 e
   ·have:=x4 k (by omega) k2
    simpa using this
  by_cases hxy:x>y
  ·right
   refine ⟨(x,l),by simp only [hxy,decide_true,if_true],hon1.trans d (hon.mono d ha (by omega) (Int.le_refl _) (by omega)),by simp only;omega,by simp only;omega,fun k k1 k2=>?_⟩
   simp only at k2 ⊢
   rw [← hpa]
   by_cases e:k=a
   ·rw [e,hp];exact hirr _
   ·exact below k (by omega) k2
  ·left
   have hx:=x5 (by omega)
   have hy:=y5 (by omega)
   simp only [Bool.not_eq_eq_eq_not,Bool.not_false] at hx
   have hne:x≠y:=fun e=>by subst e;rw [hx] at hy;cases hy
   refine ⟨(x+1,y-1,sw d l x y), ?_,⟨by simp only;omega,by simp only;omega,by simp only;omega,.step hon x y (by omega) (by omega) (by omega) (by omega) (by omega) (by omega), ?_,fun k k1 k2=>?_⟩,by simp only;omega⟩
   ·simp (disch:=first | omega | (simp only [List.length_set];omega)) only [hxy,decide_false,Bool.false_eq_true,if_false,eP d,Option.bind_some,aO,aR]
    rfl
   ·simp only
    rw [kY d (by omega) (by omega) (by omega) (by omega) (by omega),if_neg (by omega),if_neg (by omega)];exact hp
   ·simp only at k2 ⊢
    rw [kY d (by omega) (by omega) (by omega) (by omega) (by omega),if_neg (by omega)]
    by_cases e:k=x
    ·rw [if_pos e];exact hy
    ·rw [if_neg e];exact below k k1 (by omega)) (a+1,b-1,l1) ⟨by simp only;omega,by simp only;omega,by simp only;omega,.refl _,rfl,fun k k1 k2=>absurd k1 (by simp only at k2;omega)⟩
 refine ⟨r.1,r.2, ?_,r2,r3,r4,r5⟩
 unfold rN
 simp (disch:=first | omega | (simp only [List.length_set];omega)) only [eP d (l:=l0),Option.bind_some]
 rw [show idx (l0.set a.toNat (gz d l0 pivot)) pivot=some (gz d (l0.set a.toNat (gz d l0 pivot)) pivot) from eP d (by omega) (by rw [List.length_set];omega),Option.bind_some,e1]
 simp only [s1,s2,r1,Option.bind_some]
end
theorem wrap_u64 {x:Int} (h0:0≤x) (h1:x<18446744073709551616):IntKind.wrap .u64 x=x:=by
 simp only [IntKind.wrap,IntKind.signed,IntKind.bits,IntKind.min,IntKind.max]
 first | omega | (simp;omega)
theorem GB:((List.range 256).all fun c=>match mK ((c:Int),0) with | some t=>decide (0≤t∧t≤8∧2^t.toNat≤max 1 (2*c)) | none=>false)=true:=by decide +kernel
theorem AF (c n:Int) (h0:0≤n) (h1:n≤64) (hc:0≤c) (hc2:c<256):∃ t:Int,mK (c,n)=some (n+t)∧0≤t∧t≤8∧2^t.toNat≤max 1 (2*c.toNat):=by
 have h:=List.all_eq_true.1 GB c.toNat (List.mem_range.2 (by omega))
 rw [show ((c.toNat:Nat):Int)=c from by omega] at h
 obtain ⟨T,hT⟩:∃ T:Int→Option Int,∀ c n,mK (c,n)=(T c).bind fun x=>some (aE n (IntKind.wrap .i64 x)):=⟨fun c=>Cw (ByteArray.mk #[0,1,2,2,3,3,3,3,4,4,4,4,4,4,4,4,5,5,5,5,5,5,5,5,5,5,5,5,5,5,5,5,6,6,6,6,6,6,6,6,6,6,6,6,6,6,6,6,6,6,6,6,6,6,6,6,6,6,6,6,6,6,6,6,7,7,7,7,7,7,7,7,7,7,7,7,7,7,7,7,7,7,7,7,7,7,7,7,7,7,7,7,7,7,7,7,7,7,7,7,7,7,7,7,7,7,7,7,7,7,7,7,7,7,7,7,7,7,7,7,7,7,7,7,7,7,7,7,8,8,8,8,8,8,8,8,8,8,8,8,8,8,8,8,8,8,8,8,8,8,8,8,8,8,8,8,8,8,8,8,8,8,8,8,8,8,8,8,8,8,8,8,8,8,8,8,8,8,8,8,8,8,8,8,8,8,8,8,8,8,8,8,8,8,8,8,8,8,8,8,8,8,8,8,8,8,8,8,8,8,8,8,8,8,8,8,8,8,8,8,8,8,8,8,8,8,8,8,8,8,8,8,8,8,8,8,8,8,8,8,8,8,8,8,8,8,8,8,8,8,8,8,8,8,8,8]) (IntKind.wrap .u8 c),fun _ _=>rfl⟩
 rw [hT] at h ⊢
 cases hs:T c with
 | none=>rw [hs] at h;simp at h
 | some t =>
   rw [hs] at h
   simp only [Option.bind_some,decide_eq_true_eq] at h ⊢
   generalize hw:IntKind.i64.wrap t=v at h ⊢
   have hv:aE 0 v=v:=by
    unfold aE
    rw [Int.zero_add,← hw]
    simp only [IntKind.wrap,IntKind.signed,IntKind.bits,IntKind.min,IntKind.max]
    first | omega | (simp only [Int.reducePow,if_true];omega) | (simp;omega)
   rw [hv] at h
   exact ⟨v,by rw [aO (by omega) (by omega)],h.1,h.2.1,h.2.2⟩
theorem AJ {x:Int} (h0:0≤x) (h1:x≤1073741824):∃ v:Int,xM (IntKind.wrap .u64 x)=some v∧0≤v∧v≤40∧2^v.toNat≤max 1 (2*x.toNat):=by
 have hw:IntKind.wrap .u64 x=x:=by
  exact wrap_u64 (by omega) (by omega)
 have c8:(2^(min (Int.toNat 8) 64):Int)=256:=by decide
 have c16:(2^(min (Int.toNat 16) 64):Int)=65536:=by decide
 have step:∀ (c n:Int),0≤c→0≤n→n≤30→c<65536→∃ t:Int,oV (c,n)=some (n+t)∧0≤t∧t≤16∧2^t.toNat≤max 1 (2*c.toNat):=fun c n h0 hn hn2 hc=>by
  unfold oV
  by_cases q:c ≥ 256
  ·simp only [q,decide_true,if_true,c8]
   have e:Int.fdiv c 256=c / 256:=Int.fdiv_eq_ediv_of_nonneg _ (by omega)
   rw [e,aO (by omega) (by omega)]
   obtain ⟨t,t1,t2,t3,t4⟩:=AF (c / 256) (n+8) (by omega) (by omega) (by omega) (by omega)
   refine ⟨8+t,by rw [t1];congr 1;omega,by omega,by omega, ?_⟩
   rw [show (8+t).toNat=8+t.toNat from by omega,Nat.pow_add]
   omega
  ·simp only [q,decide_false,Bool.false_eq_true,if_false]
   obtain ⟨t,t1,t2,t3,t4⟩:=AF c n (by omega) (by omega) (by omega) (by omega)
   exact ⟨t,t1,t2,by omega,t4⟩
 unfold xM Dz sR
 rw [hw]
 have q:¬ x ≥ 4294967296:=by omega
 simp only [q,decide_false,Bool.false_eq_true,if_false]
 by_cases q:x ≥ 65536
 ·simp only [q,decide_true,if_true,c16]
  have e:Int.fdiv x 65536=x / 65536:=Int.fdiv_eq_ediv_of_nonneg _ (by omega)
  rw [e,show aE 0 16=16 from rfl]
  obtain ⟨t,t1,t2,t3,t4⟩:=step (x / 65536) 16 (by omega) (by omega) (by omega) (by omega)
  refine ⟨16+t,by rw [t1];rfl,by omega,by omega, ?_⟩
  rw [show (16+t).toNat=16+t.toNat from by omega,Nat.pow_add]
  omega
 ·simp only [q,decide_false,Bool.false_eq_true,if_false]
  obtain ⟨t,t1,t2,t3,t4⟩:=step x 0 h0 (by omega) (by omega) (by omega)
  refine ⟨t,by rw [t1,Int.zero_add];rfl,t2,by omega,t4⟩
section
variable {α:Type} {br:Br α} {lt:α→α→Bool} {P:α→Prop} {d:α} (hbr:∀ (β:Type) (x y:α) (k:Bool→Option β),P x→P y→br β x y k=k (lt x y)) (w:Iz lt)
theorem Tx {a b:Int} {l0:List α} (ha:0≤a) (hb:b≤l0.length) (hL:(l0.length:Int)≤1073741824) (hab:a≤b):∃ l',uM br a b l0=some l'∧On d a b l0 l':=by
 obtain ⟨l',r1,r2⟩:=jB (fun s:Int×Int×List α=>(s.2.1+1-s.1).toNat) (fun s:Int×Int×List α=>a≤s.1∧s.2.1<b∧s.1≤b∧a-1≤s.2.1∧On d a b l0 s.2.2) (fun l'=>On d a b l0 l') (qQ br) (by
  rintro ⟨i,j,l⟩ ⟨h1,h2,h3,h4,hon⟩
  simp only at h1 h2 h3 h4 hon ⊢
  have hl:=hon.len
  unfold qQ
  by_cases q:i<j
  ·left
   refine ⟨(i+1,j-1,sw d l i j), ?_,⟨by simp only;omega,by simp only;omega,by simp only;omega,by simp only;omega,.step hon i j h1 (by omega) (by omega) h2 ha (by omega)⟩,by simp only;omega⟩
   simp (disch:=first | omega | (simp only [List.length_set];omega)) only [q,decide_true,if_true,eP d,Option.bind_some,aO,aR]
   rfl
  ·right
   exact ⟨l,by simp only [q,decide_false,Bool.false_eq_true,if_false],hon⟩) (a,b-1,l0) ⟨by simp only;omega,by simp only;omega,by simp only;omega,by simp only;omega,.refl _⟩
 refine ⟨l', ?_,r2⟩
 unfold uM
 rw [aR (by omega) (by omega),r1];rfl
theorem FH (r m:Int) (h0:0≤m) (h1:m<9223372036854775808):0≤Gi .u64 r m∧Gi .u64 r m≤m:=by
 unfold Gi
 have hb:(BitVec.ofInt 64 m).toNat=m.toNat:=by
  rw [BitVec.toNat_ofInt]
  omega
 have hle:(BitVec.ofInt IntKind.u64.bits r &&& BitVec.ofInt IntKind.u64.bits m).toNat≤m.toNat:=by
  show (BitVec.ofInt 64 r &&& BitVec.ofInt 64 m).toNat≤m.toNat
  rw [BitVec.toNat_and,hb]
  exact Nat.and_le_right
 generalize (BitVec.ofInt IntKind.u64.bits r &&& BitVec.ofInt IntKind.u64.bits m).toNat=v at hle ⊢
 have hw:IntKind.wrap .u64 (v:Int)=v:=by
  exact wrap_u64 (by omega) (by omega)
 rw [hw];omega
theorem GL {n:Int} (h:0≤n) (h2:n≤1073741824):pK n 4=n / 4:=by
 unfold pK
 rw [Int.tdiv_eq_ediv_of_nonneg h]
 exact Bk _ (by omega) (by omega)
theorem Yv {a b:Int} {l0:List α} (ha:0≤a) (hb:b≤l0.length) (hL:(l0.length:Int)≤1073741824) (hab:a≤b):∃ l',sS br a b l0=some l'∧On d a b l0 l':=by
 have s1:aH b a=b-a:=aR (by omega) (by omega)
 unfold sS
 rw [s1]
 by_cases h8:b-a ≥ 8
 case neg=>simp only [h8,decide_false,Bool.false_eq_true,if_false];exact ⟨l0,rfl,.refl _⟩
 simp only [h8,decide_true,if_true]
 obtain ⟨v,v1,v2,v3,v4⟩:=AJ (x:=b-a) (by omega) (by omega)
 have hpow:1≤2^v.toNat:=Nat.one_le_two_pow
 have hr2:rM (b-a)=some ((2^v.toNat:Nat):Int):=by
  unfold rM
  rw [v1]
  simp only [Option.bind_some,v2,decide_true,if_true]
  congr 1
  rw [show min v.toNat 64=v.toNat from by omega,Int.one_mul,show (2:Int)^v.toNat=((2^v.toNat:Nat):Int) from by simp]
  exact wrap_u64 (by omega) (by omega)
 rw [hr2,Option.bind_some]
 obtain ⟨R,hR⟩:∃ R:Int,((2^v.toNat:Nat):Int)=R:=⟨_,rfl⟩
 rw [hR]
 have hR1:1≤R:=by omega
 have hR2:R≤2*(b-a):=by omega
 have hm:IntKind.wrap .u64 (R-1)=R-1:=by
  exact wrap_u64 (by omega) (by omega)
 have q4:=GL (n:=b-a) (by omega) (by omega)
 have q2:eG ((b-a) / 4) 2=(b-a) / 4*2:=oW (by omega) (by omega)
 have q3:aE a ((b-a) / 4*2)=a+(b-a) / 4*2:=aO (by omega) (by omega)
 have q5:aE (a+(b-a) / 4*2) 1=a+(b-a) / 4*2+1:=aO (by omega) (by omega)
 have q6:aH (a+(b-a) / 4*2) 1=a+(b-a) / 4*2-1:=aR (by omega) (by omega)
 obtain ⟨l',r1,r2⟩:=jB (fun s:Int×Int×List α=>(a+(b-a) / 4*2+2-s.1).toNat) (fun s:Int×Int×List α=>a≤s.1∧On d a b l0 s.2.2) (fun l'=>On d a b l0 l') (pI br a b R) (by
  rintro ⟨i,rr,l⟩ ⟨h1,hon⟩
  simp only at h1 hon ⊢
  have hl:=hon.len
  unfold pI
  simp only [s1,q4,q2,q3,q5,hm]
  by_cases q:i≤a+(b-a) / 4*2+1
  ·left
   simp only [q,decide_true,if_true,yU,Option.bind_some]
   generalize hz:(fC IntKind.u64 _ _:Int)=z
   obtain ⟨a1,a2⟩:=FH z (R-1) (by omega) (by omega)
   have hw:IntKind.wrap .i64 (Gi .u64 z (R-1))=Gi .u64 z (R-1):=Bk _ (by omega) (by omega)
   rw [hw]
   obtain ⟨o,ho⟩:∃ o,Gi .u64 z (R-1)=o:=⟨_,rfl⟩
   rw [ho] at a1 a2 ⊢
   have key:∀ t:Int,0≤t→t<b-a→∃ s',mG br a (i,rr,l) t=some (.inl s')∧(a≤s'.1∧On d a b l0 s'.2.2)∧(a+(b-a) / 4*2+2-s'.1).toNat<(a+(b-a) / 4*2+2-i).toNat:=fun t t1 t2=>by
    have e:aE a t=a+t:=aO (by omega) (by omega)
    unfold mG
    simp (disch:=first | omega | (simp only [List.length_set];omega)) only [e,eP d,Option.bind_some]
    refine ⟨_,rfl,⟨?_, ?_⟩, ?_⟩
    ·simp only;rw [aO (by omega) (by omega)];omega
    ·exact .step hon i (a+t) (by omega) (by omega) (by omega) (by omega) ha (by omega)
    ·simp only;rw [aO (by omega) (by omega)];omega
   by_cases hge:o ≥ b-a
   ·simp only [hge,decide_true,if_true]
    rw [aR (by omega) (by omega)]
    exact key (o-(b-a)) (by omega) (by omega)
   ·simp only [hge,decide_false,Bool.false_eq_true,if_false]
    exact key o a1 (by omega)
  ·right
   exact ⟨l,by simp only [q,decide_false,Bool.false_eq_true,if_false],hon⟩) (a+(b-a) / 4*2-1,IntKind.wrap .u64 (b-a),l0) ⟨by simp only;omega,.refl _⟩
 refine ⟨l', ?_,r2⟩
 simp only [q4,q2,q3,q6,r1,Option.bind_some]
include hbr
theorem Hv {l:List α} (hf:xQ P d l) {x y:Int} (s:Int) (hx:0≤x) (hx':x<l.length) (hy:0≤y) (hy':y<l.length):∃ r,yT br l x y s=some r∧((r.1=x∧r.2.1=y)∨(r.1=y∧r.2.1=x)):=by
 unfold yT
 rw [eP d hy hy',Option.bind_some,eP d hx hx',Option.bind_some,hbr _ _ _ _ (hf.all _ hy hy') (hf.all _ hx hx')]
 cases lt (gz d l y) (gz d l x) with
 | true=>exact ⟨_,rfl,.inr ⟨rfl,rfl⟩⟩
 | false=>exact ⟨_,rfl,.inl ⟨rfl,rfl⟩⟩
theorem Oe {l:List α} (hf:xQ P d l) {lo hi x y z:Int} (s:Int) (hlo:0≤lo) (hhi:hi≤l.length) (hx:lo≤x∧x<hi) (hy:lo≤y∧y<hi) (hz:lo≤z∧z<hi):∃ r,Df br l x y z s=some r∧lo≤r.1∧r.1<hi:=by
 unfold Df
 obtain ⟨r1,e1,q1⟩:=Hv hbr hf (x:=x) (y:=y) s (by omega) (by omega) (by omega) (by omega)
 rw [e1,Option.bind_some]
 obtain ⟨r2,e2,q2⟩:=Hv hbr hf (x:=r1.2.1) (y:=z) r1.2.2 (by omega) (by omega) (by omega) (by omega)
 rw [e2,Option.bind_some]
 obtain ⟨r3,e3,q3⟩:=Hv hbr hf (x:=r1.1) (y:=r2.1) r2.2.2 (by omega) (by omega) (by omega) (by omega)
 rw [e3,Option.bind_some]
 exact ⟨_,rfl,by simp only;omega,by simp only;omega⟩
theorem Wo {l:List α} (hf:xQ P d l) {a b:Int} (ha:0≤a) (hb:b≤l.length) (hab:a+12<b):∃ p h,vL br l a b=some (p,h)∧a≤p∧p<b:=by
 have hL:=hf.len
 have s1:aH b a=b-a:=aR (by omega) (by omega)
 have q4:=GL (n:=b-a) (by omega) (by omega)
 have m1:eG ((b-a) / 4) 1=(b-a) / 4*1:=oW (by omega) (by omega)
 have m2:eG ((b-a) / 4) 2=(b-a) / 4*2:=oW (by omega) (by omega)
 have m3:eG ((b-a) / 4) 3=(b-a) / 4*3:=oW (by omega) (by omega)
 have a1:aE a ((b-a) / 4*1)=a+(b-a) / 4*1:=aO (by omega) (by omega)
 have a2:aE a ((b-a) / 4*2)=a+(b-a) / 4*2:=aO (by omega) (by omega)
 have a3:aE a ((b-a) / 4*3)=a+(b-a) / 4*3:=aO (by omega) (by omega)
 have k1:∀ p n:Int,∃ h,nS br (p,n)=some (p,h):=fun p n=>by
  unfold nS
  simp only
  split
  ·exact ⟨_,rfl⟩
  ·split
   ·exact ⟨_,rfl⟩
   ·exact ⟨_,rfl⟩
 have k2:∀ x y z s:Int,(a≤x∧x<b)→(a≤y∧y<b)→(a≤z∧z<b)→∃ p h,nT br l (x,y,z,s)=some (p,h)∧a≤p∧p<b:=fun x y z s hx hy hz=>by
  unfold nT
  obtain ⟨r,e,r1,r2⟩:=Oe hbr hf (lo:=a) (hi:=b) s ha hb hx hy hz
  simp only [e,Option.bind_some]
  obtain ⟨h,e2⟩:=k1 r.1 r.2
  exact ⟨_,h,e2,r1,r2⟩
 have adj:∀ x s:Int,a+1≤x→x+1<b→∃ r,kU br l x s=some r∧a≤r.1∧r.1<b:=fun x s h1 h2=>by
  unfold kU
  rw [aR (by omega) (by omega),aO (by omega) (by omega)]
  obtain ⟨r,e,r1,r2⟩:=Oe hbr hf (lo:=a) (hi:=b) (x:=x-1) (y:=x) (z:=x+1) s ha hb (by omega) (by omega) (by omega)
  rw [e]
  exact ⟨_,rfl,r1,r2⟩
 unfold vL
 have h8:b-a ≥ 8:=by omega
 simp only [s1,q4,m1,m2,m3,a1,a2,a3,h8,decide_true,if_true]
 by_cases h50:b-a ≥ 50
 ·simp only [h50,decide_true,if_true]
  obtain ⟨r1,e1,p1,p2⟩:=adj (a+(b-a) / 4*1) 0 (by omega) (by omega)
  rw [e1,Option.bind_some]
  obtain ⟨r2,e2,p3,p4⟩:=adj (a+(b-a) / 4*2) r1.2 (by omega) (by omega)
  rw [e2,Option.bind_some]
  obtain ⟨r3,e3,p5,p6⟩:=adj (a+(b-a) / 4*3) r2.2 (by omega) (by omega)
  rw [e3,Option.bind_some]
  exact k2 _ _ _ _ ⟨p1,p2⟩ ⟨p3,p4⟩ ⟨p5,p6⟩
 ·simp only [h50,decide_false,Bool.false_eq_true,if_false]
  exact k2 _ _ _ _ (by omega) (by omega) (by omega)
end
section
variable {α:Type} {br:Br α} {lt:α→α→Bool} {P:α→Prop} {d:α} (hbr:∀ (β:Type) (x y:α) (k:Bool→Option β),P x→P y→br β x y k=k (lt x y)) (w:Iz lt)
include hbr
theorem Xz {i b:Int} {l0:List α} (hi:0≤i) (hib:i+1≤b) (hb:b≤l0.length) (hf0:xQ P d l0):∃ l',aJ (gA br b) (i+1,l0)=some l'∧On d i b l0 l':=by
 have hL:=hf0.len
 refine jB (fun s:Int×List α=>(b-s.1).toNat) (fun s:Int×List α=>i+1≤s.1∧On d i b l0 s.2) _ (gA br b) ?_ (i+1,l0) ⟨Int.le_refl _,.refl _⟩
 rintro ⟨j,l⟩ ⟨h1,hon⟩
 simp only at h1 hon ⊢
 have hf:=hf0.on hon
 have hl:=hon.len
 unfold gA
 by_cases q:j<b
 ·cases hc:lt (gz d l j) (gz d l (j-1)) with
  | true =>
    left
    refine ⟨(j+1,sw d l j (j-1)), ?_,⟨by simp only;omega,.step hon j (j-1) (by omega) (by omega) (by omega) (by omega) hi (by omega)⟩,by simp only;omega⟩
    simp (disch:=first | omega | (simp only [List.length_set];omega) | (refine hf.all _ ?_ ?_ <;> omega)) only [q,decide_true,if_true,aR,aO,eP d,Option.bind_some,hbr,hc,Bool.not_true,Bool.false_eq_true,if_false]
    rfl
  | false =>
    right
    refine ⟨l, ?_,hon⟩
    simp (disch:=first | omega | (refine hf.all _ ?_ ?_ <;> omega)) only [q,decide_true,if_true,aR,eP d,Option.bind_some,hbr,hc,Bool.not_false]
 ·right
  exact ⟨l,by simp only [q,decide_false,Bool.false_eq_true,if_false],hon⟩
include w
theorem Xy {a b i:Int} {l0:List α} (ha:0≤a) (hi:a<i) (hib:i≤b) (hb:b≤l0.length) (hf0:xQ P d l0) (hpre:0<a→∀ k,a≤k→k<b→lt (gz d l0 k) (gz d l0 (a-1))=false) (h0:Asc d lt a (i-1) l0) :
  ∃ l',aJ (gB br) (i-1,l0)=some l'∧On d a i l0 l'∧Asc d lt a i l':=by
 have hL:=hf0.len
 refine jB (fun s:Int×List α=>(s.1-a).toNat) (fun s:Int×List α=>a≤s.1∧s.1≤i-1∧On d a i l0 s.2∧∀ p q:Int,a≤p→p<q→q≤i-1→q≠s.1→lt (gz d s.2 q) (gz d s.2 p)=false)
  (fun l'=>On d a i l0 l'∧Asc d lt a i l') (gB br) ?_ (i-1,l0) ⟨by simp only;omega,Int.le_refl _,.refl _,fun p q h1 h2 h3 h4=>h0 p q h1 h2 (by simp only at h4;omega)⟩
 rintro ⟨j,l⟩ ⟨h1,h2,hon,hI⟩
 simp only at h1 h2 hon hI ⊢
 have hf:=hf0.on hon
 have hl:=hon.len
 have stop:(j=a∨lt (gz d l j) (gz d l (j-1))=false)→Asc d lt a i l:=fun hs p q p1 p2 p3=>by
  by_cases e1:q=j
  ·subst e1
   rcases hs with hs | hs
   ·omega
   ·by_cases e2:p=q-1
    ·subst e2;exact hs
    ·exact w.le_trans (hI p (q-1) p1 (by omega) (by omega) (by omega)) hs
  ·exact hI p q p1 p2 (by omega) e1
 unfold gB
 by_cases hj:j ≥ 1
 ·cases hc:lt (gz d l j) (gz d l (j-1)) with
  | false =>
    right
    refine ⟨l, ?_,hon,stop (.inr hc)⟩
    simp (disch:=first | omega | (refine hf.all _ ?_ ?_ <;> omega)) only [hj,decide_true,if_true,aR,eP d,Option.bind_some,hbr,hc,Bool.not_false]
  | true =>
    have hja:a<j:=by
     rcases Int.lt_or_le a j with q | q
     ·exact q
     ·exfalso
      obtain rfl:j=a:=by omega
      have e:gz d l (j-1)=gz d l0 (j-1):=hon.out d (by omega) (.inl (by omega))
      have:=hon.all d (fun x=>lt x (gz d l0 (j-1))=false) (fun k k1 k2=>hpre (by omega) k k1 (by omega)) j (Int.le_refl _) hi
      rw [e,this] at hc;cases hc
    left
    refine ⟨(j-1,sw d l j (j-1)), ?_,⟨by simp only;omega,by simp only;omega,.step hon j (j-1) (by omega) (by omega) (by omega) (by omega) ha (by omega), ?_⟩,by simp only;omega⟩
    ·simp (disch:=first | omega | (simp only [List.length_set];omega) | (refine hf.all _ ?_ ?_ <;> omega)) only [hj,decide_true,if_true,aR,eP d,Option.bind_some,hbr,hc,Bool.not_true,Bool.false_eq_true,if_false]
     rfl
    ·simp only
     intro p q p1 p2 p3 p4
     rw [kY d (by omega) (by omega) (by omega) (by omega) (by omega),kY d (by omega) (by omega) (by omega) (by omega) (by omega)]
     rw [if_neg p4]
     by_cases e1:q=j
     ·rw [if_pos e1]
      by_cases e2:p=j-1
      ·rw [if_pos e2];exact w.asymm _ _ hc
      ·rw [if_neg e2,if_neg (by omega)]
       exact hI p (j-1) (by omega) (by omega) (by omega) (by omega)
     ·rw [if_neg e1]
      by_cases e2:p=j-1
      ·rw [if_pos e2];exact hI j q (by omega) (by omega) p3 e1
      ·rw [if_neg e2]
       by_cases e3:p=j
       ·rw [if_pos e3];exact hI (j-1) q (by omega) (by omega) p3 e1
       ·rw [if_neg e3];exact hI p q p1 p2 p3 e1
 ·right
  refine ⟨l,by simp only [hj,decide_false,Bool.false_eq_true,if_false],hon,stop (.inl (by omega))⟩
theorem Ts {a b:Int} {l0:List α} (ha:0≤a) (hab:a<b) (hb:b≤l0.length) (hf0:xQ P d l0) (hpre:0<a→∀ k,a≤k→k<b→lt (gz d l0 k) (gz d l0 (a-1))=false) :
  ∃ r l',mL br a b l0=some (r,l')∧On d a b l0 l'∧(r=true→Asc d lt a b l'):=by
 have hL:=hf0.len
 have s1:aH b a=b-a:=aR (by omega) (by omega)
 have s2:aE a 1=a+1:=aO (by omega) (by omega)
 obtain ⟨r,r1,r2⟩:=jB (fun s:Int×Int×List α=>(5-s.2.1).toNat) (fun s:Int×Int×List α=>a+1≤s.1∧s.1≤b∧0≤s.2.1∧On d a b l0 s.2.2∧Asc d lt a s.1 s.2.2)
  (fun r:Bool×List α ⊕ List α=>match r with | .inl x=>On d a b l0 x.2∧(x.1=true→Asc d lt a b x.2) | .inr l=>On d a b l0 l) (jY br a b) (by
  rintro ⟨i,c,l⟩ ⟨i1,i2,i3,hon,hA⟩
  simp only at i1 i2 i3 hon hA ⊢
  have hf:=hf0.on hon
  have hl:=hon.len
  unfold jY
  by_cases hc5:c<5
  case neg =>
   right
   exact ⟨.inr l,by simp only [hc5,decide_false,Bool.false_eq_true,if_false],hon⟩
  obtain ⟨x,x1,x2,x3,x4,x5⟩:=Kj (body:=fZ br b (i,c,l)) (fun k=>!lt (gz d l k) (gz d l (k-1))) (i:=i) (j:=b-1) (by omega) (fun s q1 q2=>by
   unfold fZ
   simp (disch:=first | omega | (refine hf.all _ ?_ ?_ <;> omega)) only [show s<b from by omega,decide_true,if_true,eP d,Option.bind_some,hbr,aO,aR]) (by
   unfold fZ
   simp only [show ¬ b-1+1<b from by omega,decide_false,Bool.false_eq_true,if_false,Option.bind_some])
  have hAx:Asc d lt a x l:=by
   have:∀ n:Nat,∀ y,y≤x→y≤i+n→Asc d lt a y l:=by
    intro n
    induction n with
    | zero=>intro y _ y2 p q p1 p2 p3;exact hA p q p1 p2 (by omega)
    | succ n ih =>
      intro y y1 y2
      by_cases e:y≤i+n
      ·exact ih y y1 e
      ·have h0:=ih (y-1) (by omega) (by omega)
       have h1:=x4 (y-1) (by omega) (by omega)
       simp only [Bool.not_eq_eq_eq_not,Bool.not_true] at h1
       intro p q p1 p2 p3
       by_cases e1:q=y-1
       ·subst e1
        by_cases e2:p=y-1-1
        ·subst e2;exact h1
        ·exact w.le_trans (h0 p (y-1-1) p1 (by omega) (by omega)) h1
       ·exact h0 p q p1 p2 (by omega)
   exact this (x-i).toNat x (Int.le_refl _) (by omega)
  simp only [hc5,decide_true,if_true,x1,Option.bind_some]
  by_cases hxb:x=b
  ·right
   refine ⟨.inl (true,l),by simp only [hxb,beq_self_eq_true,if_true],hon,fun _=>?_⟩
   simp only;rw [← hxb];exact hAx
  have hbx:(x==b)=false:=by simp [hxb]
  simp only [hbx,Bool.false_eq_true,if_false,s1]
  by_cases h50:b-a<50
  ·right
   exact ⟨.inl (false,l),by simp only [h50,decide_true,if_true],hon,fun q=>by cases q⟩
  left
  have e1:aH x 1=x-1:=aR (by omega) (by omega)
  have e2:aH x a=x-a:=aR (by omega) (by omega)
  have e3:aH b x=b-x:=aR (by omega) (by omega)
  have e4:aE x 1=x+1:=aO (by omega) (by omega)
  have e5:aE c 1=c+1:=aO (by omega) (by omega)
  obtain ⟨l1,hl1⟩:∃ l1,sw d l x (x-1)=l1:=⟨_,rfl⟩
  have e6:List.set (List.set l (Int.toNat x) (gz d l (x-1))) (Int.toNat (x-1)) (gz d l x)=l1:=hl1
  have hon1:On d a b l0 l1:=hl1 ▸ .step hon x (x-1) (by omega) (by omega) (by omega) (by omega) ha (by omega)
  have hl1':=hon1.len
  have hf1:=hf0.on hon1
  have hpre1:0<a→∀ k,a≤k→k<b→lt (gz d l1 k) (gz d l1 (a-1))=false:=fun h k k1 k2=>by
   rw [hon1.out d (k:=a-1) (by omega) (.inl (by omega))]
   exact hon1.all d (fun y=>lt y (gz d l0 (a-1))=false) (fun k k1 k2=>hpre h k k1 k2) k k1 k2
  have hA1:Asc d lt a (x-1) l1:=fun p q p1 p2 p3=>by
   rw [← hl1,kY d (by omega) (by omega) (by omega) (by omega) (by omega),kY d (by omega) (by omega) (by omega) (by omega) (by omega),if_neg (by omega),if_neg (by omega),if_neg (by omega),if_neg (by omega)]
   exact hAx p q p1 p2 (by omega)
  -- behind the shift to the left
  have right_:∀ l2,On d a b l0 l2→Asc d lt a x l2→∃ l3,fY br b (i,c,l) x l2=some (.inl (x,c+1,l3))∧On d a b l0 l3∧Asc d lt a x l3:=fun l2 o2 a2=>by
   have hl2:=o2.len
   unfold fY jX
   by_cases q:b-x ≥ 2
   ·obtain ⟨l3,t1,t2⟩:=Xz hbr (i:=x) (b:=b) (l0:=l2) (by omega) (by omega) (by omega) (hf0.on o2)
    refine ⟨l3, ?_,o2.trans d (t2.mono d ha (by omega) (Int.le_refl _) (by omega)),fun p q p1 p2 p3=>?_⟩
    ·simp only [e3,q,decide_true,if_true,e4,t1,Option.bind_some,e5]
    ·rw [t2.out d (by omega) (.inl (by omega)),t2.out d (by omega) (.inl (by omega))]
     exact a2 p q p1 p2 p3
   ·exact ⟨l2,by simp only [e3,q,decide_false,Bool.false_eq_true,if_false,e5],o2,a2⟩
  simp (disch:=first | omega | (simp only [List.length_set];omega)) only [h50,decide_false,Bool.false_eq_true,if_false,e1,e2,eP d,Option.bind_some,e6]
  by_cases h2:x-a ≥ 2
  ·obtain ⟨l2,t1,t2,t3⟩:=Xy hbr w (a:=a) (b:=b) (i:=x) ha (by omega) (by omega) (by omega) hf1 hpre1 hA1
   obtain ⟨l3,u1,u2,u3⟩:=right_ l2 (hon1.trans d (t2.mono d ha (Int.le_refl _) (by omega) (by omega))) t3
   refine ⟨(x,c+1,l3), ?_,⟨by simp only;omega,by simp only;omega,by simp only;omega,u2,u3⟩,by simp only;omega⟩
   simp only [h2,decide_true,if_true,t1,Option.bind_some,u1]
  ·obtain ⟨l3,u1,u2,u3⟩:=right_ l1 hon1 (fun p q p1 p2 p3=>by omega)
   refine ⟨(x,c+1,l3), ?_,⟨by simp only;omega,by simp only;omega,by simp only;omega,u2,u3⟩,by simp only;omega⟩
   simp only [h2,decide_false,Bool.false_eq_true,if_false,u1]) (a+1,0,l0) ⟨by simp only;omega,by simp only;omega,by simp only;omega,.refl _,fun p q p1 p2 p3=>by simp only at p3;omega⟩
 unfold mL
 rw [s2,r1,Option.bind_some]
 cases r with
 | inl x=>exact ⟨x.1,x.2,rfl,r2.1,r2.2⟩
 | inr l=>exact ⟨false,l,rfl,r2,fun q=>by cases q⟩
end
def Out {α:Type} (d:α) (lt:α→α→Bool) (a0 b0 a b:Int) (l:List α):Prop:=∀ p q:Int,a0≤p→p<q→q<b0→(p<a∨b≤q)→lt (gz d l q) (gz d l p)=false
def Pre {α:Type} (d:α) (lt:α→α→Bool) (a b:Int) (l:List α):Prop:=0<a→∀ k,a≤k→k<b→lt (gz d l k) (gz d l (a-1))=false
section
variable {α:Type} {br:Br α} {lt:α→α→Bool} {P:α→Prop} {d:α} (hbr:∀ (β:Type) (x y:α) (k:Bool→Option β),P x→P y→br β x y k=k (lt x y)) (w:Iz lt)
theorem Md {a0 b0 a b:Int} {l l':List α} (h:Out d lt a0 b0 a b l) (ho:On d a b l l') (h0:0≤a0) (h1:a0≤a) (h2:b≤b0):Out d lt a0 b0 a b l':=by
 intro p q p1 p2 p3 p4
 by_cases hp:a≤p∧p<b
 ·rw [ho.out d (k:=q) (by omega) (.inr (by omega))]
  exact ho.all d (fun x=>lt (gz d l q) x=false) (fun k k1 k2=>h k q (by omega) (by omega) p3 (.inr (by omega))) p hp.1 hp.2
 ·rw [ho.out d (k:=p) (by omega) (by omega)]
  by_cases hq:a≤q∧q<b
  ·exact ho.all d (fun x=>lt x (gz d l p)=false) (fun k k1 k2=>h p k p1 (by omega) (by omega) (.inl (by omega))) q hq.1 hq.2
  ·rw [ho.out d (k:=q) (by omega) (by omega)]
   exact h p q p1 p2 p3 p4
theorem CS {a0 b0 a b:Int} {l:List α} (h:Out d lt a0 b0 a b l) (ha:Asc d lt a b l):Asc d lt a0 b0 l:=by
 intro p q p1 p2 p3
 by_cases e:p<a∨b≤q
 ·exact h p q p1 p2 p3 e
 ·exact ha p q (by omega) p2 (by omega)
theorem Tu {a0 b0 a b:Int} {l0 l:List α} (hp:Pre d lt a0 b0 l0) (h0:0≤a0) (h1:a0≤a) (h2:b≤b0) (ho:On d a0 b0 l0 l) (h:Out d lt a0 b0 a b l):Pre d lt a b l:=by
 intro hpos k k1 k2
 by_cases e:a=a0
 ·subst e
  rw [ho.out d (k:=a-1) (by omega) (.inl (by omega))]
  exact ho.all d (fun x=>lt x (gz d l0 (a-1))=false) (fun k k1 k2=>hp hpos k k1 k2) k k1 (by omega)
 ·exact h (a-1) k (by omega) (by omega) (by omega) (.inl (by omega))
theorem pre_on {a b:Int} {l l':List α} (hp:Pre d lt a b l) (h0:0≤a) (ho:On d a b l l'):Pre d lt a b l':=Tu (a0:=a) (b0:=b) hp h0 (Int.le_refl _) (Int.le_refl _) ho fun p q p1 p2 p3 p4=>absurd p4 (by omega)
include hbr w
theorem Rw {self:Int→Int→Int→List α→Option (List α)} {N:Int}
  (hself:∀ (a b limit:Int) (l:List α),0≤a→a≤b→b≤l.length→xQ P d l→Pre d lt a b l→b-a<N→∃ l',self a b limit l=some l'∧On d a b l l'∧Asc d lt a b l')
  {a0 b0 limit:Int} {l0:List α} (h0:0≤a0) (hab:a0≤b0) (hb:b0≤l0.length) (hf0:xQ P d l0) (hpre:Pre d lt a0 b0 l0) (hN:b0-a0≤12∨b0-a0<2*N) :
  ∃ l',aJ (tR br self) (a0,b0,limit,true,true,l0)=some l'∧On d a0 b0 l0 l'∧Asc d lt a0 b0 l':=by
 have hL:=hf0.len
 refine jB (fun s:Int×Int×Int×Bool×Bool×List α=>(s.2.1-s.1).toNat) (fun s:Int×Int×Int×Bool×Bool×List α=>a0≤s.1∧s.1≤s.2.1∧s.2.1≤b0∧On d a0 b0 l0 s.2.2.2.2.2∧Out d lt a0 b0 s.1 s.2.1 s.2.2.2.2.2)
  (fun l'=>On d a0 b0 l0 l'∧Asc d lt a0 b0 l') (tR br self) ?_ (a0,b0,limit,true,true,l0) ⟨Int.le_refl _,hab,Int.le_refl _,.refl _,fun p q p1 p2 p3 p4=>absurd p4 (by simp only;omega)⟩
 rintro ⟨a,b,lim,wb,wp,l⟩ ⟨i1,i2,i3,hon,hout⟩
 simp only at i1 i2 i3 hon hout ⊢
 have hf:=hf0.on hon
 have hl:=hon.len
 have s1:aH b a=b-a:=aR (by omega) (by omega)
 -- what ends it
 have fin:∀ l',On d a b l l'→Asc d lt a b l'→On d a0 b0 l0 l'∧Asc d lt a0 b0 l':=fun l' o as =>
  ⟨hon.trans d (o.mono d h0 i1 i3 (by omega)),CS (Md hout o h0 i1 i3) as⟩
 unfold tR
 simp only [s1]
 by_cases h12:b-a≤12
 ·right
  obtain ⟨l',t1,t2,t3⟩:=Hg hbr w (a:=a) (b:=b) (l0:=l) (by omega) i2 (by omega) hf
  exact ⟨l',by simp only [h12,decide_true,if_true,t1,Option.bind_some],fin l' t2 t3⟩
 simp only [h12,decide_false,Bool.false_eq_true,if_false]
 by_cases hz:lim=0
 ·right
  obtain ⟨l',t1,t2,t3⟩:=Rh hbr w (a:=a) (b:=b) (l0:=l) (by omega) i2 (by omega) hf
  exact ⟨l',by simp only [hz,beq_self_eq_true,if_true,t1,Option.bind_some],fin l' t2 t3⟩
 have hz':(lim==0)=false:=by simp [hz]
 simp only [hz',Bool.false_eq_true,if_false]
 have hN':b-a<2*N:=by omega
 -- the partition
 have k1 : ∀ (j127:Int×List α) (pivot hint:Int) (lx:List α) (wb' wp':Bool) (l1:List α),On d a b l l1→a≤pivot→pivot<b →
   (∃ s',pP br self (a,b,lim,wb,wp,l) j127 (pivot,hint,lx) (wb',wp',l1)=some (.inl s')∧(a0≤s'.1∧s'.1≤s'.2.1∧s'.2.1≤b0∧On d a0 b0 l0 s'.2.2.2.2.2∧Out d lt a0 b0 s'.1 s'.2.1 s'.2.2.2.2.2)∧(s'.2.1-s'.1).toNat<(b-a).toNat) ∨
   (∃ r,pP br self (a,b,lim,wb,wp,l) j127 (pivot,hint,lx) (wb',wp',l1)=some (.inr r)∧On d a0 b0 l0 r∧Asc d lt a0 b0 r):=by
  intro j127 pivot hint lx wb' wp' l1 o1 v1 v2
  left
  have hl1:=o1.len
  have hf1:=hf.on o1
  have hon1:On d a0 b0 l0 l1:=hon.trans d (o1.mono d h0 i1 i3 (by omega))
  have hout1:=Md hout o1 h0 i1 i3
  have hpre1:Pre d lt a b l1:=Tu hpre h0 i1 i3 hon1 hout1
  have part:∃ s',((uV br a b pivot l1).bind fun r162=>if (decide ((aH r162.1 a)<(aH b r162.1))) then ((self a r162.1 j127.1 r162.2.2).bind fun r164=>some (.inl ((aE r162.1 1),b,j127.1,(decide ((aH r162.1 a) ≥ (pK (aH b a) 8))),r162.2.1,r164))) else ((self (aE r162.1 1) b j127.1 r162.2.2).bind fun r166=>some (Sum.inl (β:=List α) (a,r162.1,j127.1,(decide ((aH b r162.1) ≥ (pK (aH b a) 8))),r162.2.1,r166))))=some (.inl s') ∧
    (a0≤s'.1∧s'.1≤s'.2.1∧s'.2.1≤b0∧On d a0 b0 l0 s'.2.2.2.2.2∧Out d lt a0 b0 s'.1 s'.2.1 s'.2.2.2.2.2)∧(s'.2.1-s'.1).toNat<(b-a).toNat:=by
   obtain ⟨mid,al,l2,t1,t2,t3,t4,t5,t6⟩:=Pp hbr (a:=a) (b:=b) (pivot:=pivot) (l0:=l1) (by omega) (by omega) (by omega) hf1 v1 v2
   have hl2:=t2.len
   have hf2:=hf1.on t2
   have hon2:On d a0 b0 l0 l2:=hon1.trans d (t2.mono d h0 i1 i3 (by omega))
   have hout2:=Md hout1 t2 h0 i1 i3
   have hpre2:Pre d lt a b l2:=pre_on hpre1 (by omega) t2
   -- all pairs that are not both on one side
   have ord:∀ p q:Int,a0≤p→p<q→q<b0→(p<a∨b≤q∨(p≤mid∧mid≤q))→lt (gz d l2 q) (gz d l2 p)=false:=fun p q p1 p2 p3 p4=>by
    by_cases e:p<a∨b≤q
    ·exact hout2 p q p1 p2 p3 e
    ·by_cases ep:p=mid
     ·subst ep;exact t6 q (by omega) (by omega)
     ·have hp:=w.asymm _ _ (t5 p (by omega) (by omega))
      by_cases eq:q=mid
      ·subst eq;exact hp
      ·exact w.le_trans hp (t6 q (by omega) (by omega))
   have e1:aH mid a=mid-a:=aR (by omega) (by omega)
   have e2:aH b mid=b-mid:=aR (by omega) (by omega)
   have e3:aE mid 1=mid+1:=aO (by omega) (by omega)
   simp only [t1,Option.bind_some,e1,e2,e3]
   by_cases hlr:mid-a<b-mid
   ·obtain ⟨l3,u1,u2,u3⟩:=hself a mid j127.1 l2 (by omega) t3 (by omega) hf2 (fun hpos k k1 k2=>hpre2 hpos k k1 (by omega)) (by omega)
    simp only [hlr,decide_true,if_true,u1,Option.bind_some]
    refine ⟨_,rfl,⟨by simp only;omega,by simp only;omega,i3,hon2.trans d (u2.mono d h0 i1 (by omega) (by omega)), ?_⟩,by simp only;omega⟩
    intro p q p1 p2 p3 p4
    simp only at p4 ⊢
    by_cases hp:a≤p∧p<mid
    ·by_cases hq:q<mid
     ·exact u3 p q hp.1 p2 hq
     ·rw [u2.out d (k:=q) (by omega) (.inr (by omega))]
      exact u2.all d (fun x=>lt (gz d l2 q) x=false) (fun k k1 k2=>ord k q (by omega) (by omega) p3 (by omega)) p hp.1 hp.2
    ·rw [u2.out d (k:=p) (by omega) (by omega)]
     by_cases hq:a≤q∧q<mid
     ·exact u2.all d (fun x=>lt x (gz d l2 p)=false) (fun k k1 k2=>ord p k p1 (by omega) (by omega) (by omega)) q hq.1 hq.2
     ·rw [u2.out d (k:=q) (by omega) (by omega)]
      exact ord p q p1 p2 p3 (by omega)
   ·obtain ⟨l3,u1,u2,u3⟩:=hself (mid+1) b j127.1 l2 (by omega) (by omega) (by omega) hf2 (fun hpos k k1 k2=>by
     rw [show mid+1-1=mid from by omega]
     exact t6 k (by omega) k2) (by omega)
    simp only [hlr,decide_false,Bool.false_eq_true,if_false,u1,Option.bind_some]
    refine ⟨_,rfl,⟨i1,t3,by simp only;omega,hon2.trans d (u2.mono d h0 (by omega) i3 (by omega)), ?_⟩,by simp only;omega⟩
    intro p q p1 p2 p3 p4
    simp only at p4 ⊢
    by_cases hp:mid+1≤p∧p<b
    ·by_cases hq:q<b
     ·exact u3 p q hp.1 p2 hq
     ·rw [u2.out d (k:=q) (by omega) (.inr (by omega))]
      exact u2.all d (fun x=>lt (gz d l2 q) x=false) (fun k k1 k2=>ord k q (by omega) (by omega) p3 (by omega)) p hp.1 hp.2
    ·rw [u2.out d (k:=p) (by omega) (by omega)]
     by_cases hq:mid+1≤q∧q<b
     ·exact u2.all d (fun x=>lt x (gz d l2 p)=false) (fun k k1 k2=>ord p k p1 (by omega) (by omega) (by omega)) q hq.1 hq.2
     ·rw [u2.out d (k:=q) (by omega) (by omega)]
      exact ord p q p1 p2 p3 (by omega)
  unfold pP
  by_cases hpos:a>0
  ·cases hc:lt (gz d l1 (a-1)) (gz d l1 pivot) with
   | true =>
     simp (disch:=first | omega | (refine hf1.all _ ?_ ?_ <;> omega)) only [hpos,decide_true,if_true,aR,eP d,Option.bind_some,hbr,hc,Bool.not_true,Bool.false_eq_true,if_false]
     simpa only [s1] using part
   | false =>
     obtain ⟨mid,l2,t1,t2,t3,t4,t5⟩:=Gt hbr (a:=a) (b:=b) (pivot:=pivot) (l0:=l1) (by omega) (by omega) (by omega) hf1 v1 v2 w.irrefl
     refine ⟨(mid,b,j127.1,wb',wp',l2), ?_,⟨by simp only;omega,t4,i3,hon1.trans d (t2.mono d h0 i1 i3 (by omega)), ?_⟩,by simp only;omega⟩
     ·simp (disch:=first | omega | (refine hf1.all _ ?_ ?_ <;> omega)) only [hpos,decide_true,if_true,aR,eP d,Option.bind_some,hbr,hc,Bool.not_false,t1]
     ·have hout2:=Md hout1 t2 h0 i1 i3
      have hpre2:Pre d lt a b l2:=pre_on hpre1 (by omega) t2
      have hl2:=t2.len
      intro p q p1 p2 p3 p4
      simp only at p4 ⊢
      by_cases e:p<a∨b≤q
      ·exact hout2 p q p1 p2 p3 e
      ·have hp:=t5 p (by omega) (by omega)
       have hq:=hpre2 hpos q (by omega) (by omega)
       rw [t2.out d (k:=a-1) (by omega) (.inl (by omega))] at hq
       cases hlt:lt (gz d l2 q) (gz d l2 p) with
       | false=>rfl
       | true =>
         rcases w.neg _ (gz d l1 pivot) _ hlt with r | r
         ·rcases w.neg _ (gz d l1 (a-1)) _ r with r | r
          ·rw [hq] at r;cases r
          ·rw [hc] at r;cases r
         ·rw [hp] at r;cases r
  ·simp only [hpos,decide_false,Bool.false_eq_true,if_false,Option.bind_some]
   simpa only [s1] using part
 have k2:∀ (j127:Int×List α) (pivot hint:Int) (l1:List α),On d a b l l1→a≤pivot→pivot<b →
   (∃ s',pQ br self (a,b,lim,wb,wp,l) j127 (pivot,hint,l1)=some (.inl s')∧(a0≤s'.1∧s'.1≤s'.2.1∧s'.2.1≤b0∧On d a0 b0 l0 s'.2.2.2.2.2∧Out d lt a0 b0 s'.1 s'.2.1 s'.2.2.2.2.2)∧(s'.2.1-s'.1).toNat<(b-a).toNat) ∨
   (∃ r,pQ br self (a,b,lim,wb,wp,l) j127 (pivot,hint,l1)=some (.inr r)∧On d a0 b0 l0 r∧Asc d lt a0 b0 r):=by
  intro j127 pivot hint l1 o1 v1 v2
  unfold pQ
  obtain ⟨c,hc⟩:∃ c:Bool×Bool×Bool,(if wb then (if wp then (some (true,true,(hint==1))) else (some (true,false,false))) else (some (false,wp,false)))=some c:=by
   cases wb <;> cases wp <;> exact ⟨_,rfl⟩
  simp only [hc,Option.bind_some]
  cases hc2:c.2.2 with
  | false =>
    simp only [Bool.false_eq_true,if_false]
    exact k1 _ _ _ _ _ _ _ o1 v1 v2
  | true =>
    have hl1:=o1.len
    have hon1:On d a0 b0 l0 l1:=hon.trans d (o1.mono d h0 i1 i3 (by omega))
    have hpre1:Pre d lt a b l1:=Tu hpre h0 i1 i3 hon1 (Md hout o1 h0 i1 i3)
    obtain ⟨r,l2,t1,t2,t3⟩:=Ts hbr w (a:=a) (b:=b) (l0:=l1) (by omega) (by omega) (by omega) (hf.on o1) hpre1
    simp only [if_true,t1,Option.bind_some]
    cases hr:r with
    | true =>
      right
      simp only [if_true]
      exact ⟨l2,rfl,fin l2 (o1.trans d t2) (t3 hr)⟩
    | false =>
      simp only [Bool.false_eq_true,if_false]
      exact k1 _ _ _ _ _ _ _ (o1.trans d t2) v1 v2
 have k3:∀ (lim':Int) (l1:List α),On d a b l l1 →
   (∃ s',pR br self (a,b,lim,wb,wp,l) (lim',l1)=some (.inl s')∧(a0≤s'.1∧s'.1≤s'.2.1∧s'.2.1≤b0∧On d a0 b0 l0 s'.2.2.2.2.2∧Out d lt a0 b0 s'.1 s'.2.1 s'.2.2.2.2.2)∧(s'.2.1-s'.1).toNat<(b-a).toNat) ∨
   (∃ r,pR br self (a,b,lim,wb,wp,l) (lim',l1)=some (.inr r)∧On d a0 b0 l0 r∧Asc d lt a0 b0 r):=by
  intro lim' l1 o1
  have hl1:=o1.len
  unfold pR
  obtain ⟨pv,h,t1,t2,t3⟩:=Wo hbr (l:=l1) (hf.on o1) (a:=a) (b:=b) (by omega) (by omega) (by omega)
  simp only [t1,Option.bind_some]
  by_cases h2:h=2
  ·obtain ⟨l2,u1,u2⟩:=Tx (br:=br) (d:=d) (a:=a) (b:=b) (l0:=l1) (by omega) (by omega) (by omega) i2
   have e1:aH b 1=b-1:=aR (by omega) (by omega)
   have e2:aH pv a=pv-a:=aR (by omega) (by omega)
   have e3:aH (b-1) (pv-a)=b-1-(pv-a):=aR (by omega) (by omega)
   simp only [h2,beq_self_eq_true,if_true,u1,Option.bind_some,e1,e2,e3]
   exact k2 _ _ _ _ (o1.trans d u2) (by omega) (by omega)
  ·have:(h==2)=false:=by simp [h2]
   simp only [this,Bool.false_eq_true,if_false]
   exact k2 _ _ _ _ o1 t2 t3
 cases hwb:wb with
 | false =>
   obtain ⟨l1,t1,t2⟩:=Yv (br:=br) (d:=d) (a:=a) (b:=b) (l0:=l) (by omega) (by omega) (by omega) i2
   simp only [Bool.not_false,if_true,t1,Option.bind_some]
   have:=k3 (aH lim 1) l1 t2
   rw [hwb] at this
   exact this
 | true =>
   simp only [Bool.not_true,Bool.false_eq_true,if_false]
   have:=k3 lim l (.refl _)
   rw [hwb] at this
   exact this
theorem AZ:∀ (n:Nat) (a b limit:Int) (l:List α),0≤a→a≤b→b≤l.length→xQ P d l→Pre d lt a b l→b-a<2^n→∃ l',kX br (n+1) a b limit l=some l'∧On d a b l l'∧Asc d lt a b l'
 | 0,a,b,limit,l,h0,hab,hb,hf,hp,hn=>by
   obtain ⟨l',t1,t2,t3⟩:=Rw hbr w (self:=kX br 0) (N:=0) (fun a b limit l h1 h2 _ _ _ h3=>by omega) (limit:=limit) h0 hab hb hf hp (.inl (by omega))
   refine ⟨l', ?_,t2,t3⟩
   show nE br (kX br 0) a b limit l=some l'
   unfold nE
   rw [t1];rfl
 | n+1,a,b,limit,l,h0,hab,hb,hf,hp,hn=>by
   obtain ⟨l',t1,t2,t3⟩:=Rw hbr w (self:=kX br (n+1)) (N:=2^n) (fun a b limit l h1 h2 h3 h4 h5 h6=>AZ n a b limit l h1 h2 h3 h4 h5 h6) (limit:=limit) h0 hab hb hf hp (.inr (by rw [Int.pow_succ] at hn;omega))
   refine ⟨l', ?_,t2,t3⟩
   show nE br (kX br (n+1)) a b limit l=some l'
   unfold nE
   rw [t1];rfl
theorem DV (m:Nat) (hm:31≤m) {l:List α} (hf:xQ P d l) (v:Int):∃ l',kX br (m+1) 0 (l.length:Int) v l=some l'∧On d 0 (l.length:Int) l l'∧Asc d lt 0 (l.length:Int) l':=by
 have hL:=hf.len
 refine AZ hbr w m 0 (l.length:Int) v l (Int.le_refl _) (by omega) (Int.le_refl _) hf (fun h=>absurd h (by omega)) ?_
 have h1:(2147483648:Nat)≤2^m:=Nat.le_trans (by decide:2147483648≤2^31) (Nat.pow_le_pow_right (by omega) hm)
 have h3:((2:Int)^m)=((2^m:Nat):Int):=by simp
 rw [h3]
 omega
theorem Sj {l:List α} (hf:xQ P d l):∃ l',Ci br l=some l'∧l'.Perm l∧l'.Pairwise fun x y=>lt y x=false:=by
 have hL:=hf.len
 obtain ⟨v,v1,_⟩:=AJ (x:=(l.length:Int)) (by omega) hL
 obtain ⟨l',t1,t2,t3⟩:=DV hbr w 999 (by omega) hf v
 refine ⟨l', ?_,t2.perm, ?_⟩
 ·unfold Ci Li
  rw [v1,Option.bind_some,t1];rfl
 ·have hl:=t2.len
  rw [List.pairwise_iff_getElem]
  intro i j hi hj hij
  have:=t3 (i:Int) (j:Int) (by omega) (by omega) (by omega)
  unfold gz at this
  rw [List.getD_eq_getElem?_getD,List.getD_eq_getElem?_getD,Int.toNat_natCast,Int.toNat_natCast,List.getElem?_eq_getElem hi,List.getElem?_eq_getElem hj] at this
  exact this
end
def tP {α:Type} (a1:Int×Int×(List α)):Int×(List α)→Option (Int×Int×(List α) ⊕ Int×(List α)):=fun a0 =>
 some (.inl (a0.1,(aE a1.2.1 1),a0.2))
def tQ {α:Type} (eqb:α→α→Bool) (h0:(List α)) (a1:Int):Int×Int×(List α)→Option (Int×Int×(List α) ⊕ Int×(List α)):=fun a0 =>
 if (decide (a0.2.1<((Int.toNat (h0.length:Int)-Int.toNat a1:Nat):Int))) then ((idx (List.take (Int.toNat (h0.length:Int)-Int.toNat a1) (List.drop (Int.toNat a1) a0.2.2)) a0.2.1).bind fun a2=>(idx (List.take (Int.toNat (h0.length:Int)-Int.toNat a1) (List.drop (Int.toNat a1) a0.2.2)) (aH a0.2.1 1)).bind fun a3=>if (!(eqb a2 a3)) then ((idx (List.take (Int.toNat (h0.length:Int)-Int.toNat a1) (List.drop (Int.toNat a1) a0.2.2)) a0.2.1).bind fun a4=>(idx a0.2.2 a0.1).bind fun a5=>tP a0 ((aE a0.1 1),(List.set a0.2.2 (Int.toNat a0.1) a4))) else (tP a0 (a0.1,a0.2.2))) else (some (.inr (a0.1,a0.2.2)))
def xY {α:Type} (eqb:α→α→Bool) (z:α) (h0:(List α)):Int→Option (Int ⊕ ((List α) ⊕ Unit)):=fun a1 =>
 if (decide (a1<(h0.length:Int))) then ((idx h0 a1).bind fun a3=>(idx h0 (aH a1 1)).bind fun a4=>if (eqb a3 a4) then (if (decide ((0:Int)≤a1)&&(decide (a1≤(h0.length:Int))&&decide ((h0.length:Int)≤(h0.length:Int)))) then ((aJ (tQ eqb h0 a1) (a1,1,h0)).bind fun a0=>if (decide ((0:Int)≤a0.1)&&(decide (a0.1≤(a0.2.length:Int))&&decide ((a0.2.length:Int)≤(a0.2.length:Int)))) then ((slc (cpy a0.2 (Int.toNat a0.1) (List.replicate (Int.toNat (a0.2.length:Int)-Int.toNat a0.1) z)) 0 a0.1).bind fun a2=>some (.inr (.inl a2))) else none) else none) else (some (.inl (aE a1 1)))) else (some (.inr (.inr (()))))
def Eu {α:Type} (eqb:α→α→Bool) (z:α) (h0:(List α)):Option ((List α)):=
 if (decide ((h0.length:Int)<2)) then (some h0) else ((aJ (xY eqb z h0) 1).bind fun a1=>match a1 with | .inl a0=>some a0 | .inr a2=>some h0)
section
variable {α:Type} {lt:α→α→Bool} (w:Iz lt) (tri:∀ x y,lt x y=false→lt y x=false→x=y) {eqb:α→α→Bool} (heq:∀ x y,eqb x y=true↔x=y) (z:α)
include w tri
theorem Ix {r:List α} {y x:α} (hr:(r++[y]).Pairwise fun a b=>lt a b=true) (hy:lt x y=false) (hne:x≠y):(r++[y]++[x]).Pairwise fun a b=>lt a b=true:=by
 have hyx:lt y x=true:=by
  cases h:lt y x with
  | true=>rfl
  | false=>exact absurd (tri x y hy h) hne
 rw [List.pairwise_append]
 refine ⟨hr,by simp,fun a ha b hb=>?_⟩
 simp at hb
 subst hb
 rw [List.pairwise_append] at hr
 rcases List.mem_append.1 ha with m | m
 ·have h1:=hr.2.2 a m y (by simp)
  rcases w.neg y a b hyx with q | q
  ·rw [w.asymm _ _ h1] at q;cases q
  ·exact q
 ·simp at m;subst m;exact hyx
include heq
theorem Sy {l:List α} (hl:(l.length:Int)≤1073741824) (hs:l.Pairwise fun x y=>lt y x=false) :
  ∃ r,Eu eqb z l=some r∧(r.Pairwise fun x y=>lt x y=true)∧∀ x,x ∈ r↔x ∈ l:=by
 unfold Eu
 by_cases h2:(l.length:Int)<2
 ·refine ⟨l,by simp only [h2,decide_true,if_true], ?_,fun x=>Iff.rfl⟩
  have hlen:l.length<2:=by omega
  clear hl hs h2
  rcases l with _ | ⟨x,_ | ⟨y,t⟩⟩
  ·exact .nil
  ·simp
  ·simp at hlen;omega
 simp only [h2,decide_false,Bool.false_eq_true,if_false]
 have adj:∀ (i j:Nat) (x y:α),i<j→l[i]?=some x→l[j]?=some y→lt y x=false:=fun i j x y hij hx hy=>by
  have h1:=(List.getElem?_eq_some_iff.1 hx)
  have h3:=(List.getElem?_eq_some_iff.1 hy)
  obtain ⟨a1,rfl⟩:=h1
  obtain ⟨b1,rfl⟩:=h3
  exact List.pairwise_iff_getElem.1 hs i j a1 b1 hij
 have get:∀ i:Nat,i<l.length→∃ x,l[i]?=some x:=fun i hi=>⟨l[i],List.getElem?_eq_getElem hi⟩
 have takes:∀ (i:Nat) (x:α),l[i]?=some x→l.take (i+1)=l.take i++[x]:=fun i x hx=>by rw [List.take_add_one,hx];rfl
 -- the second walk
 have inner:∀ (k:Nat) (y:α),1≤k→k<l.length→l[k]?=some y→l[k-1]?=some y→((l.take k).Pairwise fun x y=>lt x y=true) →
   ∃ (i:Nat) (l':List α),aJ (tQ eqb l (k:Int)) ((k:Int),1,l)=some ((i:Int),l')∧i≤l'.length∧l'.length=l.length∧((l'.take i).Pairwise fun x y=>lt x y=true)∧∀ x,x ∈ l'.take i↔x ∈ l:=by
  intro k y k1 kl hy hy1 hp
  obtain ⟨r,r1,i,r2,r3,r4,r5,r6⟩:=jB (fun s:Int×Int×List α=>((l.length:Int)-k-s.2.1).toNat)
   (fun s:Int×Int×List α=>∃ (i p:Nat) (y:α),s.1=i∧s.2.1=((p-k:Nat):Int)∧k+1≤p∧p≤l.length∧1≤i∧i≤p-1∧s.2.2.length=l.length∧s.2.2.drop i=l.drop i∧l[p-1]?=some y∧(∃ t,s.2.2.take i=t++[y])∧((s.2.2.take i).Pairwise fun x y=>lt x y=true)∧∀ x,x ∈ s.2.2.take i↔x ∈ l.take p)
   (fun r:Int×List α=>∃ i:Nat,r.1=i∧i≤r.2.length∧r.2.length=l.length∧((r.2.take i).Pairwise fun x y=>lt x y=true)∧∀ x,x ∈ r.2.take i↔x ∈ l) (tQ eqb l (k:Int)) (by
    rintro ⟨i',k2,m⟩ ⟨i,p,y,hi',hk2,p1,p2,i0,i1,hml,hdrop,hy,⟨t,ht⟩,hpw,hmem⟩
    simp only at hi' hk2 hml hdrop ht hpw hmem ⊢
    subst hi' hk2
    unfold tQ
    simp only [Int.toNat_natCast]
    by_cases hp:p<l.length
    ·left
     obtain ⟨x,hx⟩:=get p hp
     have mg:∀ j,i≤j→m[j]?=l[j]?:=fun j hj=>by
      have:=congrArg (fun q=>q[j-i]?) hdrop
      simp only [List.getElem?_drop] at this
      rwa [show i+(j-i)=j from by omega] at this
     have hc:((p-k:Nat):Int)<((l.length-k:Nat):Int):=by omega
     have g1:idx (List.take (l.length-k) (List.drop k m)) ((p-k:Nat):Int)=some x:=by
      rw [Pg,List.getElem?_take,if_pos (by omega),List.getElem?_drop,show k+(p-k)=p from by omega,mg p (by omega),hx]
     have e1:aH ((p-k:Nat):Int) 1=((p-1-k:Nat):Int):=by rw [aR (by omega) (by omega)];omega
     have g2:idx (List.take (l.length-k) (List.drop k m)) ((p-1-k:Nat):Int)=some y:=by
      rw [Pg,List.getElem?_take,if_pos (by omega),List.getElem?_drop,show k+(p-1-k)=p-1 from by omega,mg (p-1) (by omega),hy]
     have e2:aE ((p-k:Nat):Int) 1=((p+1-k:Nat):Int):=by rw [aO (by omega) (by omega)];omega
     have e3:aE (i:Int) 1=((i+1:Nat):Int):=by rw [aO (by omega) (by omega)];omega
     have tk:=takes p x hx
     simp only [hc,decide_true,if_true,g1,Option.bind_some,e1,g2]
     cases hb:eqb x y with
     | true =>
       obtain rfl:=(heq x y).1 hb
       simp only [Bool.not_true,Bool.false_eq_true,if_false,tP,e2]
       refine ⟨_,rfl,⟨i,p+1,x,rfl,rfl,by omega,by omega,i0,by omega,hml,hdrop,by rw [show p+1-1=p from by omega];exact hx,⟨t,ht⟩,hpw,fun v=>?_⟩,by simp only;omega⟩
       rw [hmem v,tk,List.mem_append,List.mem_singleton]
       constructor
       ·exact .inl
       ·rintro (q | rfl)
        ·exact q
        ·rw [← hmem v,ht];simp
     | false =>
       have hne:x≠y:=fun e=>by rw [(heq x y).2 e] at hb;cases hb
       have gi:idx m (i:Int)=some (m[i]'(by omega)):=by rw [Pg];exact List.getElem?_eq_getElem _
       simp only [Bool.not_false,if_true,gi,Option.bind_some,tP,e2,e3]
       have tset:(m.set i x).take (i+1)=m.take i++[x]:=by
        rw [List.take_add_one,List.take_set_of_le (Nat.le_refl i),List.getElem?_set,if_pos rfl,if_pos (by omega)];rfl
       refine ⟨_,rfl,⟨i+1,p+1,x,rfl,rfl,by omega,by omega,by omega,by omega,by simp only [List.length_set];exact hml, ?_,by rw [show p+1-1=p from by omega];exact hx,⟨m.take i,tset⟩, ?_,fun v=>?_⟩,by simp only;omega⟩
       ·simp only
        rw [List.drop_set_of_lt (by omega),← List.drop_drop,hdrop,List.drop_drop]
       ·simp only
        rw [tset,ht]
        rw [ht] at hpw
        exact Ix w tri hpw (adj (p-1) p y x (by omega) hy hx) hne
       ·simp only
        rw [tset,tk,List.mem_append,List.mem_append,hmem v]
    ·right
     have hc:¬ ((p-k:Nat):Int)<((l.length-k:Nat):Int):=by omega
     refine ⟨((i:Int),m),by simp only [hc,decide_false,Bool.false_eq_true,if_false],i,rfl,by simp only;omega,hml,hpw,fun v=>?_⟩
     rw [hmem v,List.take_of_length_le (by omega)]) ((k:Int),1,l) ⟨k,k+1,y,rfl,by simp only;omega,by omega,by omega,k1,by omega,rfl,rfl,by rw [show k+1-1=k from by omega];exact hy,⟨l.take (k-1),by
      have:=takes (k-1) y hy1
      rwa [show k-1+1=k from by omega] at this⟩,hp,fun v=>by
      rw [takes k y hy,List.mem_append,List.mem_singleton]
      constructor
      ·exact .inl
      ·rintro (q | rfl)
       ·exact q
       ·have:=takes (k-1) v hy1
        rw [show k-1+1=k from by omega] at this
        rw [this];simp⟩
  exact ⟨i,r.2,by rw [r1];congr 1;exact Prod.ext r2 rfl,r3,r4,r5,r6⟩
 obtain ⟨r,r1,r2⟩:=jB (fun s:Int=>((l.length:Int)-s).toNat) (fun s:Int=>∃ k:Nat,s=k∧1≤k∧k≤l.length∧((l.take k).Pairwise fun x y=>lt x y=true))
  (fun r:List α ⊕ Unit=>match r with | .inl r=>(r.Pairwise fun x y=>lt x y=true)∧∀ x,x ∈ r↔x ∈ l | .inr _=>l.Pairwise fun x y=>lt x y=true) (xY eqb z l) (by
   rintro s ⟨k,rfl,k1,k2,hp⟩
   unfold xY
   by_cases hk:k<l.length
   ·have hc:(k:Int)<(l.length:Int):=by omega
    obtain ⟨x,hx⟩:=get k hk
    obtain ⟨y,hy⟩:=get (k-1) (by omega)
    have e1:aH (k:Int) 1=((k-1:Nat):Int):=by rw [aR (by omega) (by omega)];omega
    simp only [hc,decide_true,if_true,bS hx,Option.bind_some,e1,bS hy]
    cases hb:eqb x y with
    | false =>
      left
      have hne:x≠y:=fun e=>by rw [(heq x y).2 e] at hb;cases hb
      simp only [Bool.false_eq_true,if_false]
      refine ⟨((k+1:Nat):Int),by rw [bH k (by omega)],⟨k+1,rfl,by omega,by omega, ?_⟩,by omega⟩
      rw [takes k x hx]
      have:=takes (k-1) y hy
      rw [show k-1+1=k from by omega] at this
      rw [this] at hp ⊢
      exact Ix w tri hp (adj (k-1) k y x (by omega) hy hx) hne
    | true =>
      right
      obtain rfl:=(heq x y).1 hb
      obtain ⟨i,l',t1,t2,t3,t4,t5⟩:=inner k x k1 hk hx hy hp
      have c0:decide ((0:Int)≤(k:Int))=true:=by simp
      have c1:decide ((k:Int)≤(l.length:Int))=true:=by simp;omega
      have c2:decide ((l.length:Int)≤(l.length:Int))=true:=by simp
      have c3:decide ((0:Int)≤(i:Int))=true:=by simp
      have c4:decide ((i:Int)≤(l'.length:Int))=true:=by simp;omega
      have c5:decide ((l'.length:Int)≤(l'.length:Int))=true:=by simp
      have hsl:slc (cpy l' i (List.replicate (l'.length-i) z)) 0 (i:Int)=some (l'.take i):=by
       unfold slc cpy
       rw [if_pos ⟨Int.le_refl _,by omega,by simp;omega⟩]
       simp only [Int.toNat_natCast,Int.toNat_zero,List.drop_zero]
       rw [List.append_assoc,List.take_append_of_le_length (by rw [List.length_take];omega),List.take_take,Nat.min_self]
      simp only [if_true,c0,c1,c2,Bool.and_self,t1,Option.bind_some,c3,c4,c5,Int.toNat_natCast,hsl]
      exact ⟨_,rfl,t4,t5⟩
   ·right
    have hc:¬ (k:Int)<(l.length:Int):=by omega
    refine ⟨.inr (),by simp only [hc,decide_false,Bool.false_eq_true,if_false], ?_⟩
    simp only
    rwa [List.take_of_length_le (by omega)] at hp) 1 ⟨1,rfl,by omega,by omega,by
     have hlen:2≤l.length:=by omega
     clear inner takes get adj h2 hs hl
     rcases l with _ | ⟨x,t⟩
     ·simp at hlen
     ·simp⟩
 rw [r1,Option.bind_some]
 cases r with
 | inl r=>exact ⟨r,rfl,r2.1,r2.2⟩
 | inr _=>exact ⟨l,rfl,r2,fun x=>Iff.rfl⟩
end
structure aF where
 X:Int
 Y:Int
 W:Int
 H:Int
def aB (x:aF):List PV:=[(vI x.X),(vI x.Y),(vI x.W),(vI x.H)]
abbrev aL (l:List aF):PV:=.sl (List.map aB l)
abbrev bI (e:Nat) (l:List aF):HO:=.row e [] (List.map aB l)
structure jW where
 Name:ByteArray
 bA:ByteArray
 fT:Int
 fE:Int
 bU:(List aF)
 pG:(List aF)
 Forms:(List aF)
def bJ (x:jW):List PV:=[(vS x.Name),(vS x.bA),(vI x.fT),(vI x.fE),(.sl (List.map aB x.bU)),(.sl (List.map aB x.pG)),(.sl (List.map aB x.Forms))]
abbrev Dq (l:List jW):PV:=.sl (List.map bJ l)
structure bM where
 Name:ByteArray
 bA:ByteArray
 fT:Int
 fE:Int
 aW:Int
 aQ:Int
 aN:(List aF)
 Used:(List aF)
def aS (x:bM):List PV:=[(vS x.Name),(vS x.bA),(vI x.fT),(vI x.fE),(vI x.aW),(vI x.aQ),(.sl (List.map aB x.aN)),(.sl (List.map aB x.Used))]
abbrev Gv (l:List bM):PV:=.sl (List.map aS l)
structure nC where
 Gap:Int
 Sr:Int
 Sn:Bool
def dV (x:nC):List PV:=[(vI x.Gap),(vI x.Sr),(vB x.Sn)]
structure dP where
 jW:Int
 bM:Int
 X:Int
 Y:Int
 Su:Int
def eQ (x:dP):List PV:=[(vI x.jW),(vI x.bM),(vI x.X),(vI x.Y),(vI x.Su)]
abbrev Iu (l:List dP):PV:=.sl (List.map eQ l)
abbrev uJ (e:Nat) (l:List dP):HO:=.row e [] (List.map eQ l)
structure aX where
 aF:aF
 gap:Int
 common:Bool
def bD (x:aX):List PV:=[(vI x.aF.X),(vI x.aF.Y),(vI x.aF.W),(vI x.aF.H),(vI x.gap),(vB x.common)]
abbrev dK (l:List aX):PV:=.sl (List.map bD l)
abbrev bP (e:Nat) (l:List aX):HO:=.row e [] (List.map bD l)
structure tH where
 X1:Int
 Y1:Int
 X2:Int
 Y2:Int
def yM (x:tH):List PV:=[(vI x.X1),(vI x.Y1),(vI x.X2),(vI x.Y2)]
structure jV where
 Sq:Int
 Ss:Int
 Line:tH
 Yg:Int
 Sp:Int
def eA (x:jV):List PV:=[(vI x.Sq),(vI x.Ss),(vI x.Line.X1),(vI x.Line.Y1),(vI x.Line.X2),(vI x.Line.Y2),(vI x.Yg),(vI x.Sp)]
abbrev oO (l:List jV):PV:=.sl (List.map eA l)
abbrev qZ (e:Nat) (l:List jV):HO:=.row e [] (List.map eA l)
structure Flat where
 bU:(List aF)
 pG:(List aF)
 Forms:(List aF)
 mD:(List jV)
def sO (x:Flat):List PV:=[(.sl (List.map aB x.bU)),(.sl (List.map aB x.pG)),(.sl (List.map aB x.Forms)),(.sl (List.map eA x.mD))]
structure jO where
 uR:(List aF)
 cO:(List aX)
 gE:aF
 w:Int
 h:Int
def dQ (x:jO):List PV:=[(.sl (List.map aB x.uR)),(.sl (List.map bD x.cO)),(vI x.gE.X),(vI x.gE.Y),(vI x.gE.W),(vI x.gE.H),(vI x.w),(vI x.h)]
structure bY where
 lo:Int
 hi:Int
def bQ (x:bY):List PV:=[(vI x.lo),(vI x.hi)]
abbrev iK (l:List bY):PV:=.sl (List.map bQ l)
abbrev lN (e:Nat) (l:List bY):HO:=.row e [] (List.map bQ l)
structure rB where
 x:(List Int)
 y:(List Int)
def Fh (x:aF):Prop:=R64 x.X∧R64 x.Y∧R64 x.W∧R64 x.H
def Qf (x:bM):Prop:=RT x.Name∧RT x.bA∧R64 x.fT∧R64 x.fE∧R64 x.aW∧R64 x.aQ∧(RLN 1048576 Fh) x.aN∧(RLN 1048576 Fh) x.Used
def nL (n:Int) (lo:Int) (hi:Int):Option (Bool):=
 (if (decide (lo≤n)) then (some (decide (n≤hi))) else (some false)).bind fun j1=>some j1
def Gm (x0:jW) (s1:bM) (turn:Int):Option (Bool):=
 (if (x0.bA.toList==s1.bA.toList) then (if (x0.fT != s1.fT) then (some true) else ((nL turn 0 3).bind fun r6=>some (!r6))) else (some true)).bind fun j5=>if j5 then (some false) else ((if (x0.fE==0) then (some true) else (if (s1.fE==0) then (some true) else (some ((x0.fE==s1.fE)==((Int.tmod turn 2)==0))))).bind fun j7=>some j7)
def strings_Contains (s sub:ByteArray):Option Bool:=if s.size<4294967281 then some (Go.Lib.contains s.data.toList sub.data.toList) else none
def xJ (n:Int) (most:Int):Option (Bool):=
 (if (decide ((Jk most)≤n)) then (some (decide (n≤most))) else (some false)).bind fun j1=>some j1
def mJ (x0:Int) (w:Int):Option (Bool):=
 ((xJ x0 1048576).bind fun r3=>if r3 then (if (decide (w>0)) then (if (decide (w≤2097152)) then (some (decide ((aE x0 w)≤1048576))) else (some false)) else (some false)) else (some false)).bind fun j2=>some j2
def cE (r0:aF):Option (Bool):=
 ((mJ r0.X r0.W).bind fun r4=>if r4 then ((mJ r0.Y r0.H).bind fun r5=>some r5) else (some false)).bind fun j3=>some j3
def Dx (a:aF) (b:aF):Option (Int):=
 ((cE a).bind fun r9=>if r9 then ((cE b).bind fun a0=>some (!a0)) else (some true)).bind fun j8=>if j8 then (some 0) else (some (imax (imax (imax (imax 0 (aH (aH b.X a.X) a.W)) (aH (aH a.X b.X) b.W)) (aH (aH b.Y a.Y) a.H)) (aH (aH a.Y b.Y) b.H)))
def oU (a:aF) (b:aF):Option (Bool):=
 ((cE a).bind fun r4=>if r4 then ((cE b).bind fun r5=>if r5 then (if (decide (a.X<(aE b.X b.W))) then (if (decide (b.X<(aE a.X a.W))) then (if (decide (a.Y<(aE b.Y b.H))) then (some (decide (b.Y<(aE a.Y a.H)))) else (some false)) else (some false)) else (some false)) else (some false)) else (some false)).bind fun j3=>some j3
def eD (n:Int):Option (Bool):=
 (if (decide (n ≥ (-1048576))) then (some (decide (n≤1048576))) else (some false)).bind fun j1=>some j1
def cV (r0:aF):Option (Bool):=
 ((eD r0.X).bind fun r9=>if r9 then ((eD r0.Y).bind fun a1=>if a1 then (if (decide (r0.W<1)) then (some true) else (if (decide (r0.H<1)) then (some true) else (if (decide (r0.W>2097152)) then (some true) else (some (decide (r0.H>2097152)))))) else (some true)) else (some true)).bind fun j8=>if j8 then (some false) else (((eD (aE r0.X r0.W)).bind fun a2=>if a2 then ((eD (aE r0.Y r0.H)).bind fun a3=>some a3) else (some false)).bind fun a0=>some a0)
def iB (a:aF) (b:aF):Option (Bool):=
 ((cV a).bind fun r4=>if r4 then ((cV b).bind fun r5=>if r5 then (if (decide (a.X<(aE b.X b.W))) then (if (decide (b.X<(aE a.X a.W))) then (if (decide (a.Y<(aE b.Y b.H))) then (some (decide (b.Y<(aE a.Y a.H)))) else (some false)) else (some false)) else (some false)) else (some false)) else (some false)).bind fun j3=>some j3
def nA (s sub:ByteArray):Option Bool:=if s.size<4294967281 then some (Go.Lib.contains s.data.toList sub.data.toList) else none
def lB (s0:ByteArray):Int→Option (Int ⊕ (Unit ⊕ Unit)):=fun a1 =>
 if (decide (a1<(s0.size:Int))) then ((Cw s0 a1).bind fun a0=>(if (decide (a0<97)) then (if (decide (a0<48)) then (some true) else (some (decide (a0>57)))) else (if (decide (a0>122)) then (if (decide (a0<48)) then (some true) else (some (decide (a0>57)))) else (some false))).bind fun a2=>if a2 then (some (.inr (.inl ()))) else (some (.inl (aE a1 1)))) else (some (.inr (.inr (()))))
def jZ (s0:ByteArray):Option (Bool):=
 (if (decide ((s0.size:Int)<1)) then (some true) else (if (decide ((s0.size:Int)>8)) then (some true) else ((Cw s0 0).bind fun x9=>if (decide (x9<97)) then (some true) else ((Cw s0 0).bind fun a3=>some (decide (a3>122)))))).bind fun j8=>if j8 then (some false) else ((aJ (lB s0) 0).bind fun a4=>match a4 with | .inl a5=>some false | .inr a6=>(Jv (ByteArray.mk #[32]) s0).bind fun a1=>(Jv a1 (ByteArray.mk #[32])).bind fun a2=>(nA (ByteArray.mk #[32,112,97,114,116,32,109,97,116,101,114,105,97,108,32,98,97,115,101,32,102,108,97,110,103,101,32,104,111,108,101,32,99,117,116,32,102,111,114,109,32,101,97,115,116,32,115,111,117,116,104,32,119,101,115,116,32,110,111,114,116,104,32,117,112,32,100,111,119,110,32,99,108,111,115,101,117,112,32,99,108,111,115,101,100,111,119,110,32,103,114,97,105,110,32,120,32,121,32,116,97,98,108,101,32,97,110,103,108,101,32,109,97,99,104,105,110,101,32,112,117,110,99,104,32,100,105,101,32,102,114,97,109,101,32,103,97,117,103,101,32,112,111,108,121,32,115,116,97,116,105,111,110,115,32]) a2).bind fun a0=>some (!a0))
def vZ (gauge:Int) (grain:Int):Option (Bool):=
 ((nL gauge 1 60).bind fun r4=>if r4 then ((nL grain 0 2).bind fun r5=>some r5) else (some false)).bind fun j3=>some j3
def pX (l:(List aF)):Int→Option (Int ⊕ (Unit ⊕ Unit)):=fun a0 =>
 if (decide (a0<(l.length:Int))) then ((idx l a0).bind fun a2=>(cE a2).bind fun a1=>if (!a1) then (some (.inr (.inl ()))) else (some (.inl (aE a0 1)))) else (some (.inr (.inr (()))))
def gS (l:(List aF)):Option (Bool):=
 (aJ (pX l) 0).bind fun a0=>match a0 with | .inl a1=>some false | .inr a2=>some true
def lT (s0:bM) (margin:Int):Option (aF×Bool):=
 (cE (aF.mk margin margin (aH s0.aW (eG 2 margin)) (aH s0.aQ (eG 2 margin)))).bind fun r3=>some ((aF.mk margin margin (aH s0.aW (eG 2 margin)) (aH s0.aQ (eG 2 margin))),r3)
def uB (a:aF) (b:aF):Option (Bool):=
 ((cE a).bind fun r4=>if r4 then ((cE b).bind fun r5=>if r5 then (if (decide (b.X≤a.X)) then (if (decide ((aE a.X a.W)≤(aE b.X b.W))) then (if (decide (b.Y≤a.Y)) then (some (decide ((aE a.Y a.H)≤(aE b.Y b.H)))) else (some false)) else (some false)) else (some false)) else (some false)) else (some false)).bind fun j3=>some j3
def gO (a4:aF×Bool) (a1:(List aF)):Int→Option (Int ⊕ (Unit ⊕ Unit)):=fun a0 =>
 if (decide (a0<(a1.length:Int))) then ((idx a1 a0).bind fun a3=>(uB a3 a4.1).bind fun a2=>if (!a2) then (some (.inr (.inl ()))) else (some (.inl (aE a0 1)))) else (some (.inr (.inr (()))))
def gP (s0:bM) (a5:aF×Bool):Int→Option (Int ⊕ (Unit ⊕ Unit)):=fun a0 =>
 if (decide (a0<([s0.aN,s0.Used].length:Int))) then ((idx [s0.aN,s0.Used] a0).bind fun a1=>(aJ (gO a5 a1) 0).bind fun a2=>match a2 with | .inl a3=>some (.inr (.inl ())) | .inr a4=>some (.inl (aE a0 1))) else (some (.inr (.inr (()))))
def bX (s0:bM):Option (Int):=
 ((jZ s0.Name).bind fun a7=>if a7 then ((jZ s0.bA).bind fun a8=>some (!a8)) else (some true)).bind fun a1=>if a1 then (some 2) else (((vZ s0.fT s0.fE).bind fun a9=>if a9 then ((nL s0.aW 1 1048576).bind fun b0=>if b0 then ((nL s0.aQ 1 1048576).bind fun b1=>some (!b1)) else (some true)) else (some true)).bind fun a2=>if a2 then (some 1) else ((if (decide ((s0.aN.length:Int)>4)) then (some true) else (some (decide ((s0.Used.length:Int)>48)))).bind fun a3=>if a3 then (some 4) else (((gS s0.aN).bind fun b2=>if b2 then ((gS s0.Used).bind fun b3=>some (!b3)) else (some true)).bind fun a4=>if a4 then (some 1) else ((lT s0 0).bind fun b4=>(aJ (gP s0 b4) 0).bind fun a0=>match a0 with | .inl a5=>some 13 | .inr a6=>some 0))))
def mZ (n:Int) (lo:Int) (hi:Int):Option (Bool):=
 (if (decide (n ≥ lo)) then (some (decide (n≤hi))) else (some false)).bind fun j1=>some j1
def lW:Option (ByteArray):=
 some (ByteArray.mk #[32,112,97,114,116,32,109,97,116,101,114,105,97,108,32,98,97,115,101,32,102,108,97,110,103,101,32,104,111,108,101,32,99,117,116,32,102,111,114,109,32,101,97,115,116,32,115,111,117,116,104,32,119,101,115,116,32,110,111,114,116,104,32,117,112,32,100,111,119,110,32,99,108,111,115,101,117,112,32,99,108,111,115,101,100,111,119,110,32,103,114,97,105,110,32,120,32,121,32,116,97,98,108,101,32,97,110,103,108,101,32,109,97,99,104,105,110,101,32,112,117,110,99,104,32,100,105,101,32,102,114,97,109,101,32,103,97,117,103,101,32,112,111,108,121,32,115,116,97,116,105,111,110,115,32])
def eJ (text:ByteArray) (s1:ByteArray):Int→Option (Int ⊕ (Unit ⊕ Unit)):=fun a0 =>
 if (decide ((aE (aE a0 (s1.size:Int)) 2)≤(text.size:Int))) then ((BZ text a0 (aE (aE a0 (s1.size:Int)) 2)).bind fun a1=>(Jv (ByteArray.mk #[32]) s1).bind fun a2=>(Jv a2 (ByteArray.mk #[32])).bind fun a3=>if (a1.toList==a3.toList) then (some (.inr (.inl ()))) else (some (.inl (aE a0 1)))) else (some (.inr (.inr (()))))
def jF (text:ByteArray) (s1:ByteArray):Option (Bool):=
 (aJ (eJ text s1) 0).bind fun a0=>match a0 with | .inl a1=>some true | .inr a2=>some false
def dL (s0:ByteArray):Int→Option (Int ⊕ (Unit ⊕ Unit)):=fun a0 =>
 if (decide (a0<(s0.size:Int))) then (((Cw s0 a0).bind fun a3=>if (decide (a3 ≥ 97)) then ((Cw s0 a0).bind fun a4=>some (decide (a4≤122))) else (some false)).bind fun a1=>(if a1 then (some false) else ((Cw s0 a0).bind fun a5=>if (decide (a5<48)) then (some true) else ((Cw s0 a0).bind fun a6=>some (decide (a6>57))))).bind fun a2=>if a2 then (some (.inr (.inl ()))) else (some (.inl (aE a0 1)))) else (some (.inr (.inr (()))))
def cC (s0:ByteArray):Option (Bool):=
 ((mZ (s0.size:Int) 1 8).bind fun a6=>if a6 then ((Cw s0 0).bind fun a7=>if (decide (a7<97)) then (some true) else ((Cw s0 0).bind fun a8=>some (decide (a8>122)))) else (some true)).bind fun a3=>if a3 then (some false) else ((aJ (dL s0) 0).bind fun a2=>match a2 with | .inl a4=>some false | .inr a5=>(lW).bind fun a0=>(jF a0 s0).bind fun a1=>some (!a1))
def kH (name:ByteArray) (material:ByteArray) (gauge:Int) (grain:Int):Option (Int):=
 ((cC name).bind fun r9=>if r9 then ((cC material).bind fun a1=>some (!a1)) else (some true)).bind fun j8=>if j8 then (some 2) else ((if (decide (gauge<1)) then (some true) else (if (decide (gauge>60)) then (some true) else (if (decide (grain<0)) then (some true) else (some (decide (grain>2)))))).bind fun a0=>if a0 then (some 1) else (some 0))
def eK (l:(List aF)):Int→Option (Int ⊕ (Unit ⊕ Unit)):=fun a0 =>
 if (decide (a0<(l.length:Int))) then ((idx l a0).bind fun a2=>(cV a2).bind fun a1=>if (!a1) then (some (.inr (.inl ()))) else (some (.inl (aE a0 1)))) else (some (.inr (.inr (()))))
def eH (l:(List aF)):Option (Bool):=
 (aJ (eK l) 0).bind fun a0=>match a0 with | .inl a1=>some false | .inr a2=>some true
def jH (a:aF) (b:aF):Option (Bool):=
 ((cV a).bind fun r4=>if r4 then ((cV b).bind fun r5=>if r5 then (if (decide (a.X ≥ b.X)) then (if (decide (a.Y ≥ b.Y)) then (if (decide ((aE a.X a.W)≤(aE b.X b.W))) then (some (decide ((aE a.Y a.H)≤(aE b.Y b.H)))) else (some false)) else (some false)) else (some false)) else (some false)) else (some false)).bind fun j3=>some j3
def eM (s0:bM) (l:(List aF)):Int→Option (Int ⊕ (Unit ⊕ Unit)):=fun a0 =>
 if (decide (a0<(l.length:Int))) then ((idx l a0).bind fun a2=>(jH a2 (aF.mk 0 0 s0.aW s0.aQ)).bind fun a1=>if (!a1) then (some (.inr (.inl ()))) else (some (.inl (aE a0 1)))) else (some (.inr (.inr (()))))
def eI (s0:bM) (l:(List aF)):Option (Bool):=
 (aJ (eM s0 l) 0).bind fun a0=>match a0 with | .inl a1=>some false | .inr a2=>some true
def dA (s0:bM):Option (Int):=
 (kH s0.Name s0.bA s0.fT s0.fE).bind fun r2=>if (r2 != 0) then (some r2) else ((if (decide (s0.aW<1)) then (some true) else (if (decide (s0.aW>1048576)) then (some true) else (if (decide (s0.aQ<1)) then (some true) else (some (decide (s0.aQ>1048576)))))).bind fun j4=>if j4 then (some 1) else ((if (decide ((s0.aN.length:Int)>4)) then (some true) else (some (decide ((s0.Used.length:Int)>48)))).bind fun j6=>if j6 then (some 4) else (((eH s0.aN).bind fun a2=>if a2 then ((eH s0.Used).bind fun a3=>some (!a3)) else (some true)).bind fun a0=>if a0 then (some 1) else (((eI s0 s0.aN).bind fun a4=>if a4 then ((eI s0 s0.Used).bind fun a5=>some (!a5)) else (some true)).bind fun a1=>if a1 then (some 13) else (some 0)))))
def sZ (a:aF) (b:aF):Option (Bool):=
 (if ((aH (dJ (aE a.X a.W) (aE b.X b.W)) (imax a.X b.X))==0) then (if (decide ((aH (dJ (aE a.Y a.H) (aE b.Y b.H)) (imax a.Y b.Y))>0)) then (some true) else (if ((aH (dJ (aE a.Y a.H) (aE b.Y b.H)) (imax a.Y b.Y))==0) then (some (decide ((aH (dJ (aE a.X a.W) (aE b.X b.W)) (imax a.X b.X))>0))) else (some false))) else (if ((aH (dJ (aE a.Y a.H) (aE b.Y b.H)) (imax a.Y b.Y))==0) then (some (decide ((aH (dJ (aE a.X a.W) (aE b.X b.W)) (imax a.X b.X))>0))) else (some false))).bind fun j1=>some j1
def rU (a1:Int×(List Bool)×(List Int)):((List Bool)×(List Int))→Option ((Int×(List Bool)×(List Int)) ⊕ ((List Bool)×(List Int))):=fun a0 =>
 some (.inl ((aE a1.1 1),a0.1,a0.2))
def nU (l:(List aF)) (a4:Int):(Int×(List Bool)×(List Int))→Option ((Int×(List Bool)×(List Int)) ⊕ ((List Bool)×(List Int))):=fun a0 =>
 if (decide (a0.1<(l.length:Int))) then (((idx a0.2.1 a0.1).bind fun a5=>if a5 then (some false) else ((idx l a4).bind fun a6=>(idx l a0.1).bind fun a7=>(sZ a6 a7).bind fun a3=>some a3)).bind fun a1=>if a1 then ((idx a0.2.1 a0.1).bind fun a8=>(app a0.2.2 [a0.1]).bind fun a2=>rU a0 ((List.set a0.2.1 (Int.toNat a0.1) true),a2)) else (rU a0 (a0.2.1,a0.2.2))) else (some (.inr (a0.2.1,a0.2.2)))
def nV (l:(List aF)):((List Bool)×(List Int))→Option (((List Bool)×(List Int)) ⊕ (List Bool)):=fun a0 =>
 if (decide ((a0.2.length:Int)>0)) then ((idx a0.2 0).bind fun a2=>if (decide (1≤a0.2.length)) then ((aJ (nU l a2) (0,a0.1,(List.drop 1 a0.2))).bind fun a1=>some (.inl (a1.1,a1.2))) else none) else (some (.inr a0.1))
def Gq (a1:(List Bool)):Int→Option (Int ⊕ (Unit ⊕ Unit)):=fun a0 =>
 if (decide (a0<(a1.length:Int))) then ((idx a1 a0).bind fun a2=>if (!a2) then (some (.inr (.inl ()))) else (some (.inl (aE a0 1)))) else (some (.inr (.inr (()))))
def mO (l:(List aF)):Option (Bool):=
 (mk (l.length:Int) false).bind fun l2=>(idx l2 0).bind fun x4=>(aJ (nV l) ((List.set l2 (Int.toNat 0) true),[0])).bind fun a0=>(aJ (Gq a0) 0).bind fun a1=>match a1 with | .inl a2=>some false | .inr a3=>some true
def Ht (h0:aF) (l:(List aF)):Int→Option (Int ⊕ (Unit ⊕ Unit)):=fun a1 =>
 if (decide (a1<(l.length:Int))) then ((idx l a1).bind fun a0=>(if (decide (h0.X>a0.X)) then (if (decide (h0.Y>a0.Y)) then (if (decide ((aE h0.X h0.W)<(aE a0.X a0.W))) then (some (decide ((aE h0.Y h0.H)<(aE a0.Y a0.H)))) else (some false)) else (some false)) else (some false)).bind fun a2=>if a2 then (some (.inr (.inl ()))) else (some (.inl (aE a1 1)))) else (some (.inr (.inr (()))))
def yC (h0:aF) (l:(List aF)):Option (Bool):=
 (aJ (Ht h0 l) 0).bind fun a0=>match a0 with | .inl a1=>some true | .inr a2=>some false
def Lx (x0:jW) (l6:(List aF)):Int→Option (Int ⊕ (Unit ⊕ Unit)):=fun a0 =>
 if (decide (a0<(l6.length:Int))) then ((idx l6 a0).bind fun a1=>(if (decide (a0<(x0.pG.length:Int))) then (if (a1.W==1) then (some true) else (if (a1.H==1) then (some true) else ((yC a1 x0.bU).bind fun a3=>some (!a3)))) else ((yC a1 x0.bU).bind fun a4=>some (!a4))).bind fun a2=>if a2 then (some (.inr (.inl ()))) else (some (.inl (aE a0 1)))) else (some (.inr (.inr (()))))
def Ly (a3:aF) (a1:(List aF)):Int→Option (Int ⊕ (Unit ⊕ Unit)):=fun a0 =>
 if (decide (a0<(a1.length:Int))) then ((idx a1 a0).bind fun a4=>(Dx a3 a4).bind fun a2=>if (a2==0) then (some (.inr (.inl ()))) else (some (.inl (aE a0 1)))) else (some (.inr (.inr (()))))
def Lz (l6:(List aF)):Int→Option (Int ⊕ (Unit ⊕ Unit)):=fun a0 =>
 if (decide (a0<(l6.length:Int))) then ((idx l6 a0).bind fun a2=>(slc l6 0 a0).bind fun a1=>(aJ (Ly a2 a1) 0).bind fun a3=>match a3 with | .inl a4=>some (.inr (.inl ())) | .inr a5=>some (.inl (aE a0 1))) else (some (.inr (.inr (()))))
def Ip (x0:jW):Option (Int):=
 (app [] x0.pG).bind fun l5=>(app l5 x0.Forms).bind fun l6=>(aJ (Lx x0 l6) 0).bind fun a4=>match a4 with | .inl a5=>some 13 | .inr a1=>(aJ (Lz l6) 0).bind fun a0=>match a0 with | .inl a2=>some 7 | .inr a3=>some 0
def Bp (x0:jW):(Int×Int×Int)→Option ((Int×Int×Int) ⊕ (Int×Int)):=fun a0 =>
 if (decide (a0.2.2<(x0.bU.length:Int))) then ((idx x0.bU a0.2.2).bind fun a1=>some (.inl ((dJ a0.1 a1.X),(dJ a0.2.1 a1.Y),(aE a0.2.2 1)))) else (some (.inr (a0.1,a0.2.1)))
def Bq (a3:aF) (a1:(List aF)):Int→Option (Int ⊕ (Unit ⊕ Unit)):=fun a0 =>
 if (decide (a0<(a1.length:Int))) then ((idx a1 a0).bind fun a4=>(oU a3 a4).bind fun a2=>if a2 then (some (.inr (.inl ()))) else (some (.inl (aE a0 1)))) else (some (.inr (.inr (()))))
def Bs (x0:jW):Int→Option (Int ⊕ (Unit ⊕ Unit)):=fun a0 =>
 if (decide (a0<(x0.bU.length:Int))) then ((idx x0.bU a0).bind fun a2=>(slc x0.bU 0 a0).bind fun a1=>(aJ (Bq a2 a1) 0).bind fun a3=>match a3 with | .inl a4=>some (.inr (.inl ())) | .inr a5=>some (.inl (aE a0 1))) else (some (.inr (.inr (()))))
def qU (x0:jW):Option (Int):=
 ((jZ x0.Name).bind fun b0=>if b0 then ((jZ x0.bA).bind fun b1=>some (!b1)) else (some true)).bind fun a4=>if a4 then (some 2) else ((vZ x0.fT x0.fE).bind fun b2=>if (!b2) then (some 1) else ((if (decide ((x0.bU.length:Int)>12)) then (some true) else (if (decide ((x0.pG.length:Int)>12)) then (some true) else (some (decide ((x0.Forms.length:Int)>12))))).bind fun a5=>if a5 then (some 4) else ((if ((x0.bU.length:Int)==0) then (some true) else ((gS x0.bU).bind fun b3=>if b3 then ((gS x0.pG).bind fun b4=>if b4 then ((gS x0.Forms).bind fun b5=>some (!b5)) else (some true)) else (some true))).bind fun a6=>if a6 then (some 1) else ((idx x0.bU 0).bind fun b6=>(idx x0.bU 0).bind fun b7=>(aJ (Bp x0) (b6.X,b7.Y,0)).bind fun a3=>(if (a3.1 != 0) then (some true) else (some (a3.2 != 0))).bind fun a9=>if a9 then (some 1) else ((aJ (Bs x0) 0).bind fun a2=>match a2 with | .inl a7=>some 7 | .inr a8=>(mO x0.bU).bind fun a0=>if (!a0) then (some 6) else ((Ip x0).bind fun a1=>some a1))))))
def eY (r0:aF) (l:(List aF)):Int→Option (Int ⊕ (Unit ⊕ Unit)):=fun a0 =>
 if (decide (a0<(l.length:Int))) then ((idx l a0).bind fun a2=>(iB r0 a2).bind fun a1=>if a1 then (some (.inr (.inl ()))) else (some (.inl (aE a0 1)))) else (some (.inr (.inr (()))))
def eV (r0:aF) (l:(List aF)):Option (Bool):=
 (aJ (eY r0 l) 0).bind fun a0=>match a0 with | .inl a1=>some true | .inr a2=>some false
def qT (set0:nC):Option (Bool):=
 ((nL set0.Gap 0 14400).bind fun r4=>if r4 then ((nL set0.Sr 0 14400).bind fun r5=>some r5) else (some false)).bind fun j3=>some j3
def wb (m n:Int):Bool:=decide (-m≤n)&&decide (n≤m)
theorem yH {m n:Int}:wb m n=true↔-m≤n∧n≤m:=by unfold wb;simp only [Bool.and_eq_true,decide_eq_true_eq]
theorem Yf (n m:Int) (h : -1000000000≤m∧m≤1000000000):xJ n m=some (wb m n):=by
 unfold xJ wb
 rw [DM (by omega) (by omega)]
 by_cases h1 : -m≤n <;> simp [h1]
def vR (r:aF):Prop:=(-1048576≤r.X∧r.X≤1048576)∧(-1048576≤r.Y∧r.Y≤1048576)∧0<r.W∧0<r.H∧r.X+r.W≤1048576∧r.Y+r.H≤1048576
instance (r:aF):Decidable (vR r):=by unfold vR;infer_instance
theorem EC (x w:Int):mJ x w=some (decide ((-1048576≤x∧x≤1048576)∧0<w∧x+w≤1048576)):=by
 unfold mJ
 simp only [Yf _ 1048576 (by omega),Option.bind_some]
 by_cases h1:wb 1048576 x=true
 ·have h1':=yH.1 h1
  by_cases h2:0<w
  ·by_cases h3:w≤2097152
   ·rw [aO (by omega) (by omega)]
    simp [h1,h2,h3,h1']
   ·have:¬ x+w≤1048576:=by omega
    simp [h1,h2,h3,this]
  ·simp [h1,h2]
 ·have h1':¬ (-1048576≤x∧x≤1048576):=fun q=>h1 (yH.2 q)
  simp [h1];intro a b;exact absurd ⟨a,b⟩ h1'
theorem mX (r:aF):cE r=some (decide (vR r)):=by
 unfold cE
 simp only [EC,Option.bind_some]
 by_cases h1:(-1048576≤r.X∧r.X≤1048576)∧0<r.W∧r.X+r.W≤1048576
 ·by_cases h2:(-1048576≤r.Y∧r.Y≤1048576)∧0<r.H∧r.Y+r.H≤1048576
  ·have:vR r:=by unfold vR;omega
   simp [h1,h2,this]
  ·have:¬ vR r:=by unfold vR;omega
   simp only [h1,h2,this,decide_true,decide_false,and_self];rfl
 ·have:¬ vR r:=by unfold vR;omega
  simp only [h1,this,decide_false];rfl
def xZ (a b:aF):Prop:=vR a∧vR b∧b.X≤a.X∧a.X+a.W≤b.X+b.W∧b.Y≤a.Y∧a.Y+a.H≤b.Y+b.H
instance (a b:aF):Decidable (xZ a b):=by unfold xZ;infer_instance
theorem Np (a b:aF):uB a b=some (decide (xZ a b)):=by
 unfold uB xZ
 simp only [mX,Option.bind_some]
 by_cases h1:vR a
 ·by_cases h2:vR b
  ·have h1':=h1;have h2':=h2
   unfold vR at h1' h2'
   rw [aO (by omega) (by omega),aO (by omega) (by omega),aO (by omega) (by omega),aO (by omega) (by omega)]
   by_cases h3:b.X≤a.X <;> by_cases h4:a.X+a.W≤b.X+b.W <;> by_cases h5:b.Y≤a.Y <;> simp [h1,h2,h3,h4,h5]
  ·simp [h1,h2]
 ·simp [h1]
theorem DQ (n:Int):eD n=some (wb 1048576 n):=by
 unfold eD wb
 by_cases h1 : -1048576≤n <;> simp [h1]
theorem Kp (r:aF):cV r=some (decide (vR r)):=by
 unfold cV
 simp only [DQ,Option.bind_some]
 by_cases h1:wb 1048576 r.X=true
 ·by_cases h2 : wb 1048576 r.Y=true
  ·have h1':=yH.1 h1
   have h2':=yH.1 h2
   by_cases h3:r.W<1
   ·have:¬ vR r:=by unfold vR;omega
    simp [h1,h2,h3,this]
   ·by_cases h4:r.H<1
    ·have:¬ vR r:=by unfold vR;omega
     simp [h1,h2,h3,h4,this]
    ·by_cases h5:r.W>2097152
     ·have:¬ vR r:=by unfold vR;omega
      simp [h1,h2,h3,h4,h5,this]
     ·by_cases h6:r.H>2097152
      ·have:¬ vR r:=by unfold vR;omega
       simp [h1,h2,h3,h4,h5,h6,this]
      ·rw [aO (by omega) (by omega),aO (by omega) (by omega)]
       simp only [h1,h2,h3,h4,h5,h6,if_true,decide_false,Bool.false_eq_true,if_false,Option.bind_some]
       by_cases h7:wb 1048576 (r.X+r.W)=true
       ·have h7':=yH.1 h7
        by_cases h8:wb 1048576 (r.Y+r.H)=true
        ·have h8':=yH.1 h8
         have:vR r:=by unfold vR;omega
         simp [h7,h8,this]
        ·have h8':¬ (-1048576≤r.Y+r.H∧r.Y+r.H≤1048576):=fun q=>h8 (yH.2 q)
         have:¬ vR r:=by unfold vR;omega
         simp [h7,h8,this]
       ·have h7':¬ (-1048576≤r.X+r.W∧r.X+r.W≤1048576):=fun q=>h7 (yH.2 q)
        have:¬ vR r:=by unfold vR;omega
        simp [h7,this]
  ·have h2':¬ (-1048576≤r.Y∧r.Y≤1048576):=fun q=>h2 (yH.2 q)
   have:¬ vR r:=fun q=>h2' q.2.1
   simp [h1,h2,this]
 ·have h1':¬ (-1048576≤r.X∧r.X≤1048576):=fun q=>h1 (yH.2 q)
  have:¬ vR r:=fun q=>h1' q.1
  simp [h1,this]
theorem Wb (a b:aF):jH a b=some (decide (xZ a b)):=by
 unfold jH xZ
 simp only [Kp,Option.bind_some]
 by_cases h1:vR a
 ·by_cases h2:vR b
  ·have h1':=h1;have h2':=h2
   unfold vR at h1' h2'
   rw [aO (by omega) (by omega),aO (by omega) (by omega),aO (by omega) (by omega),aO (by omega) (by omega)]
   by_cases h3:b.X≤a.X <;> by_cases h4:a.X+a.W≤b.X+b.W <;> by_cases h5:b.Y≤a.Y <;> simp [h1,h2,h3,h4,h5]
  ·simp [h1,h2]
 ·simp [h1]
theorem zI {S R:Type} (n:Nat) (body:S→Option (S ⊕ R)) (st:Nat→S) (q:Nat→Bool) (no yes:R) {s0:S} (h0:st 0=s0) (step:∀ k:Nat,k<n→body (st k)=if q k then some (.inr yes) else some (.inl (st (k+1)))) (fin:body (st n)=some (.inr no)) :
  aJ body s0=some (if (List.range n).any q then yes else no):=by
 have key:∀ (m k:Nat),k+m=n→(∀ j,j<k→q j=false)→aJ body (st k)=some (if (List.range n).any q then yes else no):=by
  intro m
  induction m with
  | zero =>
    intro k h hb
    obtain rfl:k=n:=by omega
    have:(List.range k).any q=false:=by
     rw [List.any_eq_false];intro j hj;rw [hb j (List.mem_range.1 hj)];simp
    rw [pU fin,this];rfl
  | succ m ih =>
    intro k h hb
    have hs:=step k (by omega)
    by_cases hq:q k=true
    ·rw [if_pos hq] at hs
     have:(List.range n).any q=true:=List.any_eq_true.2 ⟨k,List.mem_range.2 (by omega),hq⟩
     rw [pU hs,this];rfl
    ·rw [if_neg hq] at hs
     rw [tT hs]
     refine ih (k+1) (by omega) fun j hj=>?_
     by_cases hjk:j=k
     ·subst hjk;simpa using hq
     ·exact hb j (by omega)
 rw [← h0]
 exact key n 0 (by omega) (fun j hj=>absurd hj (by omega))
theorem Wf {α:Type} (l:List α) (q:α→Bool) (p:Nat→Bool) (h:∀ k x,l[k]?=some x→p k=q x):(List.range l.length).any p=l.any q:=by
 rw [Bool.eq_iff_iff,List.any_eq_true,List.any_eq_true]
 constructor
 ·rintro ⟨k,hk,hp⟩
  have hk':=List.mem_range.1 hk
  have hx:l[k]?=some l[k]:=by simp
  exact ⟨l[k],List.getElem_mem hk',by rw [← h k _ hx];exact hp⟩
 ·rintro ⟨x,hx,hq⟩
  obtain ⟨k,hk⟩:=List.mem_iff_getElem?.1 hx
  exact ⟨k,List.mem_range.2 (List.getElem?_eq_some_iff.1 hk).1,by rw [h k _ hk];exact hq⟩
theorem oX {α S R:Type} (l:List α) (body:S→Option (S ⊕ R)) (st:Nat→S) (q:α→Bool) (no yes:R) {s0:S} (h0:st 0=s0) (step:∀ (k:Nat) (x:α),l[k]?=some x→body (st k)=if q x then some (.inr yes) else some (.inl (st (k+1)))) (fin:body (st l.length)=some (.inr no)) :
  aJ body s0=some (if l.any q then yes else no):=by
 rw [zI l.length body st (fun k=>match l[k]? with | some x=>q x | none=>false) no yes h0 (fun k hk=>?_) fin]
 ·rw [Wf l q _ (fun k x h=>by rw [h])]
 ·have hx:l[k]?=some l[k]:=by simp
  rw [step k _ hx,hx]
def ovR (a b:aF):Prop:=vR a∧vR b∧a.X<b.X+b.W∧b.X<a.X+a.W∧a.Y<b.Y+b.H∧b.Y<a.Y+a.H
instance (a b:aF):Decidable (ovR a b):=by unfold ovR;infer_instance
theorem El (a b:aF):oU a b=some (decide (ovR a b)):=by
 unfold oU ovR
 simp only [mX,Option.bind_some]
 by_cases h1:vR a
 ·by_cases h2:vR b
  ·have h1':=h1;have h2':=h2
   unfold vR at h1' h2'
   rw [aO (by omega) (by omega),aO (by omega) (by omega),aO (by omega) (by omega),aO (by omega) (by omega)]
   by_cases h3:a.X<b.X+b.W <;> by_cases h4:b.X<a.X+a.W <;> by_cases h5:a.Y<b.Y+b.H <;> simp [h1,h2,h3,h4,h5]
  ·simp [h1,h2]
 ·simp [h1]
theorem Qe (a b:aF):iB a b=some (decide (ovR a b)):=by
 unfold iB ovR
 simp only [Kp,Option.bind_some]
 by_cases h1:vR a
 ·by_cases h2:vR b
  ·have h1':=h1;have h2':=h2
   unfold vR at h1' h2'
   rw [aO (by omega) (by omega),aO (by omega) (by omega),aO (by omega) (by omega),aO (by omega) (by omega)]
   by_cases h3:a.X<b.X+b.W <;> by_cases h4:b.X<a.X+a.W <;> by_cases h5:a.Y<b.Y+b.H <;> simp [h1,h2,h3,h4,h5]
  ·simp [h1,h2]
 ·simp [h1]
def Zd (a b:aF):Int:=if vR a∧vR b then max 0 (max (max (b.X-(a.X+a.W)) (a.X-(b.X+b.W))) (max (b.Y-(a.Y+a.H)) (a.Y-(b.Y+b.H)))) else 0
theorem Va (a b:Int):imax a b=max a b:=by unfold imax;split <;> omega
theorem DL (a b:Int):dJ a b=min a b:=by unfold dJ;split <;> omega
def blk (s:nC) (a b:aF):Bool:=decide (ovR a b) || (decide (Zd a b<s.Gap)&&!(s.Sn&&(Zd a b==0)))
end Go.SM
namespace Go.SM
open Go Go.VI Go.Cells
def MM:Int:=1048576
def inC (r:aF) (x y:Int):Bool:=(decide (r.X≤x)&&decide (x<r.X+r.W))&&(decide (r.Y≤y)&&decide (y<r.Y+r.H))
def cov (l:List aF) (x y:Int):Bool:=l.any fun r=>inC r x y
def sL (l:List aF):Prop:=∀ r ∈ l,vR r
theorem rO {r:aF} {x y:Int}:inC r x y=true↔r.X≤x∧x<r.X+r.W∧r.Y≤y∧y<r.Y+r.H:=by
 unfold inC;simp only [Bool.and_eq_true,decide_eq_true_eq];omega
theorem Kz (a b:List aF) (x y:Int):cov (a++b) x y=(cov a x y || cov b x y):=by unfold cov;rw [List.any_append]
theorem Uq {l:List aF} {x y:Int}:cov l x y=true↔∃ r ∈ l,inC r x y=true:=List.any_eq_true
theorem AA {r:aF} (h:vR r):gE MM (inC r)=r.W*r.H:=by
 unfold vR at h
 have e:inC r=inR r.X (r.X+r.W) r.Y (r.Y+r.H):=by
  funext x y
  unfold inC inR
  by_cases h1:r.X≤x <;> by_cases h2:x<r.X+r.W <;> by_cases h3:r.Y≤y <;> by_cases h4:y<r.Y+r.H <;> simp [h1,h2,h3,h4]
 rw [e,Wk (by unfold MM;omega) (by omega) (by unfold MM;omega) (by unfold MM;omega) (by omega) (by unfold MM;omega)]
 congr 1 <;> omega
theorem Rp {r s:aF} (hr:vR r) (hs:vR s):ovR r s↔∃ x y,inC r x y=true∧inC s x y=true:=by
 constructor
 ·rintro ⟨_,_,h1,h2,h3,h4⟩
  refine ⟨max r.X s.X,max r.Y s.Y, ?_, ?_⟩
  ·rw [rO];unfold vR at *;omega
  ·rw [rO];unfold vR at *;omega
 ·rintro ⟨x,y,h1,h2⟩
  rw [rO] at h1 h2
  exact ⟨hr,hs,by omega,by omega,by omega,by omega⟩
theorem tX (p:Int→Int→Bool):gE MM p≤4398046511104:=by
 unfold gE
 have h1:∀ x,S (-MM) MM (fun y=>one (p x y))≤2097152:=fun x=>by
  have:=FF (a:=-MM) (b:=MM) (f:=fun y=>one (p x y)) (g:=fun _=>1) fun y _ _=>by cases p x y <;> decide
  rw [Db (by unfold MM;omega) (c:=1) fun _ _ _=>rfl] at this
  unfold MM at this ⊢;omega
 have:=FF (a:=-MM) (b:=MM) (f:=fun x=>S (-MM) MM fun y=>one (p x y)) (g:=fun _=>2097152) fun x _ _=>h1 x
 rw [Db (by unfold MM;omega) (c:=2097152) fun _ _ _=>rfl] at this
 unfold MM at this ⊢;omega
theorem Qk {p a b:Int→Int→Bool} (h:∀ x y,one (p x y)=one (a x y)+one (b x y)):gE MM p=gE MM a+gE MM b:=by
 unfold gE
 rw [← Ii]
 refine Da fun x _ _=>?_
 rw [← Ii]
 exact Da fun y _ _=>h x y
theorem Wh {p a b:Int→Int→Bool} (h:∀ x y,p x y=(a x y || b x y)) (hd:∀ x y,a x y=true→b x y=true→False):gE MM p=gE MM a+gE MM b:=
 Qk fun x y=>by
  rw [h]
  have:=hd x y
  cases ha:a x y <;> cases hb:b x y <;> simp_all [one]
def dD (r:aF) (l:List aF):Int:=gE MM fun x y=>inC r x y&&!cov l x y
theorem Sv {r:aF} (h:vR r):dD r []=r.W*r.H:=by
 unfold dD
 rw [← AA h]
 exact Kt fun x y=>by simp [cov]
theorem Qi {r b:aF} {l:List aF} (hr:vR r) (hb:vR b) (h:¬ ovR r b):dD r (b::l)=dD r l:=by
 refine Kt fun x y=>?_
 have:¬ (inC r x y=true∧inC b x y=true):=fun q=>h ((Rp hr hb).2 ⟨x,y,q⟩)
 show (inC r x y&&!(inC b x y || cov l x y))=_
 cases h1:inC r x y <;> cases h2:inC b x y <;> simp_all
theorem Fk {r:aF} (l:List aF) (h:¬ (r.W>0∧r.H>0)):dD r l=0:=by
 refine Hb fun x y=>?_
 cases h1:inC r x y with
 | false=>rfl
 | true=>rw [rO] at h1;omega
def pF (r b:aF):aF:=⟨r.X,r.Y,max r.X b.X-r.X,r.H⟩
def rF (r b:aF):aF:=⟨min (r.X+r.W) (b.X+b.W),r.Y,r.X+r.W-min (r.X+r.W) (b.X+b.W),r.H⟩
def sJ (r b:aF):aF:=⟨max r.X b.X,r.Y,min (r.X+r.W) (b.X+b.W)-max r.X b.X,max r.Y b.Y-r.Y⟩
def xN (r b:aF):aF:=⟨max r.X b.X,min (r.Y+r.H) (b.Y+b.H),min (r.X+r.W) (b.X+b.W)-max r.X b.X,r.Y+r.H-min (r.Y+r.H) (b.Y+b.H)⟩
theorem FP {r b:aF} (h:ovR r b):∀ p ∈ [pF r b,rF r b,sJ r b,xN r b],p.W>0→p.H>0→vR p:=by
 obtain ⟨h1,h2,h3,h4,h5,h6⟩:=h
 unfold vR at h1 h2
 intro p hp hw hh
 simp only [List.mem_cons,List.not_mem_nil,or_false] at hp
 unfold vR
 rcases hp with rfl | rfl | rfl | rfl <;> simp only [pF,rF,sJ,xN] at hw hh ⊢ <;> omega
theorem Ow {r b:aF} {l:List aF} (h:ovR r b):dD r (b::l)=dD (pF r b) l+dD (rF r b) l+dD (sJ r b) l+dD (xN r b) l:=by
 obtain ⟨h1,h2,h3,h4,h5,h6⟩:=h
 unfold vR at h1 h2
 unfold dD gE
 rw [← Ii,← Ii,← Ii]
 refine Da fun x _ _=>?_
 rw [← Ii,← Ii,← Ii]
 refine Da fun y _ _=>?_
 show one (inC r x y&&!(inC b x y || cov l x y))=one (inC (pF r b) x y&&!cov l x y)+one (inC (rF r b) x y&&!cov l x y)+one (inC (sJ r b) x y&&!cov l x y)+one (inC (xN r b) x y&&!cov l x y)
 generalize cov l x y=c
 cases c with
 | true=>simp [one]
 | false =>
   simp only [Bool.or_false,Bool.not_false,Bool.and_true]
   have i0:=@rO r x y
   have i5:=@rO b x y
   have i1:=@rO (pF r b) x y
   have i2:=@rO (rF r b) x y
   have i3:=@rO (sJ r b) x y
   have i4:=@rO (xN r b) x y
   simp only [pF,rF,sJ,xN] at i1 i2 i3 i4
   change inC (pF r b) x y=true↔_ at i1
   change inC (rF r b) x y=true↔_ at i2
   change inC (sJ r b) x y=true↔_ at i3
   change inC (xN r b) x y=true↔_ at i4
   generalize inC (pF r b) x y=c1 at *
   generalize inC (rF r b) x y=c2 at *
   generalize inC (sJ r b) x y=c3 at *
   generalize inC (xN r b) x y=c4 at *
   generalize inC r x y=c0 at *
   generalize inC b x y=c5 at *
   cases c1 <;> cases c2 <;> cases c3 <;> cases c4 <;> cases c0 <;> cases c5 <;> simp only [one,Bool.and_true,Bool.and_false,Bool.true_and,Bool.false_and,Bool.not_true,Bool.not_false,if_true,Bool.false_eq_true,if_false,true_iff,false_iff] at * <;> omega
theorem pN (r:aF) (l:List aF):0≤dD r l:=tY _
theorem yJ (r:aF) (l:List aF):dD r l≤4398046511104:=tX _
theorem Wl (l:List aF) (r:aF):gE MM (cov (l++[r]))=gE MM (cov l)+dD r l:=
 Qk fun x y=>by
  rw [Kz]
  simp only [cov,List.any_cons,List.any_nil,Bool.or_false]
  cases (l.any fun r=>inC r x y) <;> cases inC r x y <;> rfl
end Go.SM
namespace Go.Cells
def GD (s:Int→Int) (a b:Int):Prop:=a<b∧s a≠0∧(∀ z,a≤z→z<b→s z=s a)∧s (a-1)≠s a∧s b≠s a
def FE (s:Int→Int) (l:List (Int×Int)):Prop:=l.Pairwise (fun p q=>p.1<q.1)∧∀ a b,(a,b) ∈ l↔GD s a b
def cut (s:Int→Int) (e:Int):Int→Int:=fun z=>if z<e then s z else 0
section
variable {s:Int→Int} {e e':Int} {l:List (Int×Int)} (h:FE (cut s e) l) (he:e<e') (hs:∀ z,e≤z→z<e'→s z=s e)
include h he hs
end
end Go.Cells
namespace Go.SM
open Go Go.VI Go.Cells
def xsL (l:List aF):List Int:=l.flatMap fun r=>[r.X,r.X+r.W]
def ysL (l:List aF):List Int:=l.flatMap fun r=>[r.Y,r.Y+r.H]
def xS (g l:List Int):Prop:=g.Pairwise (fun x y=>x<y)∧∀ x,x ∈ g↔x ∈ l
theorem Ms (a b:List aF):xsL (a++b)=xsL a++xsL b:=by simp [xsL]
theorem Mt (a b:List aF):ysL (a++b)=ysL a++ysL b:=by simp [ysL]
theorem Qa (l:List aF):(xsL l).length=2*l.length:=by
 induction l with
 | nil=>rfl
 | cons r l ih=>rw [show xsL (r::l)=[r.X,r.X+r.W]++xsL l from rfl,List.length_append,ih];simp;omega
theorem Qc (l:List aF):(ysL l).length=2*l.length:=by
 induction l with
 | nil=>rfl
 | cons r l ih=>rw [show ysL (r::l)=[r.Y,r.Y+r.H]++ysL l from rfl,List.length_append,ih];simp;omega
theorem Ih {r:aF} (h:vR r):aE r.X r.W=r.X+r.W∧aE r.Y r.H=r.Y+r.H:=by
 unfold vR at h
 exact ⟨aO (by omega) (by omega),aO (by omega) (by omega)⟩
theorem tG {α:Type} {l:List α} {k:Nat} {x:α} (h:l[k]?=some x):l.take (k+1)=l.take k++[x]:=by rw [List.take_add_one,h];rfl
theorem nR {α:Type} {l:List α} {k:Nat} {x d:α} (h:l[k]?=some x):l.getD k d=x:=by rw [List.getD_eq_getElem?_getD,h];rfl
def ps (g:Int→Int) (xs:List Int) (k:Nat):Int:=wO (fun i=>(xs.getD (i+1) 0-xs.getD i 0)*g (xs.getD i 0)) k
theorem Dn (g:Int→Int):∀ xs:List Int,ps g xs (xs.length-1)=pS g xs
 | []=>rfl
 | [_]=>rfl
 | x::y::t=>by
   have ih:=Dn g (y::t)
   unfold ps at ih ⊢
   rw [show (x::y::t).length-1=1+((y::t).length-1) from by simp;omega,Mp]
   simp only [pS]
   rw [← ih]
   congr 1
   ·simp [wO]
   ·refine Bh fun k _=>?_
    rw [show 1+k=k+1 from by omega]
    simp
theorem Dc {xs:List Int} (h:xs.Pairwise fun x y=>x<y) {i j:Nat} {x y:Int} (hij:i<j) (hx:xs[i]?=some x) (hy:xs[j]?=some y):x<y:=by
 obtain ⟨a,rfl⟩:=List.getElem?_eq_some_iff.1 hx
 obtain ⟨b,rfl⟩:=List.getElem?_eq_some_iff.1 hy
 exact List.pairwise_iff_getElem.1 h i j a b hij
theorem Cr {xs:List Int} (h:xs.Pairwise fun x y=>x<y) {g:Int→Int} {c:Int} (hc:0≤c) (hg:∀ x,0≤g x∧g x≤c):∀ k,k<xs.length→0≤ps g xs k∧ps g xs k≤c*(xs.getD k 0-xs.getD 0 0)
 | 0,_=>by simp [ps,wO]
 | k+1,hk=>by
   obtain ⟨a1,a2⟩:=Cr h hc hg k (by omega)
   obtain ⟨x,hx⟩:∃ x,xs[k]?=some x:=⟨_,List.getElem?_eq_getElem (by omega)⟩
   obtain ⟨y,hy⟩:∃ y,xs[k+1]?=some y:=⟨_,List.getElem?_eq_getElem hk⟩
   have hxy:=Dc h (Nat.lt_succ_self k) hx hy
   have e:ps g xs (k+1)=ps g xs k+(y-x)*g x:=by
    show wO _ (k+1)=_
    simp only [wO,nR hx,nR hy];rfl
   rw [nR hx] at a2
   rw [e,nR hy]
   obtain ⟨g1,g2⟩:=hg x
   have m1:0≤(y-x)*g x:=Int.mul_nonneg (by omega) g1
   have m2:(y-x)*g x≤(y-x)*c:=Int.mul_le_mul_of_nonneg_left g2 (by omega)
   have m3:c*(y-xs.getD 0 0)=c*(x-xs.getD 0 0)+(y-x)*c:=by grind
   omega
structure Kn (xs:List Int):Prop where
 asc:xs.Pairwise fun x y=>x<y
 within:∀ x ∈ xs,-1048576≤x∧x≤1048576
 len:xs.length≤1000
theorem one_le (b:Bool):0≤one b∧one b≤1:=by cases b <;> decide
theorem Lj {xs:List Int} (h:Kn xs) {g:Int→Int} {c:Int} (hc:0≤c) (hg:∀ x,0≤g x∧g x≤c):0≤pS g xs∧pS g xs≤c*2097152:=by
 rw [← Dn]
 rcases Nat.eq_zero_or_pos xs.length with q | q
 ·rw [List.eq_nil_of_length_eq_zero q]
  have:0≤c*2097152:=Int.mul_nonneg hc (by omega)
  simpa [ps,wO] using this
 ·obtain ⟨b1,b2⟩:=Cr h.asc hc hg (xs.length-1) (by omega)
  obtain ⟨x,hx⟩:∃ x,xs[xs.length-1]?=some x:=⟨_,List.getElem?_eq_getElem (by omega)⟩
  obtain ⟨y,hy⟩:∃ y,xs[0]?=some y:=⟨_,List.getElem?_eq_getElem (by omega)⟩
  rw [nR hx,nR hy] at b2
  have wx:=h.within x (List.mem_of_getElem? hx)
  have wy:=h.within y (List.mem_of_getElem? hy)
  have:c*(x-y)≤c*2097152:=Int.mul_le_mul_of_nonneg_left (by omega) hc
  exact ⟨b1,by omega⟩
theorem Kh (g:Int→Int) {l:List Int} {k:Nat} {x y:Int} (hx:l[k]?=some x) (hy:l[k+1]?=some y):ps g l (k+1)=ps g l k+(y-x)*g x:=by
 show wO _ (k+1)=_
 simp only [wO,nR hx,nR hy];rfl
theorem Ie {β:Type} {f:Int→β} {C:Int→Prop} (hf:∀ x z,x≤z→(∀ c,C c→(c≤z↔c≤x))→f z=f x):∀ g:List Int,g.Pairwise (fun x y=>x<y)→(∀ c,C c→(∀ x,g.head?=some x→c<x)∨c ∈ g)→xR f g
 | [],_,_=>trivial
 | [_],_,_=>trivial
 | x::y::t,h,hc=>by
   have hxy:=(List.pairwise_cons.1 h).1 y List.mem_cons_self
   have ht:=(List.pairwise_cons.1 h).2
   refine ⟨hxy,fun z h1 h2=>hf x z h1 fun c hC=>?_,Ie hf (y::t) ht fun c hC=>?_⟩
   ·rcases hc c hC with q | q
    ·have:=q x rfl;omega
    ·rcases List.mem_cons.1 q with rfl | q
     ·omega
     ·rcases List.mem_cons.1 q with rfl | q
      ·omega
      ·have:=(List.pairwise_cons.1 ht).1 c q;omega
   ·rcases hc c hC with q | q
    ·left;intro w hw;simp at hw;subst hw;have:=q x rfl;omega
    ·rcases List.mem_cons.1 q with rfl | q
     ·left;intro w hw;simp at hw;subst hw;exact hxy
     ·exact .inr q
theorem Qb {l:List aF} {r:aF} (h:r ∈ l):r.X ∈ xsL l∧r.X+r.W ∈ xsL l:=by
 unfold xsL
 exact ⟨List.mem_flatMap.2 ⟨r,h,by simp⟩,List.mem_flatMap.2 ⟨r,h,by simp⟩⟩
theorem Mu {l:List aF} {r:aF} (h:r ∈ l):r.Y ∈ ysL l∧r.Y+r.H ∈ ysL l:=by
 unfold ysL
 exact ⟨List.mem_flatMap.2 ⟨r,h,by simp⟩,List.mem_flatMap.2 ⟨r,h,by simp⟩⟩
theorem Kr {α:Type} {l:List α} {f g:α→Bool} (h:∀ x ∈ l,f x=g x):l.any f=l.any g:=by
 induction l with
 | nil=>rfl
 | cons x l ih=>simp only [List.any_cons];rw [h x List.mem_cons_self,ih fun y hy=>h y (List.mem_cons_of_mem _ hy)]
structure Has (xs ys:List Int) (l:List aF):Prop where
 X:Kn xs
 Y:Kn ys
 x:∀ c ∈ xsL l,c ∈ xs
 y:∀ c ∈ ysL l,c ∈ ys
 v:sL l
section
variable {xs ys:List Int} {l:List aF} (h:Has xs ys l)
include h
theorem EF:xR (fun x=>cov l x) xs:=Ie (C:=fun c=>c ∈ xsL l) (fun x z hxz hC=>funext fun y=>Kr fun r hr=>by
 have h1:=hC _ (Qb hr).1
 have h2:=hC _ (Qb hr).2
 show ((decide (r.X≤z)&&decide (z<r.X+r.W))&&_)=((decide (r.X≤x)&&decide (x<r.X+r.W))&&_)
 rw [show decide (r.X≤z)=decide (r.X≤x) from by simp only [h1],show decide (z<r.X+r.W)=decide (x<r.X+r.W) from by
  have:(z<r.X+r.W)=(x<r.X+r.W):=by apply propext;omega
  simp only [this]]) xs h.X.asc fun c hc=>.inr (h.x c hc)
theorem EH (x:Int):xR (fun y=>cov l x y) ys:=Ie (C:=fun c=>c ∈ ysL l) (fun y z hyz hC=>Kr fun r hr=>by
 have h1:=hC _ (Mu hr).1
 have h2:=hC _ (Mu hr).2
 show (_&&(decide (r.Y≤z)&&decide (z<r.Y+r.H)))=(_&&(decide (r.Y≤y)&&decide (y<r.Y+r.H)))
 rw [show decide (r.Y≤z)=decide (r.Y≤y) from by simp only [h1],show decide (z<r.Y+r.H)=decide (y<r.Y+r.H) from by
  have:(z<r.Y+r.H)=(y<r.Y+r.H):=by apply propext;omega
  simp only [this]]) ys h.Y.asc fun c hc=>.inr (h.y c hc)
theorem CY {x y:Int} (hc:cov l x y=true):(∃ a ∈ xs,a≤x)∧(∃ a ∈ xs,x<a)∧(∃ a ∈ ys,a≤y)∧(∃ a ∈ ys,y<a):=by
 obtain ⟨r,hr,hb⟩:=List.any_eq_true.1 hc
 rw [rO] at hb
 exact ⟨⟨_,h.x _ (Qb hr).1,hb.1⟩,⟨_,h.x _ (Qb hr).2,hb.2.1⟩,⟨_,h.y _ (Mu hr).1,hb.2.2.1⟩,⟨_,h.y _ (Mu hr).2,hb.2.2.2⟩⟩
omit h in
theorem ends {x0:Int} {t:List Int} (ha:(x0::t).Pairwise fun x y=>x<y):∀ a ∈ x0::t,x0≤a∧a≤(x0::t).getLast (by simp):=fun a m=>by
 constructor
 ·rcases List.mem_cons.1 m with rfl | m
  ·exact Int.le_refl _
  ·exact Int.le_of_lt ((List.pairwise_cons.1 ha).1 a m)
 ·have e:x0::t=(x0::t).dropLast++[(x0::t).getLast (by simp)]:=(List.dropLast_concat_getLast (by simp)).symm
  rw [e,List.pairwise_append] at ha
  rw [e] at m
  rcases List.mem_append.1 m with m | m
  ·exact Int.le_of_lt (ha.2.2 a m _ (by simp))
  ·simp at m;omega
theorem Ql:pS (fun x=>pS (fun y=>one (cov l x y)) ys) xs=gE MM (cov l):=by
 have hx:=EF h
 have hy:=EH h
 have hi:=@CY xs ys l h
 have hX:=h.X
 have hY:=h.Y
 clear h
 cases xs with
 | nil =>
   rw [Hb fun x y=>?_]
   ·rfl
   ·cases hc:cov l x y with
    | false=>rfl
    | true=>obtain ⟨⟨a,ha,_⟩,_⟩:=hi hc;simp at ha
 | cons x0 xs =>
   cases ys with
   | nil =>
     rw [Hb fun x y=>?_]
     ·have e:∀ l:List Int,pS (fun _=>pS (fun _=>(0:Int)) []) l=0:=fun l=>by
       have:∀ l:List Int,pS (fun _=>(0:Int)) l=0:=fun l=>by
        induction l with
        | nil=>rfl
        | cons x t ih=>cases t with
          | nil=>rfl
          | cons y t=>simp only [pS,ih];simp
       exact this l
      exact e _
     ·cases hc:cov l x y with
      | false=>rfl
      | true=>obtain ⟨_,_,⟨a,ha,_⟩,_⟩:=hi hc;simp at ha
   | cons y0 ys =>
     have ex:=ends hX.asc
     have ey:=ends hY.asc
     have wx0:=hX.within x0 List.mem_cons_self
     have wy0:=hY.within y0 List.mem_cons_self
     have wx1:=hX.within _ (List.getLast_mem (l:=x0::xs) (by simp))
     have wy1:=hY.within _ (List.getLast_mem (l:=y0::ys) (by simp))
     refine (Wi hx hy (by unfold MM;omega) (by unfold MM;omega) (by unfold MM;omega) (by unfold MM;omega) (fun x y q=>?_) (fun x y q=>?_)).symm
     ·cases hc:cov l x y with
      | false=>rfl
      | true =>
        obtain ⟨⟨a,ha,a1⟩,⟨b,hb,b1⟩,_⟩:=hi hc
        have:=ex a ha
        have:=ex b hb
        omega
     ·cases hc:cov l x y with
      | false=>rfl
      | true =>
        obtain ⟨_,_,⟨a,ha,a1⟩,⟨b,hb,b1⟩⟩:=hi hc
        have:=ey a ha
        have:=ey b hb
        omega
end
theorem Pk {l:List aF} (hv:sL l):(∀ c ∈ xsL l,-1048576≤c∧c≤1048576)∧∀ c ∈ ysL l,-1048576≤c∧c≤1048576:=by
 constructor
 ·intro c hc
  obtain ⟨r,hr,hm⟩:=List.mem_flatMap.1 hc
  have:=hv r hr
  unfold vR at this
  simp at hm
  omega
 ·intro c hc
  obtain ⟨r,hr,hm⟩:=List.mem_flatMap.1 hc
  have:=hv r hr
  unfold vR at this
  simp at hm
  omega
theorem Og {α:Type} [BEq α] [LawfulBEq α]:∀ {g l:List α},g.Nodup→(∀ x ∈ g,x ∈ l)→g.length≤l.length
 | [],_,_,_=>by simp
 | x::g,l,hn,h=>by
   rw [List.nodup_cons] at hn
   have:=Og (g:=g) (l:=l.erase x) hn.2 fun y hy=>(List.mem_erase_of_ne (fun e=>hn.1 (by rw [← e];exact hy))).2 (h y (List.mem_cons_of_mem _ hy))
   rw [List.length_erase_of_mem (h x List.mem_cons_self)] at this
   have hp:=List.length_pos_of_mem (h x List.mem_cons_self)
   simp only [List.length_cons];omega
theorem Bo {g l:List Int} (hg:g.Pairwise fun x y=>x<y) (h:∀ x ∈ g,x ∈ l):g.length≤l.length:=by
 have hn:g.Nodup:=hg.imp fun q=>by omega
 exact Og hn h
theorem Zw {xs ys:List Int} {lines l:List aF} (hv:sL lines) (hl:lines.length≤400) (hx:xS xs (xsL lines)) (hy:xS ys (ysL lines)) (hs:∀ r ∈ l,r ∈ lines):Has xs ys l:=by
 have w:=Pk hv
 have lx:=Bo hx.1 fun x m=>(hx.2 x).1 m
 have ly:=Bo hy.1 fun x m=>(hy.2 x).1 m
 rw [Qa] at lx
 rw [Qc] at ly
 refine ⟨⟨hx.1,fun x m=>w.1 x ((hx.2 x).1 m),by omega⟩,⟨hy.1,fun x m=>w.2 x ((hy.2 x).1 m),by omega⟩,fun c hc=>?_,fun c hc=>?_,fun r hr=>hv r (hs r hr)⟩
 ·obtain ⟨r,hr,hm⟩:=List.mem_flatMap.1 hc
  exact (hx.2 c).2 (List.mem_flatMap.2 ⟨r,hs r hr,hm⟩)
 ·obtain ⟨r,hr,hm⟩:=List.mem_flatMap.1 hc
  exact (hy.2 c).2 (List.mem_flatMap.2 ⟨r,hs r hr,hm⟩)
end Go.SM
namespace Go.SM
open Go Go.VI
def Je (s0:tH):Int→Option (Int ⊕ (Unit ⊕ Unit)):=fun a0 =>
 if (decide (a0<([s0.X1,s0.Y1,s0.X2,s0.Y2].length:Int))) then ((idx [s0.X1,s0.Y1,s0.X2,s0.Y2] a0).bind fun a1=>(if (decide (a1<(-1048576))) then (some true) else (some (decide (a1>1048576)))).bind fun a2=>if a2 then (some (.inr (.inl ()))) else (some (.inl (aE a0 1)))) else (some (.inr (.inr (()))))
def Fy (s0:tH):Option (Bool):=
 (aJ (Je s0) 0).bind fun a0=>match a0 with | .inl a1=>some false | .inr a2=>some true
def Na (a1:(List aF)):Int→Option (Int ⊕ (Unit ⊕ Unit)):=fun a0 =>
 if (decide (a0<(a1.length:Int))) then ((idx a1 a0).bind fun a3=>(cE a3).bind fun a2=>if (!a2) then (some (.inr (.inl ()))) else (some (.inl (aE a0 1)))) else (some (.inr (.inr (()))))
def Nb (f:Flat):Int→Option (Int ⊕ (Unit ⊕ Unit)):=fun a0 =>
 if (decide (a0<([f.bU,f.pG,f.Forms].length:Int))) then ((idx [f.bU,f.pG,f.Forms] a0).bind fun a1=>if (decide ((a1.length:Int)>48)) then (some (.inr (.inl ()))) else ((aJ (Na a1) 0).bind fun a2=>match a2 with | .inl a3=>some (.inr (.inl ())) | .inr a4=>some (.inl (aE a0 1)))) else (some (.inr (.inr (()))))
def Nc (f:Flat):Int→Option (Int ⊕ (Unit ⊕ Unit)):=fun a0 =>
 if (decide (a0<(f.mD.length:Int))) then ((idx f.mD a0).bind fun a2=>(Fy a2.Line).bind fun a1=>if (!a1) then (some (.inr (.inl ()))) else (some (.inl (aE a0 1)))) else (some (.inr (.inr (()))))
def Es (f:Flat):Option (Int):=
 if ((f.bU.length:Int)==0) then (some 1) else ((aJ (Nb f) 0).bind fun a0=>match a0 with | .inl a2=>some 1 | .inr a3=>(aJ (Nc f) 0).bind fun a1=>match a1 with | .inl a4=>some 1 | .inr a5=>some 0)
def Cc (r0:aF):Option (aF):=
 some (aF.mk (aH (Jk r0.Y) r0.H) r0.X r0.H r0.W)
def He (l:(List aF)):Int×(List aF)→Option (Int×(List aF) ⊕ (List aF)):=fun a0 =>
 if (decide (a0.1<(l.length:Int))) then ((idx l a0.1).bind fun a3=>(Cc a3).bind fun a2=>(app a0.2 [a2]).bind fun a1=>some (.inl ((aE a0.1 1),a1))) else (some (.inr a0.2))
def tK (l:(List aF)):Option ((List aF)):=
 (aJ (He l) (0,[])).bind fun a0=>some a0
def Cd (s0:tH):Option (tH):=
 some (tH.mk (Jk s0.Y1) s0.X1 (Jk s0.Y2) s0.X2)
def lO (f:Flat):Int×(List jV)→Option (Int×(List jV) ⊕ (List jV)):=fun a0 =>
 if (decide (a0.1<(f.mD.length:Int))) then ((idx f.mD a0.1).bind fun a1=>(Cd a1.Line).bind fun a3=>(app a0.2 [(jV.mk a1.Sq a1.Ss a3 a1.Yg a1.Sp)]).bind fun a2=>some (.inl ((aE a0.1 1),a2))) else (some (.inr a0.2))
def fU (f:Flat):Option (Flat):=
 (tK f.bU).bind fun r7=>(tK f.pG).bind fun r8=>(tK f.Forms).bind fun r9=>(aJ (lO f) (0,[])).bind fun a0=>some (Flat.mk r7 r8 r9 a0)
def Ga (f:Flat):Option (Flat):=
 (fU f).bind fun r2=>some r2
def Lf (a2:(List aF)):(Int×Int×Int×Int×Int)→Option ((Int×Int×Int×Int×Int) ⊕ (Int×Int×Int×Int)):=fun a0 =>
 if (decide (a0.1<(a2.length:Int))) then ((idx a2 a0.1).bind fun a1=>some (.inl ((aE a0.1 1),(dJ a0.2.1 a1.X),(dJ a0.2.2.1 a1.Y),(aH (imax (aE a0.2.1 a0.2.2.2.1) (aE a1.X a1.W)) (dJ a0.2.1 a1.X)),(aH (imax (aE a0.2.2.1 a0.2.2.2.2) (aE a1.Y a1.H)) (dJ a0.2.2.1 a1.Y))))) else (some (.inr (a0.2.1,a0.2.2.1,a0.2.2.2.1,a0.2.2.2.2)))
def Im (l:(List aF)):Option (aF×Int×Int×Int×Int):=
 (idx l 0).bind fun x2=>(slc l 1 (l.length:Int)).bind fun a1=>(aJ (Lf a1) (0,x2.X,x2.Y,x2.W,x2.H)).bind fun a0=>some ((aF.mk a0.1 a0.2.1 a0.2.2.1 a0.2.2.2),a0.1,a0.2.1,a0.2.2.1,a0.2.2.2)
def Ce (r0:aF) (a_0:Int) (a_1:Int) (a_2:Int) (a_3:Int):Option (aF):=
 some (aF.mk (aH r0.X a_0) (aH r0.Y a_1) r0.W r0.H)
def Fz (l:(List aF)) (a_0_0_0:Int) (a_0_0_1:Int) (a_0_0_2:Int) (a_0_0_3:Int):Int×(List aF)→Option (Int×(List aF) ⊕ (List aF)):=fun a0 =>
 if (decide (a0.1<(l.length:Int))) then ((idx l a0.1).bind fun a3=>(Ce a3 a_0_0_0 a_0_0_1 a_0_0_2 a_0_0_3).bind fun a2=>(app a0.2 [a2]).bind fun a1=>some (.inl ((aE a0.1 1),a1))) else (some (.inr a0.2))
def rI (l:(List aF)) (a_0_0_0:Int) (a_0_0_1:Int) (a_0_0_2:Int) (a_0_0_3:Int):Option ((List aF)):=
 (aJ (Fz l a_0_0_0 a_0_0_1 a_0_0_2 a_0_0_3) (0,[])).bind fun a0=>some a0
def Cf (s0:tH) (a_0:Int) (a_1:Int) (a_2:Int) (a_3:Int):Option (tH):=
 some (tH.mk (aH s0.X1 a_0) (aH s0.Y1 a_1) (aH s0.X2 a_0) (aH s0.Y2 a_1))
def lQ (f:Flat) (line_0_0:Int) (line_0_1:Int) (line_0_2:Int) (line_0_3:Int):Int×(List jV)→Option (Int×(List jV) ⊕ (List jV)):=fun a0 =>
 if (decide (a0.1<(f.mD.length:Int))) then ((idx f.mD a0.1).bind fun a1=>(Cf a1.Line line_0_0 line_0_1 line_0_2 line_0_3).bind fun a3=>(app a0.2 [(jV.mk a1.Sq a1.Ss a3 a1.Yg a1.Sp)]).bind fun a2=>some (.inl ((aE a0.1 1),a2))) else (some (.inr a0.2))
def fV (f:Flat) (rect_0_0:Int) (rect_0_1:Int) (rect_0_2:Int) (rect_0_3:Int) (line_0_0:Int) (line_0_1:Int) (line_0_2:Int) (line_0_3:Int):Option (Flat):=
 (rI f.bU rect_0_0 rect_0_1 rect_0_2 rect_0_3).bind fun r7=>(rI f.pG rect_0_0 rect_0_1 rect_0_2 rect_0_3).bind fun r8=>(rI f.Forms rect_0_0 rect_0_1 rect_0_2 rect_0_3).bind fun r9=>(aJ (lQ f line_0_0 line_0_1 line_0_2 line_0_3) (0,[])).bind fun a0=>some (Flat.mk r7 r8 r9 a0)
def Gd (f:Flat):Option (Flat×Int):=
 (Im f.bU).bind fun r2=>(fV f r2.1.X r2.1.Y r2.1.W r2.1.H r2.1.X r2.1.Y r2.1.W r2.1.H).bind fun r4=>(Es r4).bind fun r8=>if (r8 != 0) then (some ((Flat.mk [] [] [] []),4)) else (some (r4,0))
def Jb (turns:Int):(Int×(List aF)×(List aF)×(List aF)×(List jV))→Option ((Int×(List aF)×(List aF)×(List aF)×(List jV)) ⊕ ((List aF)×(List aF)×(List aF)×(List jV))):=fun a0 =>
 if (decide (a0.1<turns)) then ((Ga (Flat.mk a0.2.1 a0.2.2.1 a0.2.2.2.1 a0.2.2.2.2)).bind fun a1=>some (.inl ((aE a0.1 1),a1.bU,a1.pG,a1.Forms,a1.mD))) else (some (.inr (a0.2.1,a0.2.2.1,a0.2.2.2.1,a0.2.2.2.2)))
def Jc (f:Flat):Unit→Option (Unit ⊕ Unit):=fun a0 =>
 if (decide (0<(f.mD.length:Int))) then (none) else (some (.inr ()))
def Fw (f:Flat) (turns:Int):Option (Flat×Int):=
 (Es f).bind fun r5=>(if (r5 != 0) then (some true) else (if (decide (turns<0)) then (some true) else (some (decide (turns>3))))).bind fun j6=>if j6 then (some ((Flat.mk [] [] [] []),1)) else ((aJ (Jb turns) (0,f.bU,f.pG,f.Forms,f.mD)).bind fun a0=>(aJ (Jc f) ()).bind fun a2=>(Gd (Flat.mk a0.1 a0.2.1 a0.2.2.1 a0.2.2.2)).bind fun a1=>some (a1.1,a1.2))
def pV (l:(List aF)) (x1:Int) (y:Int) (l2:(List aF)):Int×(List aF)→Option (Int×(List aF) ⊕ (List aF)):=fun a0 =>
 if (decide (a0.1<((cpy l2 (0) (List.take (min l.length (l2.length)) l)).length:Int))) then ((idx a0.2 a0.1).bind fun a4=>(idx a0.2 a0.1).bind fun a1=>(idx (List.set a0.2 (Int.toNat a0.1) (aF.mk (aE a4.X x1) a1.Y a1.W a1.H)) a0.1).bind fun a3=>(idx (List.set a0.2 (Int.toNat a0.1) (aF.mk (aE a4.X x1) a1.Y a1.W a1.H)) a0.1).bind fun a2=>some (.inl ((aE a0.1 1),(List.set (List.set a0.2 (Int.toNat a0.1) (aF.mk (aE a4.X x1) a1.Y a1.W a1.H)) (Int.toNat a0.1) (aF.mk a2.X (aE a3.Y y) a2.W a2.H))))) else (some (.inr a0.2))
def oK (l:(List aF)) (x1:Int) (y:Int):Option ((List aF)):=
 (mk (l.length:Int) (aF.mk 0 0 0 0)).bind fun l2=>(aJ (pV l x1 y l2) (0,(cpy l2 (0) (List.take (min l.length (l2.length)) l)))).bind fun a0=>some a0
def Mb (x0:jW) (at1:dP):Option (jW×Int×ByteArray×ByteArray×Int×Int):=
 (Fw (Flat.mk x0.bU x0.pG x0.Forms []) at1.Su).bind fun r2=>if (r2.2 != 0) then (some ((jW.mk ByteArray.empty ByteArray.empty 0 0 [] [] []),4,ByteArray.empty,ByteArray.empty,0,0)) else ((oK r2.1.bU at1.X at1.Y).bind fun r9=>(oK r2.1.pG at1.X at1.Y).bind fun a0=>(oK r2.1.Forms at1.X at1.Y).bind fun a1=>((gS r9).bind fun a3=>if a3 then ((gS a0).bind fun a4=>if a4 then ((gS a1).bind fun a5=>some (!a5)) else (some true)) else (some true)).bind fun a2=>if a2 then (some ((jW.mk ByteArray.empty ByteArray.empty 0 0 [] [] []),4,ByteArray.empty,ByteArray.empty,0,0)) else (some ((jW.mk x0.Name x0.bA x0.fT x0.fE r9 a0 a1),0,x0.Name,x0.bA,x0.fT,x0.fE)))
def fD (a:(List aF)) (b:(List aF)):Int→Option (Int ⊕ (Unit ⊕ Unit)):=fun a0 =>
 if (decide (a0<(a.length:Int))) then ((idx a a0).bind fun a1=>(idx b a0).bind fun a2=>if (!((a1.X==a2.X)&&((a1.Y==a2.Y)&&((a1.W==a2.W)&&((a1.H==a2.H)&&true))))) then (some (.inr (.inl ()))) else (some (.inl (aE a0 1)))) else (some (.inr (.inr (()))))
def eL (a:(List aF)) (b:(List aF)):Option (Bool):=
 if ((a.length:Int) != (b.length:Int)) then (some false) else ((aJ (fD a b) 0).bind fun a0=>match a0 with | .inl a1=>some false | .inr a2=>some true)
end Go.SM
end
