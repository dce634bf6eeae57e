/- What the functions compute, part 1. -/
import Derived.Test.YtonmponhpfpokaaGreatRVHC3
import Derived.Test.YtonmponhpfpokaaGreatRVHC4
import Derived.Lib.IndexMore
set_option linter.unusedVariables false
set_option linter.unusedSimpArgs false
set_option linter.unusedSectionVars false
noncomputable section
namespace Go.Cells
def eX (f:Nat→Int):Nat→Int
 | 0=>0
 | n+1=>eX f n+f n
def S (a b:Int) (f:Int→Int):Int:=eX (fun k=>f (a+k)) (b-a).toNat
theorem sD {f g:Nat→Int}:∀ {n:Nat},(∀ k,k<n→f k=g k)→eX f n=eX g n
 | 0,_=>rfl
 | n+1,h=>by simp only [eX];rw [sD fun k hk=>h k (by omega),h n (by omega)]
theorem Kf (f:Nat→Int) (m:Nat):∀ n,eX f (m+n)=eX f m+eX (fun k=>f (m+k)) n
 | 0=>by simp [eX]
 | n+1=>by rw [← Nat.add_assoc];simp only [eX];rw [Kf f m n];omega
theorem yF {a b:Int} (h:b≤a) (f:Int→Int):S a b f=0:=by
 unfold S;rw [show (b-a).toNat=0 from by omega];rfl
theorem Bf {a b:Int} {f g:Int→Int} (h:∀ x,a≤x→x<b→f x=g x):S a b f=S a b g:=
 sD fun k hk=>h _ (by omega) (by omega)
theorem Hg {a m b:Int} (h1:a≤m) (h2:m≤b) (f:Int→Int):S a b f=S a m f+S m b f:=by
 unfold S
 rw [show (b-a).toNat=(m-a).toNat+(b-m).toNat from by omega,Kf]
 congr 1
 exact sD fun k _=>by congr 1;omega
theorem DS (a:Int) (f:Int→Int):S a (a+1) f=f a:=by
 unfold S;rw [show (a+1-a).toNat=1 from by omega];simp [eX]
theorem Ew {a b:Int} (h:a≤b) (f:Int→Int):S a (b+1) f=S a b f+f b:=by
 rw [Hg h (by omega),DS]
theorem Vx {a:Int} {P:Int→Prop} (h0:P a) (hs:∀ b,a≤b→P b→P (b+1)) (b:Int) (h:a≤b):P b:=by
 have:∀ n:Nat,P (a+n):=fun n=>by
  induction n with
  | zero=>simpa using h0
  | succ n ih=>have:=hs _ (by omega) ih;rwa [show a+((n+1:Nat):Int)=a+n+1 from by omega]
 have:=this (b-a).toNat
 rwa [show a+((b-a).toNat:Int)=b from by omega] at this
theorem Ga {a b:Int} (f g:Int→Int):S a b (fun x=>f x+g x)=S a b f+S a b g:=by
 by_cases h:a≤b
 ·revert b
  intro b h
  refine Vx (P:=fun b=>S a b (fun x=>f x+g x)=S a b f+S a b g) ?_ (fun b hb ih=>?_) b h
  ·simp [yF]
  ·rw [Ew hb,Ew hb,Ew hb,ih];omega
 ·simp [yF (show b≤a by omega)]
theorem Bg {a b:Int} (h:a≤b) {f:Int→Int} {c:Int} (hc:∀ x,a≤x→x<b→f x=c):S a b f=(b-a)*c:=by
 rw [Bf hc]
 refine Vx (P:=fun b=>S a b (fun _=>c)=(b-a)*c) ?_ (fun b hb ih=>?_) b h
 ·simp [yF]
 ·rw [Ew hb,ih,show b+1-a=(b-a)+1 from by omega,Int.add_mul];omega
theorem yG {a b:Int} {f:Int→Int} (hc:∀ x,a≤x→x<b→f x=0):S a b f=0:=by
 by_cases h:a≤b
 ·rw [Bg h hc,Int.mul_zero]
 ·exact yF (by omega) f
theorem Vy {a b:Int} {f g:Int→Int} (h:∀ x,a≤x→x<b→f x≤g x):S a b f≤S a b g:=by
 by_cases hab:a≤b
 ·revert h
  refine Vx (P:=fun b=>(∀ x,a≤x→x<b→f x≤g x)→S a b f≤S a b g) (fun _=>by simp [yF]) (fun b hb ih h=>?_) b hab
  rw [Ew hb,Ew hb]
  have:=ih fun x h1 h2=>h x h1 (by omega)
  have:=h b hb (by omega)
  omega
 ·simp [yF (show b≤a by omega)]
theorem Nk {a b:Int} {f:Int→Int} (h:∀ x,a≤x→x<b→0≤f x):0≤S a b f:=by
 have:=Vy (a:=a) (b:=b) (f:=fun _=>0) (g:=f) h
 rwa [yG fun _ _ _=>rfl] at this
theorem Hj {a b a' b':Int} {f:Int→Int} (h1:a'≤a) (h2:a≤b) (h3:b≤b') (h:∀ x,a'≤x→x<b'→(x<a∨b≤x)→f x=0):S a' b' f=S a b f:=by
 rw [Hg h1 (by omega),Hg h2 h3,yG (a:=a') (b:=a) fun x p q=>h x p (by omega) (.inl q),yG (a:=b) (b:=b') fun x p q=>h x (by omega) q (.inr p)]
 omega
def rK (g:Int→Int):List Int→Int
 | []=>0
 | [_]=>0
 | x::y::t=>(y-x)*g x+rK g (y::t)
def wM {β:Type} (g:Int→β):List Int→Prop
 | []=>True
 | [_]=>True
 | x::y::t=>x<y∧(∀ z,x≤z→z<y→g z=g x)∧wM g (y::t)
theorem zJ {β:Type} {g:Int→β}:∀ (x:Int) (t:List Int),wM g (x::t)→x≤(x::t).getLast (by simp)
 | x,[],_=>by simp
 | x,y::t,h=>by
   have:=zJ y t h.2.2
   have:=h.1
   rw [List.getLast_cons (by simp)]
   omega
theorem Mk {g:Int→Int}:∀ (x:Int) (t:List Int),wM g (x::t)→S x ((x::t).getLast (by simp)) g=rK g (x::t)
 | x,[],_=>by simp [yF,rK]
 | x,y::t,h=>by
   have h1:=h.1
   rw [List.getLast_cons (by simp),Hg (Int.le_of_lt h1) (zJ y t h.2.2),Mk y t h.2.2,Bg (Int.le_of_lt h1) h.2.1]
   rfl
def one (b:Bool):Int:=if b then 1 else 0
theorem one_nonneg (b:Bool):0≤one b:=by cases b <;> decide
def eM (M:Int) (p:Int→Int→Bool):Int:=S (-M) M fun x=>S (-M) M fun y=>one (p x y)
theorem Ij {M:Int} {p q:Int→Int→Bool} (h:∀ x y,p x y=q x y):eM M p=eM M q:=by
 have:p=q:=funext fun x=>funext fun y=>h x y
 rw [this]
theorem sN {M:Int} (p:Int→Int→Bool):0≤eM M p:=Nk fun _ _ _=>Nk fun _ _ _=>one_nonneg _
theorem Zn {M:Int} {p q:Int→Int→Bool} (h:∀ x y,p x y=true→q x y=true):eM M p≤eM M q:=
 Vy fun x _ _=>Vy fun y _ _=>by
  have:=h x y
  unfold one
  cases hp:p x y <;> cases hq:q x y <;> simp_all
theorem Bh {M:Int} {p:Int→Int→Bool} (h:∀ x y,p x y=false):eM M p=0:=yG fun x _ _=>yG fun y _ _=>by rw [h];rfl
def inR (a b c d:Int) (x y:Int):Bool:=decide (a≤x∧x<b)&&decide (c≤y∧y<d)
theorem Ld {M a b c d:Int} (ha : -M≤a) (hab:a≤b) (hb:b≤M) (hc : -M≤c) (hcd:c≤d) (hd:d≤M):eM M (inR a b c d)=(b-a)*(d-c):=by
 unfold eM
 rw [Hj ha hab hb fun x _ _ h=>yG fun y _ _=>by
  unfold inR
  rw [decide_eq_false (by omega:¬ (a≤x∧x<b))];rfl]
 refine Bg hab fun x h1 h2=>?_
 rw [Hj hc hcd hd fun y _ _ h=>by
  unfold inR
  rw [decide_eq_false (by omega:¬ (c≤y∧y<d)),Bool.and_false];rfl]
 rw [Bg hcd (c:=1) fun y h3 h4=>by
  unfold inR
  rw [decide_eq_true (⟨h1,h2⟩:a≤x∧x<b),decide_eq_true (⟨h3,h4⟩:c≤y∧y<d)];rfl]
 omega
theorem Ua {M:Int} {p:Int→Int→Bool} {x0 y0:Int} {xs ys:List Int} (hx:wM (fun x=>p x) (x0::xs)) (hy:∀ x,wM (fun y=>p x y) (y0::ys))
  (h1 : -M≤x0) (h2:(x0::xs).getLast (by simp)≤M) (h3 : -M≤y0) (h4:(y0::ys).getLast (by simp)≤M)
  (hox:∀ x y,(x<x0∨(x0::xs).getLast (by simp)≤x)→p x y=false) (hoy:∀ x y,(y<y0∨(y0::ys).getLast (by simp)≤y)→p x y=false) :
  eM M p=rK (fun x=>rK (fun y=>one (p x y)) (y0::ys)) (x0::xs):=by
 have st1:∀ {β γ:Type} (f:β→γ) (g:Int→β) (l:List Int),wM g l→wM (fun x=>f (g x)) l:=by
  intro β γ f g l
  induction l with
  | nil=>exact fun _=>trivial
  | cons x t ih =>
    cases t with
    | nil=>exact fun _=>trivial
    | cons y t=>exact fun h=>⟨h.1,fun z a b=>congrArg f (h.2.1 z a b),ih h.2.2⟩
 unfold eM
 rw [Hj h1 (zJ _ _ hx) h2 fun x _ _ h=>yG fun y _ _=>by rw [hox x y h];rfl]
 have e:∀ x,S (-M) M (fun y=>one (p x y))=rK (fun y=>one (p x y)) (y0::ys):=fun x=>by
  rw [Hj h3 (zJ _ _ (hy x)) h4 fun y _ _ h=>by rw [hoy x y h];rfl]
  exact Mk _ _ (st1 one (fun y=>p x y) _ (hy x))
 rw [Bf fun x _ _=>e x]
 exact Mk _ _ (st1 (fun q=>rK (fun y=>one (q y)) (y0::ys)) (fun x=>p x) _ hx)
end Go.Cells
namespace Go.SM
open Go Go.VI
structure aE where
 X:Int
 Y:Int
 W:Int
 H:Int
def aB (x:aE):List PV:=[(vI x.X),(vI x.Y),(vI x.W),(vI x.H)]
abbrev aN (l:List aE):PV:=.sl (List.map aB l)
abbrev bC (e:Nat) (l:List aE):HO:=.row e [] (List.map aB l)
structure aL where
 Name:ByteArray
 aU:ByteArray
 bZ:Int
 bF:Int
 aD:(List aE)
 bB:(List aE)
 Forms:(List aE)
def aS (x:aL):List PV:=[(vS x.Name),(vS x.aU),(vI x.bZ),(vI x.bF),(.sl (List.map aB x.aD)),(.sl (List.map aB x.bB)),(.sl (List.map aB x.Forms))]
abbrev fV (l:List aL):PV:=.sl (List.map aS l)
abbrev tU (e:Nat) (l:List aL):HO:=.row e [] (List.map aS l)
structure aW where
 Name:ByteArray
 aU:ByteArray
 bZ:Int
 bF:Int
 cA:Int
 bH:Int
 aZ:(List aE)
 Used:(List aE)
def aY (x:aW):List PV:=[(vS x.Name),(vS x.aU),(vI x.bZ),(vI x.bF),(vI x.cA),(vI x.bH),(.sl (List.map aB x.aZ)),(.sl (List.map aB x.Used))]
abbrev fI (l:List aW):PV:=.sl (List.map aY l)
structure bE where
 Gap:Int
 bN:Int
 kT:Bool
def bI (x:bE):List PV:=[(vI x.Gap),(vI x.bN),(vB x.kT)]
structure aP where
 aL:Int
 aW:Int
 X:Int
 Y:Int
 nA:Int
def aV (x:aP):List PV:=[(vI x.aL),(vI x.aW),(vI x.X),(vI x.Y),(vI x.nA)]
abbrev bG (l:List aP):PV:=.sl (List.map aV l)
abbrev sX (e:Nat) (l:List aP):HO:=.row e [] (List.map aV l)
structure bJ where
 aE:aE
 gap:Int
 common:Bool
def bM (x:bJ):List PV:=[(vI x.aE.X),(vI x.aE.Y),(vI x.aE.W),(vI x.aE.H),(vI x.gap),(vB x.common)]
abbrev eB (l:List bJ):PV:=.sl (List.map bM l)
abbrev bX (e:Nat) (l:List bJ):HO:=.row e [] (List.map bM l)
structure sE where
 X1:Int
 Y1:Int
 X2:Int
 Y2:Int
def xE (x:sE):List PV:=[(vI x.X1),(vI x.Y1),(vI x.X2),(vI x.Y2)]
structure jV where
 Qe:Int
 Qf:Int
 Line:sE
 Vs:Int
 Qd:Int
def eN (x:jV):List PV:=[(vI x.Qe),(vI x.Qf),(vI x.Line.X1),(vI x.Line.Y1),(vI x.Line.X2),(vI x.Line.Y2),(vI x.Vs),(vI x.Qd)]
abbrev nK (l:List jV):PV:=.sl (List.map eN l)
abbrev pO (e:Nat) (l:List jV):HO:=.row e [] (List.map eN l)
structure Flat where
 aD:(List aE)
 bB:(List aE)
 Forms:(List aE)
 kB:(List jV)
def rI (x:Flat):List PV:=[(.sl (List.map aB x.aD)),(.sl (List.map aB x.bB)),(.sl (List.map aB x.Forms)),(.sl (List.map eN x.kB))]
structure jR where
 tE:(List aE)
 dB:(List bJ)
 eM:aE
 w:Int
 h:Int
def eF (x:jR):List PV:=[(.sl (List.map aB x.tE)),(.sl (List.map bM x.dB)),(vI x.eM.X),(vI x.eM.Y),(vI x.eM.W),(vI x.eM.H),(vI x.w),(vI x.h)]
structure cC where
 lo:Int
 hi:Int
def bY (x:cC):List PV:=[(vI x.lo),(vI x.hi)]
abbrev iM (l:List cC):PV:=.sl (List.map bY l)
abbrev kS (e:Nat) (l:List cC):HO:=.row e [] (List.map bY l)
structure lK where
 kD:(List aW)
 mL:(List aL)
 Set:bE
def eY (x:lK):List PV:=[(.sl (List.map aY x.kD)),(.sl (List.map aS x.mL)),(vI x.Set.Gap),(vI x.Set.bN),(vB x.Set.kT)]
def Cr (x:aE):Prop:=R64 x.X∧R64 x.Y∧R64 x.W∧R64 x.H
def Mc (x:aL):Prop:=RT x.Name∧RT x.aU∧R64 x.bZ∧R64 x.bF∧(RL Cr) x.aD∧(RL Cr) x.bB∧(RL Cr) x.Forms
def Md (x:aW):Prop:=RT x.Name∧RT x.aU∧R64 x.bZ∧R64 x.bF∧R64 x.cA∧R64 x.bH∧(RL Cr) x.aZ∧(RL Cr) x.Used
def Ic (x:bE):Prop:=R64 x.Gap∧R64 x.bN∧RT x.kT
def Fz (x:aP):Prop:=R64 x.aL∧R64 x.aW∧R64 x.X∧R64 x.Y∧R64 x.nA
def Ae (x:lK):Prop:=(RL Md) x.kD∧(RL Mc) x.mL∧Ic x.Set
def gI (n:Int) (lo:Int) (hi:Int):Option (Bool):=
 (if (decide (lo≤n)) then (some (decide (n≤hi))) else (some false)).bind fun j1=>some j1
def nP (x0:aL) (s1:aW) (turn:Int):Option (Bool):=
 (if (x0.aU.toList==s1.aU.toList) then (if (x0.bZ != s1.bZ) then (some true) else ((gI turn 0 3).bind fun r6=>some (!r6))) else (some true)).bind fun j5=>if j5 then (some false) else ((if (x0.bF==0) then (some true) else (if (s1.bF==0) then (some true) else (some ((x0.bF==s1.bF)==((Int.tmod turn 2)==0))))).bind fun j7=>some j7)
def iX (x0:aL) (s1:aW) (turn:Int):Option (Bool):=
 (if (x0.aU.toList==s1.aU.toList) then (if (x0.bZ != s1.bZ) then (some true) else (if (decide (turn<0)) then (some true) else (some (decide (turn>3))))) else (some true)).bind fun j2=>if j2 then (some false) else ((if (x0.bF==0) then (some true) else (some (s1.bF==0))).bind fun j4=>if j4 then (some true) else ((if ((Int.tmod turn 2)==0) then (if (x0.bF==s1.bF) then (some true) else (if ((Int.tmod turn 2)==1) then (some (x0.bF != s1.bF)) else (some false))) else (if ((Int.tmod turn 2)==1) then (some (x0.bF != s1.bF)) else (some false))).bind fun j5=>some j5))
def strings_Contains (s sub:ByteArray):Option Bool:=if s.size<4294967281 then some (Go.Lib.contains s.data.toList sub.data.toList) else none
theorem Zb (n:Int) (h:¬ n<0) (h3:¬ n>3):Int.tmod n 2=0∨Int.tmod n 2=1:=by
 have:n=0∨n=1∨n=2∨n=3:=by omega
 rcases this with rfl | rfl | rfl | rfl <;> decide
theorem Lz (x:aL) (s:aW) (t:Int):∃ b,nP x s t=some b∧iX x s t=some b:=by
 unfold nP iX gI
 cases hm:x.aU.toList==s.aU.toList with
 | false=>exact ⟨false,by simp,by simp⟩
 | true =>
   by_cases hg:x.bZ=s.bZ
   ·by_cases h0 : t<0
    ·exact ⟨false,by simp [hg,show ¬ 0≤t by omega],by simp [hg,h0]⟩
    ·by_cases h3 : t>3
     ·exact ⟨false,by simp [hg,show 0≤t by omega,show ¬ t≤3 by omega],by simp [hg,h0,h3]⟩
     ·refine ⟨if x.bF=0 then true else if s.bF=0 then true else ((x.bF==s.bF)==(Int.tmod t 2==0)), ?_, ?_⟩
      ·simp only [hg,bne_self_eq_false,Bool.false_eq_true,if_false,if_true,show (0≤t)=True by simp;omega,show (t≤3)=True by simp;omega,decide_true,Option.bind_some,Bool.not_true,beq_iff_eq]
       by_cases q1:x.bF=0 <;> by_cases q2:s.bF=0 <;> simp [q1,q2]
      ·simp only [hg,bne_self_eq_false,Bool.false_eq_true,if_false,if_true,h0,h3,decide_false,Option.bind_some,beq_iff_eq]
       by_cases q1:x.bF=0
       ·simp [q1]
       ·by_cases q2:s.bF=0
        ·simp [q1,q2]
        ·rcases Zb t h0 h3 with e | e
         ·by_cases q3:x.bF=s.bF
          ·simp [e,q3,q2]
          ·simp [q1,q2,e,q3]
         ·by_cases q3:x.bF=s.bF
          ·simp [e,q3,q2]
          ·have q4:(x.bF==s.bF)=false:=by rw [beq_eq_false_iff_ne];exact q3
           simp [q1,q2,e,q3,bne]
   ·exact ⟨false,by simp [hg],by simp [hg]⟩
def wA (n:Int) (most:Int):Option (Bool):=
 (if (decide ((jT most)≤n)) then (some (decide (n≤most))) else (some false)).bind fun j1=>some j1
def lM (x0:Int) (w:Int):Option (Bool):=
 ((wA x0 1048576).bind fun r3=>if r3 then (if (decide (w>0)) then (if (decide (w≤2097152)) then (some (decide ((aH x0 w)≤1048576))) else (some false)) else (some false)) else (some false)).bind fun j2=>some j2
def dH (r0:aE):Option (Bool):=
 ((lM r0.X r0.W).bind fun r4=>if r4 then ((lM r0.Y r0.H).bind fun r5=>some r5) else (some false)).bind fun j3=>some j3
def oF (a:aE) (b:aE):Option (Int):=
 ((dH a).bind fun r9=>if r9 then ((dH b).bind fun a0=>some (!a0)) else (some true)).bind fun j8=>if j8 then (some 0) else (some (imax (imax (imax (imax 0 (aQ (aQ b.X a.X) a.W)) (aQ (aQ a.X b.X) b.W)) (aQ (aQ b.Y a.Y) a.H)) (aQ (aQ a.Y b.Y) b.H)))
def lV (a:aE) (b:aE):Option (Bool):=
 ((dH a).bind fun r4=>if r4 then ((dH b).bind fun r5=>if r5 then (if (decide (a.X<(aH b.X b.W))) then (if (decide (b.X<(aH a.X a.W))) then (if (decide (a.Y<(aH b.Y b.H))) then (some (decide (b.Y<(aH a.Y a.H)))) else (some false)) else (some false)) else (some false)) else (some false)) else (some false)).bind fun j3=>some j3
def oK (b:(List aE)) (set2:bE) (a3:aE):(Int×Bool)→Option ((Int×Bool) ⊕ (Unit ⊕ Bool)):=fun a0 =>
 if (decide (a0.1<(b.length:Int))) then ((idx b a0.1).bind fun a4=>(oF a3 a4).bind fun a2=>((lV a3 a4).bind fun a5=>if a5 then (some (true,a0.2)) else (if (decide (a2<set2.Gap)) then (if a0.2 then (some ((!(a2==0)),true)) else (some (true,false))) else (some (false,a0.2)))).bind fun a1=>if a1.1 then (some (.inr (.inl ()))) else (some (.inl ((aH a0.1 1),a1.2)))) else (some (.inr (.inr a0.2)))
def oL (a:(List aE)) (b:(List aE)) (set2:bE):(Int×Bool)→Option ((Int×Bool) ⊕ (Unit ⊕ Unit)):=fun a0 =>
 if (decide (a0.1<(a.length:Int))) then ((idx a a0.1).bind fun a2=>(aJ (oK b set2 a2) (0,a0.2)).bind fun a3=>match a3 with | .inl a4=>some (.inr (.inl ())) | .inr a1=>some (.inl ((aH a0.1 1),a1))) else (some (.inr (.inr (()))))
def yM (a:(List aE)) (b:(List aE)) (set2:bE):Option (Bool):=
 (aJ (oL a b set2) (0,set2.kT)).bind fun a0=>match a0 with | .inl a1=>some false | .inr a2=>some true
def cT (n:Int):Option (Bool):=
 (if (decide (n ≥ (-1048576))) then (some (decide (n≤1048576))) else (some false)).bind fun j1=>some j1
def bV (r0:aE):Option (Bool):=
 ((cT r0.X).bind fun r9=>if r9 then ((cT r0.Y).bind fun a1=>if a1 then (if (decide (r0.W<1)) then (some true) else (if (decide (r0.H<1)) then (some true) else (if (decide (r0.W>2097152)) then (some true) else (some (decide (r0.H>2097152)))))) else (some true)) else (some true)).bind fun j8=>if j8 then (some false) else (((cT (aH r0.X r0.W)).bind fun a2=>if a2 then ((cT (aH r0.Y r0.H)).bind fun a3=>some a3) else (some false)).bind fun a0=>some a0)
def gW (a:aE) (b:aE):Option (Int):=
 ((bV a).bind fun r9=>if r9 then ((bV b).bind fun a0=>some (!a0)) else (some true)).bind fun j8=>if j8 then (some 0) else (some (imax (imax (imax 0 (aQ (aQ a.X b.X) b.W)) (aQ (aQ b.X a.X) a.W)) (imax (imax 0 (aQ (aQ a.Y b.Y) b.H)) (aQ (aQ b.Y a.Y) a.H))))
def fG (a:aE) (b:aE):Option (Bool):=
 ((bV a).bind fun r4=>if r4 then ((bV b).bind fun r5=>if r5 then (if (decide (a.X<(aH b.X b.W))) then (if (decide (b.X<(aH a.X a.W))) then (if (decide (a.Y<(aH b.Y b.H))) then (some (decide (b.Y<(aH a.Y a.H)))) else (some false)) else (some false)) else (some false)) else (some false)) else (some false)).bind fun j3=>some j3
def fD (a:(List aE)) (b:(List aE)) (set2:bE) (a4:Int×Bool):(Int×Bool)→Option ((Int×Bool) ⊕ (Unit ⊕ Bool)):=fun a0 =>
 if (decide (a0.1<(b.length:Int))) then ((idx a a4.1).bind fun a5=>(idx b a0.1).bind fun a6=>(gW a5 a6).bind fun a2=>((idx a a4.1).bind fun a7=>(idx b a0.1).bind fun a8=>(fG a7 a8).bind fun a3=>if a3 then (some (true,a0.2)) else (if (decide (a2<set2.Gap)) then (if a0.2 then (some ((!(a2==0)),true)) else (some (true,false))) else (some (false,a0.2)))).bind fun a1=>if a1.1 then (some (.inr (.inl ()))) else (some (.inl ((aH a0.1 1),a1.2)))) else (some (.inr (.inr a0.2)))
def fE (a:(List aE)) (b:(List aE)) (set2:bE):(Int×Bool)→Option ((Int×Bool) ⊕ (Unit ⊕ Unit)):=fun a0 =>
 if (decide (a0.1<(a.length:Int))) then ((aJ (fD a b set2 a0) (0,a0.2)).bind fun a2=>match a2 with | .inl a3=>some (.inr (.inl ())) | .inr a1=>some (.inl ((aH a0.1 1),a1))) else (some (.inr (.inr (()))))
def mS (a:(List aE)) (b:(List aE)) (set2:bE):Option (Bool):=
 (aJ (fE a b set2) (0,set2.kT)).bind fun a0=>match a0 with | .inl a1=>some false | .inr a2=>some true
def mA (s sub:ByteArray):Option Bool:=if s.size<4294967281 then some (Go.Lib.contains s.data.toList sub.data.toList) else none
def kO (s0:ByteArray):Int→Option (Int ⊕ (Unit ⊕ Unit)):=fun a1 =>
 if (decide (a1<(s0.size:Int))) then ((Dh s0 a1).bind fun a0=>(if (decide (a0<97)) then (if (decide (a0<48)) then (some true) else (some (decide (a0>57)))) else (if (decide (a0>122)) then (if (decide (a0<48)) then (some true) else (some (decide (a0>57)))) else (some false))).bind fun a2=>if a2 then (some (.inr (.inl ()))) else (some (.inl (aH a1 1)))) else (some (.inr (.inr (()))))
def eO (s0:ByteArray):Option (Bool):=
 (if (decide ((s0.size:Int)<1)) then (some true) else (if (decide ((s0.size:Int)>8)) then (some true) else ((Dh s0 0).bind fun x9=>if (decide (x9<97)) then (some true) else ((Dh s0 0).bind fun a3=>some (decide (a3>122)))))).bind fun j8=>if j8 then (some false) else ((aJ (kO s0) 0).bind fun a4=>match a4 with | .inl a5=>some false | .inr a6=>(Hf (ByteArray.mk #[32]) s0).bind fun a1=>(Hf a1 (ByteArray.mk #[32])).bind fun a2=>(mA (ByteArray.mk #[32,112,97,114,116,32,109,97,116,101,114,105,97,108,32,98,97,115,101,32,102,108,97,110,103,101,32,104,111,108,101,32,99,117,116,32,102,111,114,109,32,101,97,115,116,32,115,111,117,116,104,32,119,101,115,116,32,110,111,114,116,104,32,117,112,32,100,111,119,110,32,99,108,111,115,101,117,112,32,99,108,111,115,101,100,111,119,110,32,103,114,97,105,110,32,120,32,121,32,116,97,98,108,101,32,97,110,103,108,101,32,109,97,99,104,105,110,101,32,112,117,110,99,104,32,100,105,101,32,102,114,97,109,101,32,103,97,117,103,101,32,112,111,108,121,32,115,116,97,116,105,111,110,115,32]) a2).bind fun a0=>some (!a0))
def uK (gauge:Int) (grain:Int):Option (Bool):=
 ((gI gauge 1 60).bind fun r4=>if r4 then ((gI grain 0 2).bind fun r5=>some r5) else (some false)).bind fun j3=>some j3
def oU (l:(List aE)):Int→Option (Int ⊕ (Unit ⊕ Unit)):=fun a0 =>
 if (decide (a0<(l.length:Int))) then ((idx l a0).bind fun a2=>(dH a2).bind fun a1=>if (!a1) then (some (.inr (.inl ()))) else (some (.inl (aH a0 1)))) else (some (.inr (.inr (()))))
def jE (l:(List aE)):Option (Bool):=
 (aJ (oU l) 0).bind fun a0=>match a0 with | .inl a1=>some false | .inr a2=>some true
def kY (s0:aW) (margin:Int):Option (aE×Bool):=
 (dH (aE.mk margin margin (aQ s0.cA (rM 2 margin)) (aQ s0.bH (rM 2 margin)))).bind fun r3=>some ((aE.mk margin margin (aQ s0.cA (rM 2 margin)) (aQ s0.bH (rM 2 margin))),r3)
def sR (a:aE) (b:aE):Option (Bool):=
 ((dH a).bind fun r4=>if r4 then ((dH b).bind fun r5=>if r5 then (if (decide (b.X≤a.X)) then (if (decide ((aH a.X a.W)≤(aH b.X b.W))) then (if (decide (b.Y≤a.Y)) then (some (decide ((aH a.Y a.H)≤(aH b.Y b.H)))) else (some false)) else (some false)) else (some false)) else (some false)) else (some false)).bind fun j3=>some j3
def gT (a4:aE×Bool) (a1:(List aE)):Int→Option (Int ⊕ (Unit ⊕ Unit)):=fun a0 =>
 if (decide (a0<(a1.length:Int))) then ((idx a1 a0).bind fun a3=>(sR a3 a4.1).bind fun a2=>if (!a2) then (some (.inr (.inl ()))) else (some (.inl (aH a0 1)))) else (some (.inr (.inr (()))))
def gU (s0:aW) (a5:aE×Bool):Int→Option (Int ⊕ (Unit ⊕ Unit)):=fun a0 =>
 if (decide (a0<([s0.aZ,s0.Used].length:Int))) then ((idx [s0.aZ,s0.Used] a0).bind fun a1=>(aJ (gT a5 a1) 0).bind fun a2=>match a2 with | .inl a3=>some (.inr (.inl ())) | .inr a4=>some (.inl (aH a0 1))) else (some (.inr (.inr (()))))
def bA (s0:aW):Option (Int):=
 ((eO s0.Name).bind fun a7=>if a7 then ((eO s0.aU).bind fun a8=>some (!a8)) else (some true)).bind fun a1=>if a1 then (some 2) else (((uK s0.bZ s0.bF).bind fun a9=>if a9 then ((gI s0.cA 1 1048576).bind fun b0=>if b0 then ((gI s0.bH 1 1048576).bind fun b1=>some (!b1)) else (some true)) else (some true)).bind fun a2=>if a2 then (some 1) else ((if (decide ((s0.aZ.length:Int)>4)) then (some true) else (some (decide ((s0.Used.length:Int)>48)))).bind fun a3=>if a3 then (some 4) else (((jE s0.aZ).bind fun b2=>if b2 then ((jE s0.Used).bind fun b3=>some (!b3)) else (some true)).bind fun a4=>if a4 then (some 1) else ((kY s0 0).bind fun b4=>(aJ (gU s0 b4) 0).bind fun a0=>match a0 with | .inl a5=>some 13 | .inr a6=>some 0))))
def lY (n:Int) (lo:Int) (hi:Int):Option (Bool):=
 (if (decide (n ≥ lo)) then (some (decide (n≤hi))) else (some false)).bind fun j1=>some j1
def lA:Option (ByteArray):=
 some (ByteArray.mk #[32,112,97,114,116,32,109,97,116,101,114,105,97,108,32,98,97,115,101,32,102,108,97,110,103,101,32,104,111,108,101,32,99,117,116,32,102,111,114,109,32,101,97,115,116,32,115,111,117,116,104,32,119,101,115,116,32,110,111,114,116,104,32,117,112,32,100,111,119,110,32,99,108,111,115,101,117,112,32,99,108,111,115,101,100,111,119,110,32,103,114,97,105,110,32,120,32,121,32,116,97,98,108,101,32,97,110,103,108,101,32,109,97,99,104,105,110,101,32,112,117,110,99,104,32,100,105,101,32,102,114,97,109,101,32,103,97,117,103,101,32,112,111,108,121,32,115,116,97,116,105,111,110,115,32])
def eS (text:ByteArray) (s1:ByteArray):Int→Option (Int ⊕ (Unit ⊕ Unit)):=fun a0 =>
 if (decide ((aH (aH a0 (s1.size:Int)) 2)≤(text.size:Int))) then ((Yv text a0 (aH (aH a0 (s1.size:Int)) 2)).bind fun a1=>(Hf (ByteArray.mk #[32]) s1).bind fun a2=>(Hf a2 (ByteArray.mk #[32])).bind fun a3=>if (a1.toList==a3.toList) then (some (.inr (.inl ()))) else (some (.inl (aH a0 1)))) else (some (.inr (.inr (()))))
def jP (text:ByteArray) (s1:ByteArray):Option (Bool):=
 (aJ (eS text s1) 0).bind fun a0=>match a0 with | .inl a1=>some true | .inr a2=>some false
def eC (s0:ByteArray):Int→Option (Int ⊕ (Unit ⊕ Unit)):=fun a0 =>
 if (decide (a0<(s0.size:Int))) then (((Dh s0 a0).bind fun a3=>if (decide (a3 ≥ 97)) then ((Dh s0 a0).bind fun a4=>some (decide (a4≤122))) else (some false)).bind fun a1=>(if a1 then (some false) else ((Dh s0 a0).bind fun a5=>if (decide (a5<48)) then (some true) else ((Dh s0 a0).bind fun a6=>some (decide (a6>57))))).bind fun a2=>if a2 then (some (.inr (.inl ()))) else (some (.inl (aH a0 1)))) else (some (.inr (.inr (()))))
def cG (s0:ByteArray):Option (Bool):=
 ((lY (s0.size:Int) 1 8).bind fun a6=>if a6 then ((Dh s0 0).bind fun a7=>if (decide (a7<97)) then (some true) else ((Dh s0 0).bind fun a8=>some (decide (a8>122)))) else (some true)).bind fun a3=>if a3 then (some false) else ((aJ (eC s0) 0).bind fun a2=>match a2 with | .inl a4=>some false | .inr a5=>(lA).bind fun a0=>(jP a0 s0).bind fun a1=>some (!a1))
def gZ (name:ByteArray) (material:ByteArray) (gauge:Int) (grain:Int):Option (Int):=
 ((cG name).bind fun r9=>if r9 then ((cG material).bind fun a1=>some (!a1)) else (some true)).bind fun j8=>if j8 then (some 2) else ((if (decide (gauge<1)) then (some true) else (if (decide (gauge>60)) then (some true) else (if (decide (grain<0)) then (some true) else (some (decide (grain>2)))))).bind fun a0=>if a0 then (some 1) else (some 0))
def eT (l:(List aE)):Int→Option (Int ⊕ (Unit ⊕ Unit)):=fun a0 =>
 if (decide (a0<(l.length:Int))) then ((idx l a0).bind fun a2=>(bV a2).bind fun a1=>if (!a1) then (some (.inr (.inl ()))) else (some (.inl (aH a0 1)))) else (some (.inr (.inr (()))))
def bL (l:(List aE)):Option (Bool):=
 (aJ (eT l) 0).bind fun a0=>match a0 with | .inl a1=>some false | .inr a2=>some true
def eQ (a:aE) (b:aE):Option (Bool):=
 ((bV a).bind fun r4=>if r4 then ((bV b).bind fun r5=>if r5 then (if (decide (a.X ≥ b.X)) then (if (decide (a.Y ≥ b.Y)) then (if (decide ((aH a.X a.W)≤(aH b.X b.W))) then (some (decide ((aH a.Y a.H)≤(aH b.Y b.H)))) else (some false)) else (some false)) else (some false)) else (some false)) else (some false)).bind fun j3=>some j3
def eW (s0:aW) (l:(List aE)):Int→Option (Int ⊕ (Unit ⊕ Unit)):=fun a0 =>
 if (decide (a0<(l.length:Int))) then ((idx l a0).bind fun a2=>(eQ a2 (aE.mk 0 0 s0.cA s0.bH)).bind fun a1=>if (!a1) then (some (.inr (.inl ()))) else (some (.inl (aH a0 1)))) else (some (.inr (.inr (()))))
def gD (s0:aW) (l:(List aE)):Option (Bool):=
 (aJ (eW s0 l) 0).bind fun a0=>match a0 with | .inl a1=>some false | .inr a2=>some true
def cD (s0:aW):Option (Int):=
 (gZ s0.Name s0.aU s0.bZ s0.bF).bind fun r2=>if (r2 != 0) then (some r2) else ((if (decide (s0.cA<1)) then (some true) else (if (decide (s0.cA>1048576)) then (some true) else (if (decide (s0.bH<1)) then (some true) else (some (decide (s0.bH>1048576)))))).bind fun j4=>if j4 then (some 1) else ((if (decide ((s0.aZ.length:Int)>4)) then (some true) else (some (decide ((s0.Used.length:Int)>48)))).bind fun j6=>if j6 then (some 4) else (((bL s0.aZ).bind fun a2=>if a2 then ((bL s0.Used).bind fun a3=>some (!a3)) else (some true)).bind fun a0=>if a0 then (some 1) else (((gD s0 s0.aZ).bind fun a4=>if a4 then ((gD s0 s0.Used).bind fun a5=>some (!a5)) else (some true)).bind fun a1=>if a1 then (some 13) else (some 0)))))
def jW (a:aE) (b:aE):Option (Bool):=
 (if ((aQ (cM (aH a.X a.W) (aH b.X b.W)) (imax a.X b.X))==0) then (if (decide ((aQ (cM (aH a.Y a.H) (aH b.Y b.H)) (imax a.Y b.Y))>0)) then (some true) else (if ((aQ (cM (aH a.Y a.H) (aH b.Y b.H)) (imax a.Y b.Y))==0) then (some (decide ((aQ (cM (aH a.X a.W) (aH b.X b.W)) (imax a.X b.X))>0))) else (some false))) else (if ((aQ (cM (aH a.Y a.H) (aH b.Y b.H)) (imax a.Y b.Y))==0) then (some (decide ((aQ (cM (aH a.X a.W) (aH b.X b.W)) (imax a.X b.X))>0))) else (some false))).bind fun j1=>some j1
def iW (a1:Int×(List Bool)×(List Int)):((List Bool)×(List Int))→Option ((Int×(List Bool)×(List Int)) ⊕ ((List Bool)×(List Int))):=fun a0 =>
 some (.inl ((aH a1.1 1),a0.1,a0.2))
def dM (l:(List aE)) (a4:Int):(Int×(List Bool)×(List Int))→Option ((Int×(List Bool)×(List Int)) ⊕ ((List Bool)×(List Int))):=fun a0 =>
 if (decide (a0.1<(l.length:Int))) then (((idx a0.2.1 a0.1).bind fun a5=>if a5 then (some false) else ((idx l a4).bind fun a6=>(idx l a0.1).bind fun a7=>(jW a6 a7).bind fun a3=>some a3)).bind fun a1=>if a1 then ((idx a0.2.1 a0.1).bind fun a8=>(app a0.2.2 [a0.1]).bind fun a2=>iW a0 ((List.set a0.2.1 (Int.toNat a0.1) true),a2)) else (iW a0 (a0.2.1,a0.2.2))) else (some (.inr (a0.2.1,a0.2.2)))
def eH (l:(List aE)):((List Bool)×(List Int))→Option (((List Bool)×(List Int)) ⊕ (List Bool)):=fun a0 =>
 if (decide ((a0.2.length:Int)>0)) then ((idx a0.2 0).bind fun a2=>if (decide (1≤a0.2.length)) then ((aJ (dM l a2) (0,a0.1,(List.drop 1 a0.2))).bind fun a1=>some (.inl (a1.1,a1.2))) else none) else (some (.inr a0.1))
def kM (a1:(List Bool)):Int→Option (Int ⊕ (Unit ⊕ Unit)):=fun a0 =>
 if (decide (a0<(a1.length:Int))) then ((idx a1 a0).bind fun a2=>if (!a2) then (some (.inr (.inl ()))) else (some (.inl (aH a0 1)))) else (some (.inr (.inr (()))))
def iL (l:(List aE)):Option (Bool):=
 (mk (l.length:Int) false).bind fun l2=>(idx l2 0).bind fun x4=>(aJ (eH l) ((List.set l2 (Int.toNat 0) true),[0])).bind fun a0=>(aJ (kM a0) 0).bind fun a1=>match a1 with | .inl a2=>some false | .inr a3=>some true
def lR (h0:aE) (l:(List aE)):Int→Option (Int ⊕ (Unit ⊕ Unit)):=fun a1 =>
 if (decide (a1<(l.length:Int))) then ((idx l a1).bind fun a0=>(if (decide (h0.X>a0.X)) then (if (decide (h0.Y>a0.Y)) then (if (decide ((aH h0.X h0.W)<(aH a0.X a0.W))) then (some (decide ((aH h0.Y h0.H)<(aH a0.Y a0.H)))) else (some false)) else (some false)) else (some false)).bind fun a2=>if a2 then (some (.inr (.inl ()))) else (some (.inl (aH a1 1)))) else (some (.inr (.inr (()))))
def oT (h0:aE) (l:(List aE)):Option (Bool):=
 (aJ (lR h0 l) 0).bind fun a0=>match a0 with | .inl a1=>some true | .inr a2=>some false
def nF (x0:aL) (l6:(List aE)):Int→Option (Int ⊕ (Unit ⊕ Unit)):=fun a0 =>
 if (decide (a0<(l6.length:Int))) then ((idx l6 a0).bind fun a1=>(if (decide (a0<(x0.bB.length:Int))) then (if (a1.W==1) then (some true) else (if (a1.H==1) then (some true) else ((oT a1 x0.aD).bind fun a3=>some (!a3)))) else ((oT a1 x0.aD).bind fun a4=>some (!a4))).bind fun a2=>if a2 then (some (.inr (.inl ()))) else (some (.inl (aH a0 1)))) else (some (.inr (.inr (()))))
def nG (a3:aE) (a1:(List aE)):Int→Option (Int ⊕ (Unit ⊕ Unit)):=fun a0 =>
 if (decide (a0<(a1.length:Int))) then ((idx a1 a0).bind fun a4=>(oF a3 a4).bind fun a2=>if (a2==0) then (some (.inr (.inl ()))) else (some (.inl (aH a0 1)))) else (some (.inr (.inr (()))))
def nH (l6:(List aE)):Int→Option (Int ⊕ (Unit ⊕ Unit)):=fun a0 =>
 if (decide (a0<(l6.length:Int))) then ((idx l6 a0).bind fun a2=>(slc l6 0 a0).bind fun a1=>(aJ (nG a2 a1) 0).bind fun a3=>match a3 with | .inl a4=>some (.inr (.inl ())) | .inr a5=>some (.inl (aH a0 1))) else (some (.inr (.inr (()))))
def pS (x0:aL):Option (Int):=
 (app [] x0.bB).bind fun l5=>(app l5 x0.Forms).bind fun l6=>(aJ (nF x0 l6) 0).bind fun a4=>match a4 with | .inl a5=>some 13 | .inr a1=>(aJ (nH l6) 0).bind fun a0=>match a0 with | .inl a2=>some 7 | .inr a3=>some 0
def bU (x0:aL):(Int×Int×Int)→Option ((Int×Int×Int) ⊕ (Int×Int)):=fun a0 =>
 if (decide (a0.2.2<(x0.aD.length:Int))) then ((idx x0.aD a0.2.2).bind fun a1=>some (.inl ((cM a0.1 a1.X),(cM a0.2.1 a1.Y),(aH a0.2.2 1)))) else (some (.inr (a0.1,a0.2.1)))
def gR (a3:aE) (a1:(List aE)):Int→Option (Int ⊕ (Unit ⊕ Unit)):=fun a0 =>
 if (decide (a0<(a1.length:Int))) then ((idx a1 a0).bind fun a4=>(lV a3 a4).bind fun a2=>if a2 then (some (.inr (.inl ()))) else (some (.inl (aH a0 1)))) else (some (.inr (.inr (()))))
def gS (x0:aL):Int→Option (Int ⊕ (Unit ⊕ Unit)):=fun a0 =>
 if (decide (a0<(x0.aD.length:Int))) then ((idx x0.aD a0).bind fun a2=>(slc x0.aD 0 a0).bind fun a1=>(aJ (gR a2 a1) 0).bind fun a3=>match a3 with | .inl a4=>some (.inr (.inl ())) | .inr a5=>some (.inl (aH a0 1))) else (some (.inr (.inr (()))))
def aR (x0:aL):Option (Int):=
 ((eO x0.Name).bind fun b0=>if b0 then ((eO x0.aU).bind fun b1=>some (!b1)) else (some true)).bind fun a4=>if a4 then (some 2) else ((uK x0.bZ x0.bF).bind fun b2=>if (!b2) then (some 1) else ((if (decide ((x0.aD.length:Int)>12)) then (some true) else (if (decide ((x0.bB.length:Int)>12)) then (some true) else (some (decide ((x0.Forms.length:Int)>12))))).bind fun a5=>if a5 then (some 4) else ((if ((x0.aD.length:Int)==0) then (some true) else ((jE x0.aD).bind fun b3=>if b3 then ((jE x0.bB).bind fun b4=>if b4 then ((jE x0.Forms).bind fun b5=>some (!b5)) else (some true)) else (some true))).bind fun a6=>if a6 then (some 1) else ((idx x0.aD 0).bind fun b6=>(idx x0.aD 0).bind fun b7=>(aJ (bU x0) (b6.X,b7.Y,0)).bind fun a3=>(if (a3.1 != 0) then (some true) else (some (a3.2 != 0))).bind fun a9=>if a9 then (some 1) else ((aJ (gS x0) 0).bind fun a2=>match a2 with | .inl a7=>some 7 | .inr a8=>(iL x0.aD).bind fun a0=>if (!a0) then (some 6) else ((pS x0).bind fun a1=>some a1))))))
def lE (l:(List aE)):(Int×Int×Int)→Option ((Int×Int×Int) ⊕ (Int×Int)):=fun a0 =>
 if (decide (a0.2.2<(l.length:Int))) then ((idx l a0.2.2).bind fun a1=>(idx l a0.2.2).bind fun a2=>some (.inl ((cM a0.1 a1.X),(cM a0.2.1 a2.Y),(aH a0.2.2 1)))) else (some (.inr (a0.1,a0.2.1)))
def fA (l:(List aE)):Option (Int×Int):=
 (idx l 0).bind fun x5=>(idx l 0).bind fun x6=>(aJ (lE l) (x5.X,x6.Y,1)).bind fun a0=>some (a0.1,a0.2)
def fF (r0:aE) (l:(List aE)):Int→Option (Int ⊕ (Unit ⊕ Unit)):=fun a0 =>
 if (decide (a0<(l.length:Int))) then ((idx l a0).bind fun a2=>(fG r0 a2).bind fun a1=>if a1 then (some (.inr (.inl ()))) else (some (.inl (aH a0 1)))) else (some (.inr (.inr (()))))
def eZ (r0:aE) (l:(List aE)):Option (Bool):=
 (aJ (fF r0 l) 0).bind fun a0=>match a0 with | .inl a1=>some true | .inr a2=>some false
def lF (a:aE) (b:aE):Option (Bool):=
 (if ((aQ (cM (aH a.X a.W) (aH b.X b.W)) (imax a.X b.X))==0) then (if (decide ((aQ (cM (aH a.Y a.H) (aH b.Y b.H)) (imax a.Y b.Y))>0)) then (some true) else (if ((aQ (cM (aH a.Y a.H) (aH b.Y b.H)) (imax a.Y b.Y))==0) then (some (decide ((aQ (cM (aH a.X a.W) (aH b.X b.W)) (imax a.X b.X))>0))) else (some false))) else (if ((aQ (cM (aH a.Y a.H) (aH b.Y b.H)) (imax a.Y b.Y))==0) then (some (decide ((aQ (cM (aH a.X a.W) (aH b.X b.W)) (imax a.X b.X))>0))) else (some false))).bind fun j1=>some j1
def cH (a1:Int×(List Bool)×(List Int)):((List Bool)×(List Int))→Option ((Int×(List Bool)×(List Int)) ⊕ ((List Bool)×(List Int))):=fun a0 =>
 some (.inl ((aH a1.1 1),a0.1,a0.2))
def bW (l:(List aE)) (a4:Int×(List Bool)×(List Int)):(Int×(List Bool)×(List Int))→Option ((Int×(List Bool)×(List Int)) ⊕ ((List Bool)×(List Int))):=fun a0 =>
 if (decide (a0.1<(l.length:Int))) then (((idx a0.2.1 a0.1).bind fun a5=>if a5 then (some false) else ((idx a0.2.2 a4.1).bind fun a6=>(idx l a6).bind fun a7=>(idx l a0.1).bind fun a8=>(lF a7 a8).bind fun a3=>some a3)).bind fun a1=>if a1 then ((idx a0.2.1 a0.1).bind fun a9=>(app a0.2.2 [a0.1]).bind fun a2=>cH a0 ((List.set a0.2.1 (Int.toNat a0.1) true),a2)) else (cH a0 (a0.2.1,a0.2.2))) else (some (.inr (a0.2.1,a0.2.2)))
def cJ (l:(List aE)):(Int×(List Bool)×(List Int))→Option ((Int×(List Bool)×(List Int)) ⊕ (List Int)):=fun a0 =>
 if (decide (a0.1<(a0.2.2.length:Int))) then ((aJ (bW l a0) (0,a0.2.1,a0.2.2)).bind fun a1=>some (.inl ((aH a0.1 1),a1.1,a1.2))) else (some (.inr a0.2.2))
def gP (l:(List aE)):Option (Bool):=
 (mk (l.length:Int) false).bind fun l2=>(idx l2 0).bind fun x4=>(aJ (cJ l) (0,(List.set l2 (Int.toNat 0) true),[0])).bind fun a0=>some ((a0.length:Int)==(l.length:Int))
def fQ (r0:aE) (l:(List aE)):Int→Option (Int ⊕ (Unit ⊕ Unit)):=fun a0 =>
 if (decide (a0<(l.length:Int))) then (((idx l a0).bind fun a2=>if (decide (r0.X>a2.X)) then ((idx l a0).bind fun a3=>if (decide (r0.Y>a3.Y)) then ((idx l a0).bind fun a4=>(idx l a0).bind fun a5=>if (decide ((aH r0.X r0.W)<(aH a4.X a5.W))) then ((idx l a0).bind fun a6=>(idx l a0).bind fun a7=>some (decide ((aH r0.Y r0.H)<(aH a6.Y a7.H)))) else (some false)) else (some false)) else (some false)).bind fun a1=>if a1 then (some (.inr (.inl ()))) else (some (.inl (aH a0 1)))) else (some (.inr (.inr (()))))
def kQ (r0:aE) (l:(List aE)):Option (Bool):=
 (aJ (fQ r0 l) 0).bind fun a0=>match a0 with | .inl a1=>some true | .inr a2=>some false
def cN (x0:aL):Int→Option (Int ⊕ (Unit ⊕ Unit)):=fun a0 =>
 if (decide (a0<(x0.aD.length:Int))) then ((idx x0.aD a0).bind fun a3=>(slc x0.aD 0 a0).bind fun a1=>(eZ a3 a1).bind fun a2=>if a2 then (some (.inr (.inl ()))) else (some (.inl (aH a0 1)))) else (some (.inr (.inr (()))))
def cO (x0:aL) (a1:(List aE)):Int→Option (Int ⊕ (Unit ⊕ Unit)):=fun a0 =>
 if (decide (a0<(a1.length:Int))) then (((idx a1 a0).bind fun a4=>(kQ a4 x0.aD).bind fun a3=>if a3 then (if (decide (a0<(x0.bB.length:Int))) then ((idx a1 a0).bind fun a5=>if (a5.W==1) then (some true) else ((idx a1 a0).bind fun a6=>some (a6.H==1))) else (some false)) else (some true)).bind fun a2=>if a2 then (some (.inr (.inl ()))) else (some (.inl (aH a0 1)))) else (some (.inr (.inr (()))))
def cP (a1:(List aE)) (a2:Int):Int→Option (Int ⊕ (Unit ⊕ Unit)):=fun a0 =>
 if (decide (a0<a2)) then ((idx a1 a2).bind fun a4=>(idx a1 a0).bind fun a5=>(gW a4 a5).bind fun a3=>if (a3==0) then (some (.inr (.inl ()))) else (some (.inl (aH a0 1)))) else (some (.inr (.inr (()))))
def cQ (a1:(List aE)):Int→Option (Int ⊕ (Unit ⊕ Unit)):=fun a0 =>
 if (decide (a0<(a1.length:Int))) then ((aJ (cP a1 a0) 0).bind fun a2=>match a2 with | .inl a3=>some (.inr (.inl ())) | .inr a4=>some (.inl (aH a0 1))) else (some (.inr (.inr (()))))
def bO (x0:aL):Option (Int):=
 (gZ x0.Name x0.aU x0.bZ x0.bF).bind fun r2=>if (r2 != 0) then (some r2) else ((if (decide ((x0.aD.length:Int)>12)) then (some true) else (if (decide ((x0.bB.length:Int)>12)) then (some true) else (some (decide ((x0.Forms.length:Int)>12))))).bind fun j4=>if j4 then (some 4) else ((if ((x0.aD.length:Int)==0) then (some true) else ((bL x0.aD).bind fun b5=>if b5 then ((bL x0.bB).bind fun b6=>if b6 then ((bL x0.Forms).bind fun b7=>some (!b7)) else (some true)) else (some true))).bind fun a9=>if a9 then (some 1) else ((fA x0.aD).bind fun a6=>(if (a6.1 != 0) then (some true) else (some (a6.2 != 0))).bind fun b0=>if b0 then (some 1) else ((aJ (cN x0) 0).bind fun a3=>match a3 with | .inl a7=>some 7 | .inr a8=>(gP x0.aD).bind fun a2=>if (!a2) then (some 6) else ((app [] x0.bB).bind fun a1=>(app a1 x0.Forms).bind fun a0=>(aJ (cO x0 a0) 0).bind fun a4=>match a4 with | .inl b1=>some 13 | .inr b2=>(aJ (cQ a0) 0).bind fun a5=>match a5 with | .inl b3=>some 7 | .inr b4=>some 0)))))
def dY (set0:bE):Option (Bool):=
 ((gI set0.Gap 0 14400).bind fun r4=>if r4 then ((gI set0.bN 0 14400).bind fun r5=>some r5) else (some false)).bind fun j3=>some j3
def iP (set0:bE):Option (Bool):=
 (if (decide (set0.Gap ≥ 0)) then (if (decide (set0.Gap≤14400)) then (if (decide (set0.bN ≥ 0)) then (some (decide (set0.bN≤14400))) else (some false)) else (some false)) else (some false)).bind fun j1=>some j1
def wb (m n:Int):Bool:=decide (-m≤n)&&decide (n≤m)
theorem vA {m n:Int}:wb m n=true↔-m≤n∧n≤m:=by unfold wb;simp only [Bool.and_eq_true,decide_eq_true_eq]
theorem Vr (n m:Int) (h : -1000000000≤m∧m≤1000000000):wA n m=some (wb m n):=by
 unfold wA wb
 rw [Bq (by omega) (by omega)]
 by_cases h1 : -m≤n <;> simp [h1]
def vR (r:aE):Prop:=(-1048576≤r.X∧r.X≤1048576)∧(-1048576≤r.Y∧r.Y≤1048576)∧0<r.W∧0<r.H∧r.X+r.W≤1048576∧r.Y+r.H≤1048576
instance (r:aE):Decidable (vR r):=by unfold vR;infer_instance
theorem BF (x w:Int):lM x w=some (decide ((-1048576≤x∧x≤1048576)∧0<w∧x+w≤1048576)):=by
 unfold lM
 simp only [Vr _ 1048576 (by omega),Option.bind_some]
 by_cases h1:wb 1048576 x=true
 ·have h1':=vA.1 h1
  by_cases h2:0<w
  ·by_cases h3:w≤2097152
   ·rw [aM (by omega) (by omega)]
    simp [h1,h2,h3,h1']
   ·have:¬ x+w≤1048576:=by omega
    simp [h1,h2,h3,this]
  ·simp [h1,h2]
 ·have h1':¬ (-1048576≤x∧x≤1048576):=fun q=>h1 (vA.2 q)
  simp [h1];intro a b;exact absurd ⟨a,b⟩ h1'
theorem kK (r:aE):dH r=some (decide (vR r)):=by
 unfold dH
 simp only [BF,Option.bind_some]
 by_cases h1:(-1048576≤r.X∧r.X≤1048576)∧0<r.W∧r.X+r.W≤1048576
 ·by_cases h2:(-1048576≤r.Y∧r.Y≤1048576)∧0<r.H∧r.Y+r.H≤1048576
  ·have:vR r:=by unfold vR;omega
   simp [h1,h2,this]
  ·have:¬ vR r:=by unfold vR;omega
   simp only [h1,h2,this,decide_true,decide_false,and_self];rfl
 ·have:¬ vR r:=by unfold vR;omega
  simp only [h1,this,decide_false];rfl
def lW (a b:aE):Prop:=vR a∧vR b∧b.X≤a.X∧a.X+a.W≤b.X+b.W∧b.Y≤a.Y∧a.Y+a.H≤b.Y+b.H
instance (a b:aE):Decidable (lW a b):=by unfold lW;infer_instance
theorem Ky (a b:aE):sR a b=some (decide (lW a b)):=by
 unfold sR lW
 simp only [kK,Option.bind_some]
 by_cases h1:vR a
 ·by_cases h2:vR b
  ·have h1':=h1;have h2':=h2
   unfold vR at h1' h2'
   rw [aM (by omega) (by omega),aM (by omega) (by omega),aM (by omega) (by omega),aM (by omega) (by omega)]
   by_cases h3:b.X≤a.X <;> by_cases h4:a.X+a.W≤b.X+b.W <;> by_cases h5:b.Y≤a.Y <;> simp [h1,h2,h3,h4,h5]
  ·simp [h1,h2]
 ·simp [h1]
theorem Sz (n:Int):cT n=some (wb 1048576 n):=by
 unfold cT wb
 by_cases h1 : -1048576≤n <;> simp [h1]
theorem Dm (r:aE):bV r=some (decide (vR r)):=by
 unfold bV
 simp only [Sz,Option.bind_some]
 by_cases h1:wb 1048576 r.X=true
 ·by_cases h2 : wb 1048576 r.Y=true
  ·have h1':=vA.1 h1
   have h2':=vA.1 h2
   by_cases h3:r.W<1
   ·have:¬ vR r:=by unfold vR;omega
    simp [h1,h2,h3,this]
   ·by_cases h4:r.H<1
    ·have:¬ vR r:=by unfold vR;omega
     simp [h1,h2,h3,h4,this]
    ·by_cases h5:r.W>2097152
     ·have:¬ vR r:=by unfold vR;omega
      simp [h1,h2,h3,h4,h5,this]
     ·by_cases h6:r.H>2097152
      ·have:¬ vR r:=by unfold vR;omega
       simp [h1,h2,h3,h4,h5,h6,this]
      ·rw [aM (by omega) (by omega),aM (by omega) (by omega)]
       simp only [h1,h2,h3,h4,h5,h6,if_true,decide_false,Bool.false_eq_true,if_false,Option.bind_some]
       by_cases h7:wb 1048576 (r.X+r.W)=true
       ·have h7':=vA.1 h7
        by_cases h8:wb 1048576 (r.Y+r.H)=true
        ·have h8':=vA.1 h8
         have:vR r:=by unfold vR;omega
         simp [h7,h8,this]
        ·have h8':¬ (-1048576≤r.Y+r.H∧r.Y+r.H≤1048576):=fun q=>h8 (vA.2 q)
         have:¬ vR r:=by unfold vR;omega
         simp [h7,h8,this]
       ·have h7':¬ (-1048576≤r.X+r.W∧r.X+r.W≤1048576):=fun q=>h7 (vA.2 q)
        have:¬ vR r:=by unfold vR;omega
        simp [h7,this]
  ·have h2':¬ (-1048576≤r.Y∧r.Y≤1048576):=fun q=>h2 (vA.2 q)
   have:¬ vR r:=fun q=>h2' q.2.1
   simp [h1,h2,this]
 ·have h1':¬ (-1048576≤r.X∧r.X≤1048576):=fun q=>h1 (vA.2 q)
  have:¬ vR r:=fun q=>h1' q.1
  simp [h1,this]
theorem Kz (a b:aE):eQ a b=some (decide (lW a b)):=by
 unfold eQ lW
 simp only [Dm,Option.bind_some]
 by_cases h1:vR a
 ·by_cases h2:vR b
  ·have h1':=h1;have h2':=h2
   unfold vR at h1' h2'
   rw [aM (by omega) (by omega),aM (by omega) (by omega),aM (by omega) (by omega),aM (by omega) (by omega)]
   by_cases h3:b.X≤a.X <;> by_cases h4:a.X+a.W≤b.X+b.W <;> by_cases h5:b.Y≤a.Y <;> simp [h1,h2,h3,h4,h5]
  ·simp [h1,h2]
 ·simp [h1]
theorem mD {S R:Type} (n:Nat) (body:S→Option (S ⊕ R)) (st:Nat→S) (q:Nat→Bool) (no yes:R) {s0:S} (h0:st 0=s0) (step:∀ k:Nat,k<n→body (st k)=if q k then some (.inr yes) else some (.inl (st (k+1)))) (fin:body (st n)=some (.inr no)) :
  aJ body s0=some (if (List.range n).any q then yes else no):=by
 have key:∀ (m k:Nat),k+m=n→(∀ j,j<k→q j=false)→aJ body (st k)=some (if (List.range n).any q then yes else no):=by
  intro m
  induction m with
  | zero =>
    intro k h hb
    obtain rfl:k=n:=by omega
    have:(List.range k).any q=false:=by
     rw [List.any_eq_false];intro j hj;rw [hb j (List.mem_range.1 hj)];simp
    rw [dF fin,this];rfl
  | succ m ih =>
    intro k h hb
    have hs:=step k (by omega)
    by_cases hq:q k=true
    ·rw [if_pos hq] at hs
     have:(List.range n).any q=true:=List.any_eq_true.2 ⟨k,List.mem_range.2 (by omega),hq⟩
     rw [dF hs,this];rfl
    ·rw [if_neg hq] at hs
     rw [gA hs]
     refine ih (k+1) (by omega) fun j hj=>?_
     by_cases hjk:j=k
     ·subst hjk;simpa using hq
     ·exact hb j (by omega)
 rw [← h0]
 exact key n 0 (by omega) (fun j hj=>absurd hj (by omega))
theorem Tw {α:Type} (l:List α) (q:α→Bool) (p:Nat→Bool) (h:∀ k x,l[k]?=some x→p k=q x):(List.range l.length).any p=l.any q:=by
 rw [Bool.eq_iff_iff,List.any_eq_true,List.any_eq_true]
 constructor
 ·rintro ⟨k,hk,hp⟩
  have hk':=List.mem_range.1 hk
  have hx:l[k]?=some l[k]:=by simp
  exact ⟨l[k],List.getElem_mem hk',by rw [← h k _ hx];exact hp⟩
 ·rintro ⟨x,hx,hq⟩
  obtain ⟨k,hk⟩:=List.mem_iff_getElem?.1 hx
  exact ⟨k,List.mem_range.2 (List.getElem?_eq_some_iff.1 hk).1,by rw [h k _ hk];exact hq⟩
theorem dA {α S R:Type} (l:List α) (body:S→Option (S ⊕ R)) (st:Nat→S) (q:α→Bool) (no yes:R) {s0:S} (h0:st 0=s0) (step:∀ (k:Nat) (x:α),l[k]?=some x→body (st k)=if q x then some (.inr yes) else some (.inl (st (k+1)))) (fin:body (st l.length)=some (.inr no)) :
  aJ body s0=some (if l.any q then yes else no):=by
 rw [mD l.length body st (fun k=>match l[k]? with | some x=>q x | none=>false) no yes h0 (fun k hk=>?_) fin]
 ·rw [Tw l q _ (fun k x h=>by rw [h])]
 ·have hx:l[k]?=some l[k]:=by simp
  rw [step k _ hx,hx]
def ovR (a b:aE):Prop:=vR a∧vR b∧a.X<b.X+b.W∧b.X<a.X+a.W∧a.Y<b.Y+b.H∧b.Y<a.Y+a.H
instance (a b:aE):Decidable (ovR a b):=by unfold ovR;infer_instance
theorem tX (a b:aE):lV a b=some (decide (ovR a b)):=by
 unfold lV ovR
 simp only [kK,Option.bind_some]
 by_cases h1:vR a
 ·by_cases h2:vR b
  ·have h1':=h1;have h2':=h2
   unfold vR at h1' h2'
   rw [aM (by omega) (by omega),aM (by omega) (by omega),aM (by omega) (by omega),aM (by omega) (by omega)]
   by_cases h3:a.X<b.X+b.W <;> by_cases h4:b.X<a.X+a.W <;> by_cases h5:a.Y<b.Y+b.H <;> simp [h1,h2,h3,h4,h5]
  ·simp [h1,h2]
 ·simp [h1]
theorem Fx (a b:aE):fG a b=some (decide (ovR a b)):=by
 unfold fG ovR
 simp only [Dm,Option.bind_some]
 by_cases h1:vR a
 ·by_cases h2:vR b
  ·have h1':=h1;have h2':=h2
   unfold vR at h1' h2'
   rw [aM (by omega) (by omega),aM (by omega) (by omega),aM (by omega) (by omega),aM (by omega) (by omega)]
   by_cases h3:a.X<b.X+b.W <;> by_cases h4:b.X<a.X+a.W <;> by_cases h5:a.Y<b.Y+b.H <;> simp [h1,h2,h3,h4,h5]
  ·simp [h1,h2]
 ·simp [h1]
def sP (a b:aE):Int:=if vR a∧vR b then max 0 (max (max (b.X-(a.X+a.W)) (a.X-(b.X+b.W))) (max (b.Y-(a.Y+a.H)) (a.Y-(b.Y+b.H)))) else 0
theorem Hr (a b:Int):imax a b=max a b:=by unfold imax;split <;> omega
theorem Bp (a b:Int):cM a b=min a b:=by unfold cM;split <;> omega
theorem Fw (a b:aE):oF a b=some (sP a b):=by
 unfold oF sP
 simp only [kK,Option.bind_some]
 by_cases h1:vR a
 ·by_cases h2:vR b
  ·have h1':=h1;have h2':=h2
   unfold vR at h1' h2'
   rw [bP (a:=b.X) (by omega) (by omega),bP (a:=a.X) (by omega) (by omega),bP (a:=b.Y) (by omega) (by omega),bP (a:=a.Y) (by omega) (by omega),bP (by omega) (by omega),bP (by omega) (by omega),bP (by omega) (by omega),bP (by omega) (by omega)]
   simp only [h1,h2,Hr,decide_true,and_self,if_true,Bool.not_true,Option.bind_some,Bool.false_eq_true,if_false]
   congr 1
   omega
  ·simp [h1,h2]
 ·simp [h1]
theorem Nh (a b:aE):gW a b=some (sP a b):=by
 unfold gW sP
 simp only [Dm,Option.bind_some]
 by_cases h1:vR a
 ·by_cases h2:vR b
  ·have h1':=h1;have h2':=h2
   unfold vR at h1' h2'
   rw [bP (a:=b.X) (by omega) (by omega),bP (a:=a.X) (by omega) (by omega),bP (a:=b.Y) (by omega) (by omega),bP (a:=a.Y) (by omega) (by omega),bP (by omega) (by omega),bP (by omega) (by omega),bP (by omega) (by omega),bP (by omega) (by omega)]
   simp only [h1,h2,Hr,decide_true,and_self,if_true,Bool.not_true,Option.bind_some,Bool.false_eq_true,if_false]
   congr 1
   omega
  ·simp [h1,h2]
 ·simp [h1]
theorem Oz (a b:aE):ovR a b↔ovR b a:=by unfold ovR;constructor <;> rintro ⟨h1,h2,h3,h4,h5,h6⟩ <;> exact ⟨h2,h1,h4,h3,h6,h5⟩
def blk (s:bE) (a b:aE):Bool:=decide (ovR a b) || (decide (sP a b<s.Gap)&&!(s.kT&&(sP a b==0)))
def clr (s:bE) (a b:List aE):Bool:=!(a.any fun x=>b.any fun y=>blk s x y)
theorem Vu (a b:List aE) (s:bE) (ha:a.length≤9223372036854775806) (hb:b.length≤9223372036854775806):yM a b s=some (clr s a b):=by
 have inner:∀ x:aE,aJ (oK b s x) (0,s.kT)=some (if (b.any fun y=>blk s x y) then .inl () else .inr s.kT):=by
  intro x
  refine dA b (oK b s x) (fun k=>((k:Int),s.kT)) (fun y=>blk s x y) _ _ rfl (fun k y hy=>?_) ?_
  ·have hk:=(List.getElem?_eq_some_iff.1 hy).1
   unfold oK
   have h1:decide ((k:Int)<(b.length:Int))=true:=by simp;omega
   simp only [h1,if_true,aX hy,Option.bind_some,Fw,tX]
   rw [aM (a:=(k:Int)) (by omega) (by omega)]
   unfold blk
   by_cases h2:ovR x y
   ·simp [h2]
   ·by_cases h3:sP x y<s.Gap
    ·cases h4:s.kT
     ·simp [h2,h3]
     ·by_cases h5:sP x y=0
      ·simp [h2,h5]
      ·simp [h2,h3,h5]
    ·simp [h2,h3]
  ·simp [oK]
 unfold yM
 have top:aJ (oL a b s) (0,s.kT)=some (if (a.any fun x=>b.any fun y=>blk s x y) then .inl () else .inr ()):=by
  refine dA a (oL a b s) (fun k=>((k:Int),s.kT)) (fun x=>b.any fun y=>blk s x y) _ _ rfl (fun k x hx=>?_) ?_
  ·have hk:=(List.getElem?_eq_some_iff.1 hx).1
   unfold oL
   have h1:decide ((k:Int)<(a.length:Int))=true:=by simp;omega
   simp only [h1,if_true,aX hx,Option.bind_some,inner]
   rw [aM (a:=(k:Int)) (by omega) (by omega)]
   cases (b.any fun y=>blk s x y) <;> simp
  ·simp [oL]
 rw [top]
 unfold clr
 cases (a.any fun x=>b.any fun y=>blk s x y) <;> rfl
theorem Va (a b:List aE) (s:bE) (ha:a.length≤9223372036854775806) (hb:b.length≤9223372036854775806):mS a b s=some (clr s a b):=by
 have inner:∀ (j:Nat) (x:aE),a[j]?=some x→aJ (fD a b s ((j:Int),s.kT)) (0,s.kT)=some (if (b.any fun y=>blk s x y) then .inl () else .inr s.kT):=by
  intro j x hx
  refine dA b (fD a b s ((j:Int),s.kT)) (fun k=>((k:Int),s.kT)) (fun y=>blk s x y) _ _ rfl (fun k y hy=>?_) ?_
  ·have hk:=(List.getElem?_eq_some_iff.1 hy).1
   unfold fD
   have h1:decide ((k:Int)<(b.length:Int))=true:=by simp;omega
   simp only [h1,if_true,aX hy,aX hx,Option.bind_some,Nh,Fx]
   rw [aM (a:=(k:Int)) (by omega) (by omega)]
   unfold blk
   by_cases h2:ovR x y
   ·simp [h2]
   ·by_cases h3:sP x y<s.Gap
    ·cases h4:s.kT
     ·simp [h2,h3]
     ·by_cases h5:sP x y=0
      ·simp [h2,h5]
      ·simp [h2,h3,h5]
    ·simp [h2,h3]
  ·simp [fD]
 unfold mS
 have top:aJ (fE a b s) (0,s.kT)=some (if (a.any fun x=>b.any fun y=>blk s x y) then .inl () else .inr ()):=by
  refine dA a (fE a b s) (fun k=>((k:Int),s.kT)) (fun x=>b.any fun y=>blk s x y) _ _ rfl (fun k x hx=>?_) ?_
  ·have hk:=(List.getElem?_eq_some_iff.1 hx).1
   unfold fE
   have h1:decide ((k:Int)<(a.length:Int))=true:=by simp;omega
   simp only [h1,if_true,Option.bind_some,inner k x hx]
   rw [aM (a:=(k:Int)) (by omega) (by omega)]
   cases (b.any fun y=>blk s x y) <;> simp
  ·simp [fE]
 rw [top]
 unfold clr
 cases (a.any fun x=>b.any fun y=>blk s x y) <;> rfl
end Go.SM
namespace Go.SM
open Go Go.VI Go.Cells
def MM:Int:=1048576
def inC (r:aE) (x y:Int):Bool:=(decide (r.X≤x)&&decide (x<r.X+r.W))&&(decide (r.Y≤y)&&decide (y<r.Y+r.H))
def cov (l:List aE) (x y:Int):Bool:=l.any fun r=>inC r x y
def sK (l:List aE):Prop:=∀ r ∈ l,vR r
theorem pG {r:aE} {x y:Int}:inC r x y=true↔r.X≤x∧x<r.X+r.W∧r.Y≤y∧y<r.Y+r.H:=by
 unfold inC;simp only [Bool.and_eq_true,decide_eq_true_eq];omega
theorem Qj (a b:List aE) (x y:Int):cov (a++b) x y=(cov a x y || cov b x y):=by unfold cov;rw [List.any_append]
theorem Sh {l:List aE} {x y:Int}:cov l x y=true↔∃ r ∈ l,inC r x y=true:=List.any_eq_true
theorem Ot {r:aE} (h:vR r):eM MM (inC r)=r.W*r.H:=by
 unfold vR at h
 have e:inC r=inR r.X (r.X+r.W) r.Y (r.Y+r.H):=by
  funext x y
  unfold inC inR
  by_cases h1:r.X≤x <;> by_cases h2:x<r.X+r.W <;> by_cases h3:r.Y≤y <;> by_cases h4:y<r.Y+r.H <;> simp [h1,h2,h3,h4]
 rw [e,Ld (by unfold MM;omega) (by omega) (by unfold MM;omega) (by unfold MM;omega) (by omega) (by unfold MM;omega)]
 congr 1 <;> omega
theorem Pa {r s:aE} (hr:vR r) (hs:vR s):ovR r s↔∃ x y,inC r x y=true∧inC s x y=true:=by
 constructor
 ·rintro ⟨_,_,h1,h2,h3,h4⟩
  refine ⟨max r.X s.X,max r.Y s.Y, ?_, ?_⟩
  ·rw [pG];unfold vR at *;omega
  ·rw [pG];unfold vR at *;omega
 ·rintro ⟨x,y,h1,h2⟩
  rw [pG] at h1 h2
  exact ⟨hr,hs,by omega,by omega,by omega,by omega⟩
theorem sM (p:Int→Int→Bool):eM MM p≤4398046511104:=by
 unfold eM
 have h1:∀ x,S (-MM) MM (fun y=>one (p x y))≤2097152:=fun x=>by
  have:=Vy (a:=-MM) (b:=MM) (f:=fun y=>one (p x y)) (g:=fun _=>1) fun y _ _=>by cases p x y <;> decide
  rw [Bg (by unfold MM;omega) (c:=1) fun _ _ _=>rfl] at this
  unfold MM at this ⊢;omega
 have:=Vy (a:=-MM) (b:=MM) (f:=fun x=>S (-MM) MM fun y=>one (p x y)) (g:=fun _=>2097152) fun x _ _=>h1 x
 rw [Bg (by unfold MM;omega) (c:=2097152) fun _ _ _=>rfl] at this
 unfold MM at this ⊢;omega
theorem Ns {p a b:Int→Int→Bool} (h:∀ x y,one (p x y)=one (a x y)+one (b x y)):eM MM p=eM MM a+eM MM b:=by
 unfold eM
 rw [← Ga]
 refine Bf fun x _ _=>?_
 rw [← Ga]
 exact Bf fun y _ _=>h x y
theorem Tz {p a b:Int→Int→Bool} (h:∀ x y,p x y=(a x y || b x y)) (hd:∀ x y,a x y=true→b x y=true→False):eM MM p=eM MM a+eM MM b:=
 Ns fun x y=>by
  rw [h]
  have:=hd x y
  cases ha:a x y <;> cases hb:b x y <;> simp_all [one]
def dW (r:aE) (l:List aE):Int:=eM MM fun x y=>inC r x y&&!cov l x y
theorem Qh {r:aE} (h:vR r):dW r []=r.W*r.H:=by
 unfold dW
 rw [← Ot h]
 exact Ij fun x y=>by simp [cov]
theorem Np {r b:aE} {l:List aE} (hr:vR r) (hb:vR b) (h:¬ ovR r b):dW r (b::l)=dW r l:=by
 refine Ij fun x y=>?_
 have:¬ (inC r x y=true∧inC b x y=true):=fun q=>h ((Pa hr hb).2 ⟨x,y,q⟩)
 show (inC r x y&&!(inC b x y || cov l x y))=_
 cases h1:inC r x y <;> cases h2:inC b x y <;> simp_all
theorem Dp {r:aE} (l:List aE) (h:¬ (r.W>0∧r.H>0)):dW r l=0:=by
 refine Bh fun x y=>?_
 cases h1:inC r x y with
 | false=>rfl
 | true=>rw [pG] at h1;omega
def nT (r b:aE):aE:=⟨r.X,r.Y,max r.X b.X-r.X,r.H⟩
def pT (r b:aE):aE:=⟨min (r.X+r.W) (b.X+b.W),r.Y,r.X+r.W-min (r.X+r.W) (b.X+b.W),r.H⟩
def rF (r b:aE):aE:=⟨max r.X b.X,r.Y,min (r.X+r.W) (b.X+b.W)-max r.X b.X,max r.Y b.Y-r.Y⟩
def wH (r b:aE):aE:=⟨max r.X b.X,min (r.Y+r.H) (b.Y+b.H),min (r.X+r.W) (b.X+b.W)-max r.X b.X,r.Y+r.H-min (r.Y+r.H) (b.Y+b.H)⟩
theorem CY {r b:aE} (h:ovR r b):∀ p ∈ [nT r b,pT r b,rF r b,wH r b],p.W>0→p.H>0→vR p:=by
 obtain ⟨h1,h2,h3,h4,h5,h6⟩:=h
 unfold vR at h1 h2
 intro p hp hw hh
 simp only [List.mem_cons,List.not_mem_nil,or_false] at hp
 unfold vR
 rcases hp with rfl | rfl | rfl | rfl <;> simp only [nT,pT,rF,wH] at hw hh ⊢ <;> omega
theorem Me {r b:aE} {l:List aE} (h:ovR r b):dW r (b::l)=dW (nT r b) l+dW (pT r b) l+dW (rF r b) l+dW (wH r b) l:=by
 obtain ⟨h1,h2,h3,h4,h5,h6⟩:=h
 unfold vR at h1 h2
 unfold dW eM
 rw [← Ga,← Ga,← Ga]
 refine Bf fun x _ _=>?_
 rw [← Ga,← Ga,← Ga]
 refine Bf fun y _ _=>?_
 show one (inC r x y&&!(inC b x y || cov l x y))=one (inC (nT r b) x y&&!cov l x y)+one (inC (pT r b) x y&&!cov l x y)+one (inC (rF r b) x y&&!cov l x y)+one (inC (wH r b) x y&&!cov l x y)
 generalize cov l x y=c
 cases c with
 | true=>simp [one]
 | false =>
   simp only [Bool.or_false,Bool.not_false,Bool.and_true]
   have i0:=@pG r x y
   have i5:=@pG b x y
   have i1:=@pG (nT r b) x y
   have i2:=@pG (pT r b) x y
   have i3:=@pG (rF r b) x y
   have i4:=@pG (wH r b) x y
   simp only [nT,pT,rF,wH] at i1 i2 i3 i4
   change inC (nT r b) x y=true↔_ at i1
   change inC (pT r b) x y=true↔_ at i2
   change inC (rF r b) x y=true↔_ at i3
   change inC (wH r b) x y=true↔_ at i4
   generalize inC (nT r b) x y=c1 at *
   generalize inC (pT r b) x y=c2 at *
   generalize inC (rF r b) x y=c3 at *
   generalize inC (wH r b) x y=c4 at *
   generalize inC r x y=c0 at *
   generalize inC b x y=c5 at *
   cases c1 <;> cases c2 <;> cases c3 <;> cases c4 <;> cases c0 <;> cases c5 <;> simp only [one,Bool.and_true,Bool.and_false,Bool.true_and,Bool.false_and,Bool.not_true,Bool.not_false,if_true,Bool.false_eq_true,if_false,true_iff,false_iff] at * <;> omega
theorem nY (r:aE) (l:List aE):0≤dW r l:=sN _
theorem xD (r:aE) (l:List aE):dW r l≤4398046511104:=sM _
theorem Ub (l:List aE) (r:aE):eM MM (cov (l++[r]))=eM MM (cov l)+dW r l:=
 Ns fun x y=>by
  rw [Qj]
  simp only [cov,List.any_cons,List.any_nil,Bool.or_false]
  cases (l.any fun r=>inC r x y) <;> cases inC r x y <;> rfl
end Go.SM
namespace Go.Cells
def DR (s:Int→Int) (a b:Int):Prop:=a<b∧s a≠0∧(∀ z,a≤z→z<b→s z=s a)∧s (a-1)≠s a∧s b≠s a
def CK (s:Int→Int) (l:List (Int×Int)):Prop:=l.Pairwise (fun p q=>p.1<q.1)∧∀ a b,(a,b) ∈ l↔DR s a b
def cut (s:Int→Int) (e:Int):Int→Int:=fun z=>if z<e then s z else 0
section
variable {s:Int→Int} {e e':Int} {l:List (Int×Int)} (h:CK (cut s e) l) (he:e<e') (hs:∀ z,e≤z→z<e'→s z=s e)
include h he hs
end
end Go.Cells
namespace Go.SM
open Go Go.VI Go.Cells
def xsL (l:List aE):List Int:=l.flatMap fun r=>[r.X,r.X+r.W]
def ysL (l:List aE):List Int:=l.flatMap fun r=>[r.Y,r.Y+r.H]
def Ev (g l:List Int):Prop:=g.Pairwise (fun x y=>x<y)∧∀ x,x ∈ g↔x ∈ l
theorem Rx (a b:List aE):xsL (a++b)=xsL a++xsL b:=by simp [xsL]
theorem Ry (a b:List aE):ysL (a++b)=ysL a++ysL b:=by simp [ysL]
theorem BP (l:List aE):(xsL l).length=2*l.length:=by
 induction l with
 | nil=>rfl
 | cons r l ih=>rw [show xsL (r::l)=[r.X,r.X+r.W]++xsL l from rfl,List.length_append,ih];simp;omega
theorem BQ (l:List aE):(ysL l).length=2*l.length:=by
 induction l with
 | nil=>rfl
 | cons r l ih=>rw [show ysL (r::l)=[r.Y,r.Y+r.H]++ysL l from rfl,List.length_append,ih];simp;omega
theorem Nc {r:aE} (h:vR r):aH r.X r.W=r.X+r.W∧aH r.Y r.H=r.Y+r.H:=by
 unfold vR at h
 exact ⟨aM (by omega) (by omega),aM (by omega) (by omega)⟩
theorem Fv {α:Type} {l:List α} {k:Nat} {x:α} (h:l[k]?=some x):l.take (k+1)=l.take k++[x]:=by rw [List.take_add_one,h];rfl
theorem sG {α:Type} {l:List α} {k:Nat} {x d:α} (h:l[k]?=some x):l.getD k d=x:=by rw [List.getD_eq_getElem?_getD,h];rfl
def ps (g:Int→Int) (xs:List Int) (k:Nat):Int:=eX (fun i=>(xs.getD (i+1) 0-xs.getD i 0)*g (xs.getD i 0)) k
theorem Hv (g:Int→Int):∀ xs:List Int,ps g xs (xs.length-1)=rK g xs
 | []=>rfl
 | [_]=>rfl
 | x::y::t=>by
   have ih:=Hv g (y::t)
   unfold ps at ih ⊢
   rw [show (x::y::t).length-1=1+((y::t).length-1) from by simp;omega,Kf]
   simp only [rK]
   rw [← ih]
   congr 1
   ·simp [eX]
   ·refine sD fun k _=>?_
    rw [show 1+k=k+1 from by omega]
    simp
theorem Hk {xs:List Int} (h:xs.Pairwise fun x y=>x<y) {i j:Nat} {x y:Int} (hij:i<j) (hx:xs[i]?=some x) (hy:xs[j]?=some y):x<y:=by
 obtain ⟨a,rfl⟩:=List.getElem?_eq_some_iff.1 hx
 obtain ⟨b,rfl⟩:=List.getElem?_eq_some_iff.1 hy
 exact List.pairwise_iff_getElem.1 h i j a b hij
theorem Jy {xs:List Int} (h:xs.Pairwise fun x y=>x<y) {g:Int→Int} {c:Int} (hc:0≤c) (hg:∀ x,0≤g x∧g x≤c):∀ k,k<xs.length→0≤ps g xs k∧ps g xs k≤c*(xs.getD k 0-xs.getD 0 0)
 | 0,_=>by simp [ps,eX]
 | k+1,hk=>by
   obtain ⟨a1,a2⟩:=Jy h hc hg k (by omega)
   obtain ⟨x,hx⟩:∃ x,xs[k]?=some x:=⟨_,List.getElem?_eq_getElem (by omega)⟩
   obtain ⟨y,hy⟩:∃ y,xs[k+1]?=some y:=⟨_,List.getElem?_eq_getElem hk⟩
   have hxy:=Hk h (Nat.lt_succ_self k) hx hy
   have e:ps g xs (k+1)=ps g xs k+(y-x)*g x:=by
    show eX _ (k+1)=_
    simp only [eX,sG hx,sG hy];rfl
   rw [sG hx] at a2
   rw [e,sG hy]
   obtain ⟨g1,g2⟩:=hg x
   have m1:0≤(y-x)*g x:=Int.mul_nonneg (by omega) g1
   have m2:(y-x)*g x≤(y-x)*c:=Int.mul_le_mul_of_nonneg_left g2 (by omega)
   have m3:c*(y-xs.getD 0 0)=c*(x-xs.getD 0 0)+(y-x)*c:=by grind
   omega
structure Nj (xs:List Int):Prop where
 asc:xs.Pairwise fun x y=>x<y
 within:∀ x ∈ xs,-1048576≤x∧x≤1048576
 len:xs.length≤1000
theorem one_le (b:Bool):0≤one b∧one b≤1:=by cases b <;> decide
theorem Qo {xs:List Int} (h:Nj xs) {g:Int→Int} {c:Int} (hc:0≤c) (hg:∀ x,0≤g x∧g x≤c):0≤rK g xs∧rK g xs≤c*2097152:=by
 rw [← Hv]
 rcases Nat.eq_zero_or_pos xs.length with q | q
 ·rw [List.eq_nil_of_length_eq_zero q]
  have:0≤c*2097152:=Int.mul_nonneg hc (by omega)
  simpa [ps,eX] using this
 ·obtain ⟨b1,b2⟩:=Jy h.asc hc hg (xs.length-1) (by omega)
  obtain ⟨x,hx⟩:∃ x,xs[xs.length-1]?=some x:=⟨_,List.getElem?_eq_getElem (by omega)⟩
  obtain ⟨y,hy⟩:∃ y,xs[0]?=some y:=⟨_,List.getElem?_eq_getElem (by omega)⟩
  rw [sG hx,sG hy] at b2
  have wx:=h.within x (List.mem_of_getElem? hx)
  have wy:=h.within y (List.mem_of_getElem? hy)
  have:c*(x-y)≤c*2097152:=Int.mul_le_mul_of_nonneg_left (by omega) hc
  exact ⟨b1,by omega⟩
theorem Th (g:Int→Int) {l:List Int} {k:Nat} {x y:Int} (hx:l[k]?=some x) (hy:l[k+1]?=some y):ps g l (k+1)=ps g l k+(y-x)*g x:=by
 show eX _ (k+1)=_
 simp only [eX,sG hx,sG hy];rfl
theorem Ft {β:Type} {f:Int→β} {C:Int→Prop} (hf:∀ x z,x≤z→(∀ c,C c→(c≤z↔c≤x))→f z=f x):∀ g:List Int,g.Pairwise (fun x y=>x<y)→(∀ c,C c→(∀ x,g.head?=some x→c<x)∨c ∈ g)→wM f g
 | [],_,_=>trivial
 | [_],_,_=>trivial
 | x::y::t,h,hc=>by
   have hxy:=(List.pairwise_cons.1 h).1 y List.mem_cons_self
   have ht:=(List.pairwise_cons.1 h).2
   refine ⟨hxy,fun z h1 h2=>hf x z h1 fun c hC=>?_,Ft hf (y::t) ht fun c hC=>?_⟩
   ·rcases hc c hC with q | q
    ·have:=q x rfl;omega
    ·rcases List.mem_cons.1 q with rfl | q
     ·omega
     ·rcases List.mem_cons.1 q with rfl | q
      ·omega
      ·have:=(List.pairwise_cons.1 ht).1 c q;omega
   ·rcases hc c hC with q | q
    ·left;intro w hw;simp at hw;subst hw;have:=q x rfl;omega
    ·rcases List.mem_cons.1 q with rfl | q
     ·left;intro w hw;simp at hw;subst hw;exact hxy
     ·exact .inr q
theorem Nf {l:List aE} {r:aE} (h:r ∈ l):r.X ∈ xsL l∧r.X+r.W ∈ xsL l:=by
 unfold xsL
 exact ⟨List.mem_flatMap.2 ⟨r,h,by simp⟩,List.mem_flatMap.2 ⟨r,h,by simp⟩⟩
theorem Ng {l:List aE} {r:aE} (h:r ∈ l):r.Y ∈ ysL l∧r.Y+r.H ∈ ysL l:=by
 unfold ysL
 exact ⟨List.mem_flatMap.2 ⟨r,h,by simp⟩,List.mem_flatMap.2 ⟨r,h,by simp⟩⟩
theorem Ih {α:Type} {l:List α} {f g:α→Bool} (h:∀ x ∈ l,f x=g x):l.any f=l.any g:=by
 induction l with
 | nil=>rfl
 | cons x l ih=>simp only [List.any_cons];rw [h x List.mem_cons_self,ih fun y hy=>h y (List.mem_cons_of_mem _ hy)]
structure Has (xs ys:List Int) (l:List aE):Prop where
 X:Nj xs
 Y:Nj ys
 x:∀ c ∈ xsL l,c ∈ xs
 y:∀ c ∈ ysL l,c ∈ ys
 v:sK l
section
variable {xs ys:List Int} {l:List aE} (h:Has xs ys l)
include h
theorem BJ:wM (fun x=>cov l x) xs:=Ft (C:=fun c=>c ∈ xsL l) (fun x z hxz hC=>funext fun y=>Ih fun r hr=>by
 have h1:=hC _ (Nf hr).1
 have h2:=hC _ (Nf hr).2
 show ((decide (r.X≤z)&&decide (z<r.X+r.W))&&_)=((decide (r.X≤x)&&decide (x<r.X+r.W))&&_)
 rw [show decide (r.X≤z)=decide (r.X≤x) from by simp only [h1],show decide (z<r.X+r.W)=decide (x<r.X+r.W) from by
  have:(z<r.X+r.W)=(x<r.X+r.W):=by apply propext;omega
  simp only [this]]) xs h.X.asc fun c hc=>.inr (h.x c hc)
theorem BK (x:Int):wM (fun y=>cov l x y) ys:=Ft (C:=fun c=>c ∈ ysL l) (fun y z hyz hC=>Ih fun r hr=>by
 have h1:=hC _ (Ng hr).1
 have h2:=hC _ (Ng hr).2
 show (_&&(decide (r.Y≤z)&&decide (z<r.Y+r.H)))=(_&&(decide (r.Y≤y)&&decide (y<r.Y+r.H)))
 rw [show decide (r.Y≤z)=decide (r.Y≤y) from by simp only [h1],show decide (z<r.Y+r.H)=decide (y<r.Y+r.H) from by
  have:(z<r.Y+r.H)=(y<r.Y+r.H):=by apply propext;omega
  simp only [this]]) ys h.Y.asc fun c hc=>.inr (h.y c hc)
theorem Zy {x y:Int} (hc:cov l x y=true):(∃ a ∈ xs,a≤x)∧(∃ a ∈ xs,x<a)∧(∃ a ∈ ys,a≤y)∧(∃ a ∈ ys,y<a):=by
 obtain ⟨r,hr,hb⟩:=List.any_eq_true.1 hc
 rw [pG] at hb
 exact ⟨⟨_,h.x _ (Nf hr).1,hb.1⟩,⟨_,h.x _ (Nf hr).2,hb.2.1⟩,⟨_,h.y _ (Ng hr).1,hb.2.2.1⟩,⟨_,h.y _ (Ng hr).2,hb.2.2.2⟩⟩
omit h in
theorem ends {x0:Int} {t:List Int} (ha:(x0::t).Pairwise fun x y=>x<y):∀ a ∈ x0::t,x0≤a∧a≤(x0::t).getLast (by simp):=fun a m=>by
 constructor
 ·rcases List.mem_cons.1 m with rfl | m
  ·exact Int.le_refl _
  ·exact Int.le_of_lt ((List.pairwise_cons.1 ha).1 a m)
 ·have e:x0::t=(x0::t).dropLast++[(x0::t).getLast (by simp)]:=(List.dropLast_concat_getLast (by simp)).symm
  rw [e,List.pairwise_append] at ha
  rw [e] at m
  rcases List.mem_append.1 m with m | m
  ·exact Int.le_of_lt (ha.2.2 a m _ (by simp))
  ·simp at m;omega
theorem Wc:rK (fun x=>rK (fun y=>one (cov l x y)) ys) xs=eM MM (cov l):=by
 have hx:=BJ h
 have hy:=BK h
 have hi:=@Zy xs ys l h
 have hX:=h.X
 have hY:=h.Y
 clear h
 cases xs with
 | nil =>
   rw [Bh fun x y=>?_]
   ·rfl
   ·cases hc:cov l x y with
    | false=>rfl
    | true=>obtain ⟨⟨a,ha,_⟩,_⟩:=hi hc;simp at ha
 | cons x0 xs =>
   cases ys with
   | nil =>
     rw [Bh fun x y=>?_]
     ·have e:∀ l:List Int,rK (fun _=>rK (fun _=>(0:Int)) []) l=0:=fun l=>by
       have:∀ l:List Int,rK (fun _=>(0:Int)) l=0:=fun l=>by
        induction l with
        | nil=>rfl
        | cons x t ih=>cases t with
          | nil=>rfl
          | cons y t=>simp only [rK,ih];simp
       exact this l
      exact e _
     ·cases hc:cov l x y with
      | false=>rfl
      | true=>obtain ⟨_,_,⟨a,ha,_⟩,_⟩:=hi hc;simp at ha
   | cons y0 ys =>
     have ex:=ends hX.asc
     have ey:=ends hY.asc
     have wx0:=hX.within x0 List.mem_cons_self
     have wy0:=hY.within y0 List.mem_cons_self
     have wx1:=hX.within _ (List.getLast_mem (l:=x0::xs) (by simp))
     have wy1:=hY.within _ (List.getLast_mem (l:=y0::ys) (by simp))
     refine (Ua hx hy (by unfold MM;omega) (by unfold MM;omega) (by unfold MM;omega) (by unfold MM;omega) (fun x y q=>?_) (fun x y q=>?_)).symm
     ·cases hc:cov l x y with
      | false=>rfl
      | true =>
        obtain ⟨⟨a,ha,a1⟩,⟨b,hb,b1⟩,_⟩:=hi hc
        have:=ex a ha
        have:=ex b hb
        omega
     ·cases hc:cov l x y with
      | false=>rfl
      | true =>
        obtain ⟨_,_,⟨a,ha,a1⟩,⟨b,hb,b1⟩⟩:=hi hc
        have:=ey a ha
        have:=ey b hb
        omega
end
theorem Mn {l:List aE} (hv:sK l):(∀ c ∈ xsL l,-1048576≤c∧c≤1048576)∧∀ c ∈ ysL l,-1048576≤c∧c≤1048576:=by
 constructor
 ·intro c hc
  obtain ⟨r,hr,hm⟩:=List.mem_flatMap.1 hc
  have:=hv r hr
  unfold vR at this
  simp at hm
  omega
 ·intro c hc
  obtain ⟨r,hr,hm⟩:=List.mem_flatMap.1 hc
  have:=hv r hr
  unfold vR at this
  simp at hm
  omega
theorem Ls {α:Type} [BEq α] [LawfulBEq α]:∀ {g l:List α},g.Nodup→(∀ x ∈ g,x ∈ l)→g.length≤l.length
 | [],_,_,_=>by simp
 | x::g,l,hn,h=>by
   rw [List.nodup_cons] at hn
   have:=Ls (g:=g) (l:=l.erase x) hn.2 fun y hy=>(List.mem_erase_of_ne (fun e=>hn.1 (by rw [← e];exact hy))).2 (h y (List.mem_cons_of_mem _ hy))
   rw [List.length_erase_of_mem (h x List.mem_cons_self)] at this
   have hp:=List.length_pos_of_mem (h x List.mem_cons_self)
   simp only [List.length_cons];omega
theorem Ac {g l:List Int} (hg:g.Pairwise fun x y=>x<y) (h:∀ x ∈ g,x ∈ l):g.length≤l.length:=by
 have hn:g.Nodup:=hg.imp fun q=>by omega
 exact Ls hn h
theorem CW {xs ys:List Int} {lines l:List aE} (hv:sK lines) (hl:lines.length≤400) (hx:Ev xs (xsL lines)) (hy:Ev ys (ysL lines)) (hs:∀ r ∈ l,r ∈ lines):Has xs ys l:=by
 have w:=Mn hv
 have lx:=Ac hx.1 fun x m=>(hx.2 x).1 m
 have ly:=Ac hy.1 fun x m=>(hy.2 x).1 m
 rw [BP] at lx
 rw [BQ] at ly
 refine ⟨⟨hx.1,fun x m=>w.1 x ((hx.2 x).1 m),by omega⟩,⟨hy.1,fun x m=>w.2 x ((hy.2 x).1 m),by omega⟩,fun c hc=>?_,fun c hc=>?_,fun r hr=>hv r (hs r hr)⟩
 ·obtain ⟨r,hr,hm⟩:=List.mem_flatMap.1 hc
  exact (hx.2 c).2 (List.mem_flatMap.2 ⟨r,hs r hr,hm⟩)
 ·obtain ⟨r,hr,hm⟩:=List.mem_flatMap.1 hc
  exact (hy.2 c).2 (List.mem_flatMap.2 ⟨r,hs r hr,hm⟩)
end Go.SM
namespace Go.SM
open Go Go.VI
def Gp (s0:sE):Int→Option (Int ⊕ (Unit ⊕ Unit)):=fun a0 =>
 if (decide (a0<([s0.X1,s0.Y1,s0.X2,s0.Y2].length:Int))) then ((idx [s0.X1,s0.Y1,s0.X2,s0.Y2] a0).bind fun a1=>(if (decide (a1<(-1048576))) then (some true) else (some (decide (a1>1048576)))).bind fun a2=>if a2 then (some (.inr (.inl ()))) else (some (.inl (aH a0 1)))) else (some (.inr (.inr (()))))
def Dy (s0:sE):Option (Bool):=
 (aJ (Gp s0) 0).bind fun a0=>match a0 with | .inl a1=>some false | .inr a2=>some true
def oB (a1:(List aE)):Int→Option (Int ⊕ (Unit ⊕ Unit)):=fun a0 =>
 if (decide (a0<(a1.length:Int))) then ((idx a1 a0).bind fun a3=>(dH a3).bind fun a2=>if (!a2) then (some (.inr (.inl ()))) else (some (.inl (aH a0 1)))) else (some (.inr (.inr (()))))
def oD (f:Flat):Int→Option (Int ⊕ (Unit ⊕ Unit)):=fun a0 =>
 if (decide (a0<([f.aD,f.bB,f.Forms].length:Int))) then ((idx [f.aD,f.bB,f.Forms] a0).bind fun a1=>if (decide ((a1.length:Int)>48)) then (some (.inr (.inl ()))) else ((aJ (oB a1) 0).bind fun a2=>match a2 with | .inl a3=>some (.inr (.inl ())) | .inr a4=>some (.inl (aH a0 1)))) else (some (.inr (.inr (()))))
def wR (f:Flat):Int→Option (Int ⊕ (Unit ⊕ Unit)):=fun a0 =>
 if (decide (a0<(f.kB.length:Int))) then ((idx f.kB a0).bind fun a2=>(Dy a2.Line).bind fun a1=>if (!a1) then (some (.inr (.inl ()))) else (some (.inl (aH a0 1)))) else (some (.inr (.inr (()))))
def uB (f:Flat):Option (Int):=
 if ((f.aD.length:Int)==0) then (some 1) else ((aJ (oD f) 0).bind fun a0=>match a0 with | .inl a2=>some 1 | .inr a3=>(aJ (wR f) 0).bind fun a1=>match a1 with | .inl a4=>some 1 | .inr a5=>some 0)
def qD (r0:aE):Option (aE):=
 some (aE.mk (aQ (jT r0.Y) r0.H) r0.X r0.H r0.W)
def nO (l:(List aE)):Int×(List aE)→Option (Int×(List aE) ⊕ (List aE)):=fun a0 =>
 if (decide (a0.1<(l.length:Int))) then ((idx l a0.1).bind fun a3=>(qD a3).bind fun a2=>(app a0.2 [a2]).bind fun a1=>some (.inl ((aH a0.1 1),a1))) else (some (.inr a0.2))
def mH (l:(List aE)):Option ((List aE)):=
 (aJ (nO l) (0,[])).bind fun a0=>some a0
def Ao (s0:sE):Option (sE):=
 some (sE.mk (jT s0.Y1) s0.X1 (jT s0.Y2) s0.X2)
def cW (f:Flat):Int×(List jV)→Option (Int×(List jV) ⊕ (List jV)):=fun a0 =>
 if (decide (a0.1<(f.kB.length:Int))) then ((idx f.kB a0.1).bind fun a1=>(Ao a1.Line).bind fun a3=>(app a0.2 [(jV.mk a1.Qe a1.Qf a3 a1.Vs a1.Qd)]).bind fun a2=>some (.inl ((aH a0.1 1),a2))) else (some (.inr a0.2))
def dP (f:Flat):Option (Flat):=
 (mH f.aD).bind fun r7=>(mH f.bB).bind fun r8=>(mH f.Forms).bind fun r9=>(aJ (cW f) (0,[])).bind fun a0=>some (Flat.mk r7 r8 r9 a0)
def tF (f:Flat):Option (Flat):=
 (dP f).bind fun r2=>some r2
def nC (a2:(List aE)):(Int×Int×Int×Int×Int)→Option ((Int×Int×Int×Int×Int) ⊕ (Int×Int×Int×Int)):=fun a0 =>
 if (decide (a0.1<(a2.length:Int))) then ((idx a2 a0.1).bind fun a1=>some (.inl ((aH a0.1 1),(cM a0.2.1 a1.X),(cM a0.2.2.1 a1.Y),(aQ (imax (aH a0.2.1 a0.2.2.2.1) (aH a1.X a1.W)) (cM a0.2.1 a1.X)),(aQ (imax (aH a0.2.2.1 a0.2.2.2.2) (aH a1.Y a1.H)) (cM a0.2.2.1 a1.Y))))) else (some (.inr (a0.2.1,a0.2.2.1,a0.2.2.2.1,a0.2.2.2.2)))
def vZ (l:(List aE)):Option (aE×Int×Int×Int×Int):=
 (idx l 0).bind fun x2=>(slc l 1 (l.length:Int)).bind fun a1=>(aJ (nC a1) (0,x2.X,x2.Y,x2.W,x2.H)).bind fun a0=>some ((aE.mk a0.1 a0.2.1 a0.2.2.1 a0.2.2.2),a0.1,a0.2.1,a0.2.2.1,a0.2.2.2)
def uC (r0:aE) (a_0:Int) (a_1:Int) (a_2:Int) (a_3:Int):Option (aE):=
 some (aE.mk (aQ r0.X a_0) (aQ r0.Y a_1) r0.W r0.H)
def mU (l:(List aE)) (a_0_0_0:Int) (a_0_0_1:Int) (a_0_0_2:Int) (a_0_0_3:Int):Int×(List aE)→Option (Int×(List aE) ⊕ (List aE)):=fun a0 =>
 if (decide (a0.1<(l.length:Int))) then ((idx l a0.1).bind fun a3=>(uC a3 a_0_0_0 a_0_0_1 a_0_0_2 a_0_0_3).bind fun a2=>(app a0.2 [a2]).bind fun a1=>some (.inl ((aH a0.1 1),a1))) else (some (.inr a0.2))
def lL (l:(List aE)) (a_0_0_0:Int) (a_0_0_1:Int) (a_0_0_2:Int) (a_0_0_3:Int):Option ((List aE)):=
 (aJ (mU l a_0_0_0 a_0_0_1 a_0_0_2 a_0_0_3) (0,[])).bind fun a0=>some a0
def Ap (s0:sE) (a_0:Int) (a_1:Int) (a_2:Int) (a_3:Int):Option (sE):=
 some (sE.mk (aQ s0.X1 a_0) (aQ s0.Y1 a_1) (aQ s0.X2 a_0) (aQ s0.Y2 a_1))
def cX (f:Flat) (line_0_0:Int) (line_0_1:Int) (line_0_2:Int) (line_0_3:Int):Int×(List jV)→Option (Int×(List jV) ⊕ (List jV)):=fun a0 =>
 if (decide (a0.1<(f.kB.length:Int))) then ((idx f.kB a0.1).bind fun a1=>(Ap a1.Line line_0_0 line_0_1 line_0_2 line_0_3).bind fun a3=>(app a0.2 [(jV.mk a1.Qe a1.Qf a3 a1.Vs a1.Qd)]).bind fun a2=>some (.inl ((aH a0.1 1),a2))) else (some (.inr a0.2))
def dQ (f:Flat) (rect_0_0:Int) (rect_0_1:Int) (rect_0_2:Int) (rect_0_3:Int) (line_0_0:Int) (line_0_1:Int) (line_0_2:Int) (line_0_3:Int):Option (Flat):=
 (lL f.aD rect_0_0 rect_0_1 rect_0_2 rect_0_3).bind fun r7=>(lL f.bB rect_0_0 rect_0_1 rect_0_2 rect_0_3).bind fun r8=>(lL f.Forms rect_0_0 rect_0_1 rect_0_2 rect_0_3).bind fun r9=>(aJ (cX f line_0_0 line_0_1 line_0_2 line_0_3) (0,[])).bind fun a0=>some (Flat.mk r7 r8 r9 a0)
def tG (f:Flat):Option (Flat×Int):=
 (vZ f.aD).bind fun r2=>(dQ f r2.1.X r2.1.Y r2.1.W r2.1.H r2.1.X r2.1.Y r2.1.W r2.1.H).bind fun r4=>(uB r4).bind fun r8=>if (r8 != 0) then (some ((Flat.mk [] [] [] []),4)) else (some (r4,0))
def mB (turns:Int):(Int×(List aE)×(List aE)×(List aE)×(List jV))→Option ((Int×(List aE)×(List aE)×(List aE)×(List jV)) ⊕ ((List aE)×(List aE)×(List aE)×(List jV))):=fun a0 =>
 if (decide (a0.1<turns)) then ((tF (Flat.mk a0.2.1 a0.2.2.1 a0.2.2.2.1 a0.2.2.2.2)).bind fun a1=>some (.inl ((aH a0.1 1),a1.aD,a1.bB,a1.Forms,a1.kB))) else (some (.inr (a0.2.1,a0.2.2.1,a0.2.2.2.1,a0.2.2.2.2)))
def sZ (f:Flat):Unit→Option (Unit ⊕ Unit):=fun a0 =>
 if (decide (0<(f.kB.length:Int))) then (none) else (some (.inr ()))
def pY (f:Flat) (turns:Int):Option (Flat×Int):=
 (uB f).bind fun r5=>(if (r5 != 0) then (some true) else (if (decide (turns<0)) then (some true) else (some (decide (turns>3))))).bind fun j6=>if j6 then (some ((Flat.mk [] [] [] []),1)) else ((aJ (mB turns) (0,f.aD,f.bB,f.Forms,f.kB)).bind fun a0=>(aJ (sZ f) ()).bind fun a2=>(tG (Flat.mk a0.1 a0.2.1 a0.2.2.1 a0.2.2.2)).bind fun a1=>some (a1.1,a1.2))
def oO (l:(List aE)) (x1:Int) (y:Int) (l2:(List aE)):Int×(List aE)→Option (Int×(List aE) ⊕ (List aE)):=fun a0 =>
 if (decide (a0.1<((cpy l2 (0) (List.take (min l.length (l2.length)) l)).length:Int))) then ((idx a0.2 a0.1).bind fun a4=>(idx a0.2 a0.1).bind fun a1=>(idx (List.set a0.2 (Int.toNat a0.1) (aE.mk (aH a4.X x1) a1.Y a1.W a1.H)) a0.1).bind fun a3=>(idx (List.set a0.2 (Int.toNat a0.1) (aE.mk (aH a4.X x1) a1.Y a1.W a1.H)) a0.1).bind fun a2=>some (.inl ((aH a0.1 1),(List.set (List.set a0.2 (Int.toNat a0.1) (aE.mk (aH a4.X x1) a1.Y a1.W a1.H)) (Int.toNat a0.1) (aE.mk a2.X (aH a3.Y y) a2.W a2.H))))) else (some (.inr a0.2))
def rQ (l:(List aE)) (x1:Int) (y:Int):Option ((List aE)):=
 (mk (l.length:Int) (aE.mk 0 0 0 0)).bind fun l2=>(aJ (oO l x1 y l2) (0,(cpy l2 (0) (List.take (min l.length (l2.length)) l)))).bind fun a0=>some a0
def uL (x0:aL) (at1:aP):Option (aL×Int×ByteArray×ByteArray×Int×Int):=
 (pY (Flat.mk x0.aD x0.bB x0.Forms []) at1.nA).bind fun r2=>if (r2.2 != 0) then (some ((aL.mk ByteArray.empty ByteArray.empty 0 0 [] [] []),4,ByteArray.empty,ByteArray.empty,0,0)) else ((rQ r2.1.aD at1.X at1.Y).bind fun r9=>(rQ r2.1.bB at1.X at1.Y).bind fun a0=>(rQ r2.1.Forms at1.X at1.Y).bind fun a1=>((jE r9).bind fun a3=>if a3 then ((jE a0).bind fun a4=>if a4 then ((jE a1).bind fun a5=>some (!a5)) else (some true)) else (some true)).bind fun a2=>if a2 then (some ((aL.mk ByteArray.empty ByteArray.empty 0 0 [] [] []),4,ByteArray.empty,ByteArray.empty,0,0)) else (some ((aL.mk x0.Name x0.aU x0.bZ x0.bF r9 a0 a1),0,x0.Name,x0.aU,x0.bZ,x0.bF)))
def lN (x0:aL) (at1:aP):Option (aL×Int×ByteArray×ByteArray×Int×Int):=
 (aR x0).bind fun r4=>if (r4 != 0) then (some ((aL.mk ByteArray.empty ByteArray.empty 0 0 [] [] []),r4,ByteArray.empty,ByteArray.empty,0,0)) else ((gI at1.nA 0 3).bind fun r8=>if (!r8) then (some ((aL.mk ByteArray.empty ByteArray.empty 0 0 [] [] []),1,ByteArray.empty,ByteArray.empty,0,0)) else (((gI at1.X (-1048576) 1048576).bind fun a2=>if a2 then ((gI at1.Y (-1048576) 1048576).bind fun a3=>some (!a3)) else (some true)).bind fun a1=>if a1 then (some ((aL.mk ByteArray.empty ByteArray.empty 0 0 [] [] []),4,ByteArray.empty,ByteArray.empty,0,0)) else ((uL x0 at1).bind fun a0=>some ((aL.mk a0.1.Name a0.1.aU a0.1.bZ a0.1.bF a0.1.aD a0.1.bB a0.1.Forms),a0.2.1,a0.1.Name,a0.1.aU,a0.1.bZ,a0.1.bF))))
def lB (a1:Int×(List aE)) (a2:aE):(Int×Int)→Option (Int×(List aE) ⊕ (List aE)):=fun a0 =>
 (app a1.2 [(aE.mk a0.1 a0.2 a2.W a2.H)]).bind fun a3=>some (.inl ((aH a1.1 1),a3))
def iF (l:(List aE)) (x1:Int) (y:Int):Int×(List aE)→Option (Int×(List aE) ⊕ (List aE)):=fun a1 =>
 if (decide (a1.1<(l.length:Int))) then ((idx l a1.1).bind fun a0=>(if (decide (a0.X>(-2147483648))) then (if (decide (a0.X<2147483648)) then (if (decide (a0.Y>(-2147483648))) then (some (decide (a0.Y<2147483648))) else (some false)) else (some false)) else (some false)).bind fun a2=>if a2 then (lB a1 a0 ((aH a0.X x1),(aH a0.Y y))) else (lB a1 a0 (a0.X,a0.Y))) else (some (.inr a1.2))
def gX (l:(List aE)) (x1:Int) (y:Int):Option ((List aE)):=
 (aJ (iF l x1 y) (0,[])).bind fun a0=>some a0
def iO (x0:aL) (dx:Int) (dy:Int):Option (aL):=
 (gX x0.aD dx dy).bind fun r2=>(gX x0.bB dx dy).bind fun r4=>(gX x0.Forms dx dy).bind fun r6=>some (aL.mk x0.Name x0.aU x0.bZ x0.bF r2 r4 r6)
def gG (l:(List aE)):Int×(List aE)→Option (Int×(List aE) ⊕ (List aE)):=fun a0 =>
 if (decide (a0.1<(l.length:Int))) then ((idx l a0.1).bind fun a1=>(app a0.2 [(aE.mk (jT (aH a1.Y a1.H)) a1.X a1.H a1.W)]).bind fun a2=>some (.inl ((aH a0.1 1),a2))) else (some (.inr a0.2))
def fR (l:(List aE)):Option ((List aE)):=
 (aJ (gG l) (0,[])).bind fun a0=>some a0
def eV (turn:Int):(Int×(List aE)×(List aE)×(List aE))→Option ((Int×(List aE)×(List aE)×(List aE)) ⊕ ((List aE)×(List aE)×(List aE))):=fun a0 =>
 if (decide (a0.1<turn)) then ((fR a0.2.1).bind fun a1=>(fR a0.2.2.1).bind fun a2=>(fR a0.2.2.2).bind fun a3=>some (.inl ((aH a0.1 1),a1,a2,a3))) else (some (.inr (a0.2.1,a0.2.2.1,a0.2.2.2)))
def lZ (x0:aL) (turn:Int):Option (aL×ByteArray×ByteArray×Int×Int):=
 (iO x0 0 0).bind fun r2=>(aJ (eV turn) (0,r2.aD,r2.bB,r2.Forms)).bind fun a1=>(fA a1.1).bind fun a2=>(iO (aL.mk r2.Name r2.aU r2.bZ r2.bF a1.1 a1.2.1 a1.2.2) (jT a2.1) (jT a2.2)).bind fun a0=>some (a0,a0.Name,a0.aU,a0.bZ,a0.bF)
def gJ (x0:aL) (at1:aP):Option (aL×Int×ByteArray×ByteArray×Int×Int):=
 (bO x0).bind fun r2=>if (r2 != 0) then (some ((aL.mk ByteArray.empty ByteArray.empty 0 0 [] [] []),r2,ByteArray.empty,ByteArray.empty,0,0)) else ((if (decide (at1.nA<0)) then (some true) else (some (decide (at1.nA>3)))).bind fun j4=>if j4 then (some ((aL.mk ByteArray.empty ByteArray.empty 0 0 [] [] []),1,ByteArray.empty,ByteArray.empty,0,0)) else (((cT at1.X).bind fun a4=>if a4 then ((cT at1.Y).bind fun a5=>some (!a5)) else (some true)).bind fun a2=>if a2 then (some ((aL.mk ByteArray.empty ByteArray.empty 0 0 [] [] []),4,ByteArray.empty,ByteArray.empty,0,0)) else ((lZ x0 at1.nA).bind fun a1=>(iO (aL.mk a1.1.Name a1.1.aU a1.1.bZ a1.1.bF a1.1.aD a1.1.bB a1.1.Forms) at1.X at1.Y).bind fun a0=>((bL a0.aD).bind fun a6=>if a6 then ((bL a0.bB).bind fun a7=>if a7 then ((bL a0.Forms).bind fun a8=>some (!a8)) else (some true)) else (some true)).bind fun a3=>if a3 then (some ((aL.mk ByteArray.empty ByteArray.empty 0 0 [] [] []),4,ByteArray.empty,ByteArray.empty,0,0)) else (some (a0,0,a0.Name,a0.aU,a0.bZ,a0.bF)))))
def sJ (a1:Int×Int):Int→Option ((Int×Int) ⊕ Int):=fun a0 =>
 some (.inl (a0,(aH a1.2 1)))
def kX (self:aE→(List aE)→Option (Int)) (r0:aE) (l:(List aE)) (a6:Int) (a0:aE):(Int×Int)→Option ((Int×Int) ⊕ Int):=fun a1 =>
 if (decide (a1.2<([(aE.mk r0.X r0.Y (aQ (imax r0.X a0.X) r0.X) r0.H),(aE.mk (cM (aH r0.X r0.W) (aH a0.X a0.W)) r0.Y (aQ (aH r0.X r0.W) (cM (aH r0.X r0.W) (aH a0.X a0.W))) r0.H),(aE.mk (imax r0.X a0.X) r0.Y (aQ (cM (aH r0.X r0.W) (aH a0.X a0.W)) (imax r0.X a0.X)) (aQ (imax r0.Y a0.Y) r0.Y)),(aE.mk (imax r0.X a0.X) (cM (aH r0.Y r0.H) (aH a0.Y a0.H)) (aQ (cM (aH r0.X r0.W) (aH a0.X a0.W)) (imax r0.X a0.X)) (aQ (aH r0.Y r0.H) (cM (aH r0.Y r0.H) (aH a0.Y a0.H))))].length:Int))) then ((idx [(aE.mk r0.X r0.Y (aQ (imax r0.X a0.X) r0.X) r0.H),(aE.mk (cM (aH r0.X r0.W) (aH a0.X a0.W)) r0.Y (aQ (aH r0.X r0.W) (cM (aH r0.X r0.W) (aH a0.X a0.W))) r0.H),(aE.mk (imax r0.X a0.X) r0.Y (aQ (cM (aH r0.X r0.W) (aH a0.X a0.W)) (imax r0.X a0.X)) (aQ (imax r0.Y a0.Y) r0.Y)),(aE.mk (imax r0.X a0.X) (cM (aH r0.Y r0.H) (aH a0.Y a0.H)) (aQ (cM (aH r0.X r0.W) (aH a0.X a0.W)) (imax r0.X a0.X)) (aQ (aH r0.Y r0.H) (cM (aH r0.Y r0.H) (aH a0.Y a0.H))))] a1.2).bind fun a2=>(if (decide (a2.W>0)) then (some (decide (a2.H>0))) else (some false)).bind fun a3=>if a3 then ((slc l (aH a6 1) (l.length:Int)).bind fun a4=>(self a2 a4).bind fun a5=>sJ a1 (aH a1.1 a5)) else (sJ a1 a1.1)) else (some (.inr a1.1))
def mJ (self:aE→(List aE)→Option (Int)) (r0:aE) (l:(List aE)):Int→Option (Int ⊕ (Int ⊕ Unit)):=fun a0 =>
 if (decide (a0<(l.length:Int))) then ((idx l a0).bind fun a1=>(lV r0 a1).bind fun a2=>if (!a2) then (some (.inl (aH a0 1))) else ((aJ (kX self r0 l a0 a1) (0,0)).bind fun a3=>some (.inr (.inl a3)))) else (some (.inr (.inr (()))))
def pK (self:aE→(List aE)→Option (Int)) (r0:aE) (l:(List aE)):Option (Int):=
 (aJ (mJ self r0 l) 0).bind fun a1=>match a1 with | .inl a0=>some a0 | .inr a2=>some (rM r0.W r0.H)
def jL:Nat→aE→(List aE)→Option (Int)
 | 0=>fun _ _=>none
 | n+1=>pK (jL n)
def Dc (r0:aE) (l:(List aE)):Option (Int):=jL 1000 r0 l
def qK (l:(List aE)):(Int×Int)→Option ((Int×Int) ⊕ Int):=fun a0 =>
 if (decide (a0.2<(l.length:Int))) then ((idx l a0.2).bind fun a3=>(slc l 0 a0.2).bind fun a1=>(Dc a3 a1).bind fun a2=>some (.inl ((aH a0.1 a2),(aH a0.2 1)))) else (some (.inr a0.1))
def Bw (l:(List aE)):Option (Int):=
 (aJ (qK l) (0,0)).bind fun a0=>some a0
def xQ (s0:aW):Option (Int×Int):=
 (bA s0).bind fun r4=>if (r4 != 0) then (some (0,r4)) else ((app [] s0.aZ).bind fun a0=>(app a0 s0.Used).bind fun a1=>(Bw a1).bind fun a2=>some ((aQ (rM s0.cA s0.bH) a2),0))
def kE (n:Int) (h380:(List Int)):Int→Option (Int ⊕ Int):=fun a0 =>
 (if (decide (a0>0)) then ((idx h380 (aQ a0 1)).bind fun a2=>some (decide (a2>n))) else (some false)).bind fun a1=>if a1 then (some (.inl (aQ a0 1))) else (some (.inr a0))
def kF (a3:Int):Int×(List Int)→Option (Int×(List Int) ⊕ (List Int)):=fun a0 =>
 if (decide (a0.1>a3)) then ((idx a0.2 (aQ a0.1 1)).bind fun a1=>(idx a0.2 a0.1).bind fun a2=>some (.inl ((aQ a0.1 1),(List.set a0.2 (Int.toNat a0.1) a1)))) else (some (.inr a0.2))
def dZ (n:Int) (h380:(List Int)):Option ((List Int)):=
 (aJ (kE n h380) (h380.length:Int)).bind fun a1=>(if (decide (a1>0)) then ((idx h380 (aQ a1 1)).bind fun a5=>some (a5==n)) else (some false)).bind fun a3=>if a3 then (some h380) else ((app h380 [0]).bind fun a2=>(aJ (kF a1) ((aQ (a2.length:Int) 1),a2)).bind fun a0=>(idx a0 a1).bind fun a4=>some (List.set a0 (Int.toNat a1) n))
def jA (l:(List aE)):(Int×(List Int)×(List Int))→Option ((Int×(List Int)×(List Int)) ⊕ ((List Int)×(List Int))):=fun a0 =>
 if (decide (a0.1<(l.length:Int))) then ((idx l a0.1).bind fun a5=>(dZ a5.X a0.2.1).bind fun a1=>(idx l a0.1).bind fun a6=>(idx l a0.1).bind fun a7=>(dZ (aH a6.X a7.W) a1).bind fun a2=>(idx l a0.1).bind fun a8=>(dZ a8.Y a0.2.2).bind fun a3=>(idx l a0.1).bind fun a9=>(idx l a0.1).bind fun b0=>(dZ (aH a9.Y b0.H) a3).bind fun a4=>some (.inl ((aH a0.1 1),a2,a4))) else (some (.inr (a0.2.1,a0.2.2)))
def kP (l:(List aE)):Option ((List Int)×(List Int)):=
 (aJ (jA l) (0,[],[])).bind fun a0=>some (a0.1,a0.2)
def gO (l:(List aE)) (x1:Int) (y:Int):Int→Option (Int ⊕ (Unit ⊕ Unit)):=fun a1 =>
 if (decide (a1<(l.length:Int))) then ((idx l a1).bind fun a0=>(if (decide (a0.X≤x1)) then (if (decide (x1<(aH a0.X a0.W))) then (if (decide (a0.Y≤y)) then (some (decide (y<(aH a0.Y a0.H)))) else (some false)) else (some false)) else (some false)).bind fun a2=>if a2 then (some (.inr (.inl ()))) else (some (.inl (aH a1 1)))) else (some (.inr (.inr (()))))
def jQ (l:(List aE)) (x1:Int) (y:Int):Option (Bool):=
 (aJ (gO l x1 y) 0).bind fun a0=>match a0 with | .inl a1=>some true | .inr a2=>some false
def iY (a1:Int×Int):Int→Option ((Int×Int) ⊕ Int):=fun a0 =>
 some (.inl (a0,(aH a1.2 1)))
def fO (l:(List aE)) (r2:(List Int)×(List Int)) (a1:Int×Int):(Int×Int)→Option ((Int×Int) ⊕ Int):=fun a0 =>
 if (decide ((aH a0.2 1)<(r2.2.length:Int))) then ((idx r2.1 a1.2).bind fun a3=>(idx r2.2 a0.2).bind fun a4=>(jQ l a3 a4).bind fun a2=>if a2 then ((idx r2.1 (aH a1.2 1)).bind fun a5=>(idx r2.1 a1.2).bind fun a6=>(idx r2.2 (aH a0.2 1)).bind fun a7=>(idx r2.2 a0.2).bind fun a8=>iY a0 (aH a0.1 (rM (aQ a5 a6) (aQ a7 a8)))) else (iY a0 a0.1)) else (some (.inr a0.1))
def fP (l:(List aE)) (r2:(List Int)×(List Int)):(Int×Int)→Option ((Int×Int) ⊕ Int):=fun a0 =>
 if (decide ((aH a0.2 1)<(r2.1.length:Int))) then ((aJ (fO l r2 a0) (a0.1,0)).bind fun a1=>some (.inl (a1,(aH a0.2 1)))) else (some (.inr a0.1))
def iN (l:(List aE)):Option (Int):=
 (kP l).bind fun r2=>(aJ (fP l r2) (0,0)).bind fun a0=>some a0
def iQ (s0:aW):Option (Int):=
 (app [] s0.aZ).bind fun l7=>(app l7 s0.Used).bind fun l8=>(iN l8).bind fun r9=>some (aQ (rM s0.cA s0.bH) r9)
def lP (b:(List aE)) (a2:aE):Int→Option (Int ⊕ (Unit ⊕ Unit)):=fun a0 =>
 if (decide (a0<(b.length:Int))) then ((idx b a0).bind fun a3=>(lV a2 a3).bind fun a1=>if a1 then (some (.inr (.inl ()))) else (some (.inl (aH a0 1)))) else (some (.inr (.inr (()))))
def lQ (a:(List aE)) (b:(List aE)):Int→Option (Int ⊕ (Unit ⊕ Unit)):=fun a0 =>
 if (decide (a0<(a.length:Int))) then ((idx a a0).bind fun a1=>(aJ (lP b a1) 0).bind fun a2=>match a2 with | .inl a3=>some (.inr (.inl ())) | .inr a4=>some (.inl (aH a0 1))) else (some (.inr (.inr (()))))
def oQ (a:(List aE)) (b:(List aE)):Option (Bool):=
 (aJ (lQ a b) 0).bind fun a0=>match a0 with | .inl a1=>some true | .inr a2=>some false
def wO:(Int×Int)→Option (Int):=fun j3 =>
 (Dh (ByteArray.mk #[0,1,2,2,3,3,3,3,4,4,4,4,4,4,4,4,5,5,5,5,5,5,5,5,5,5,5,5,5,5,5,5,6,6,6,6,6,6,6,6,6,6,6,6,6,6,6,6,6,6,6,6,6,6,6,6,6,6,6,6,6,6,6,6,7,7,7,7,7,7,7,7,7,7,7,7,7,7,7,7,7,7,7,7,7,7,7,7,7,7,7,7,7,7,7,7,7,7,7,7,7,7,7,7,7,7,7,7,7,7,7,7,7,7,7,7,7,7,7,7,7,7,7,7,7,7,7,7,8,8,8,8,8,8,8,8,8,8,8,8,8,8,8,8,8,8,8,8,8,8,8,8,8,8,8,8,8,8,8,8,8,8,8,8,8,8,8,8,8,8,8,8,8,8,8,8,8,8,8,8,8,8,8,8,8,8,8,8,8,8,8,8,8,8,8,8,8,8,8,8,8,8,8,8,8,8,8,8,8,8,8,8,8,8,8,8,8,8,8,8,8,8,8,8,8,8,8,8,8,8,8,8,8,8,8,8,8,8,8,8,8,8,8,8,8,8,8,8,8,8,8,8,8,8,8,8]) (IntKind.wrap .u8 j3.1)).bind fun x5=>some (aH j3.2 (IntKind.wrap .i64 x5))
def wP:(Int×Int)→Option (Int):=fun j2 =>
 if (decide (j2.1 ≥ 256)) then (wO ((Int.fdiv j2.1 (2^(min (Int.toNat 8) 64))),(aH j2.2 8))) else (wO (j2.1,j2.2))
def wQ:(Int×Int)→Option (Int):=fun j1 =>
 if (decide (j1.1 ≥ 65536)) then (wP ((Int.fdiv j1.1 (2^(min (Int.toNat 16) 64))),(aH j1.2 16))) else (wP (j1.1,j1.2))
def Io (x0:Int):Option (Int):=
 if (decide (x0 ≥ 4294967296)) then (wQ ((Int.fdiv x0 (2^(min (Int.toNat 32) 64))),32)) else (wQ (x0,0))
def Im (x0:Int):Option (Int):=
 (Io x0).bind fun r2=>some r2
def Cc (x0:Int):Option (Bool):=
 some (x0 != x0)
def jX (a1:Int×Int×(List Int)):Int×(List Int)→Option (Int×Int×(List Int) ⊕ Int×(List Int)):=fun a0 =>
 some (.inl (a0.1,(aH a1.2.1 1),a0.2))
def uU (h380:(List Int)) (a1:Int):Int×Int×(List Int)→Option (Int×Int×(List Int) ⊕ Int×(List Int)):=fun a0 =>
 if (decide (a0.2.1<((Int.toNat (h380.length:Int)-Int.toNat a1:Nat):Int))) then ((idx (List.take (Int.toNat (h380.length:Int)-Int.toNat a1) (List.drop (Int.toNat a1) a0.2.2)) a0.2.1).bind fun a2=>(idx (List.take (Int.toNat (h380.length:Int)-Int.toNat a1) (List.drop (Int.toNat a1) a0.2.2)) (aQ a0.2.1 1)).bind fun a3=>if (a2 != a3) then ((idx (List.take (Int.toNat (h380.length:Int)-Int.toNat a1) (List.drop (Int.toNat a1) a0.2.2)) a0.2.1).bind fun a4=>(idx a0.2.2 a0.1).bind fun a5=>jX a0 ((aH a0.1 1),(List.set a0.2.2 (Int.toNat a0.1) a4))) else (jX a0 (a0.1,a0.2.2))) else (some (.inr (a0.1,a0.2.2)))
def uV (h380:(List Int)):Int→Option (Int ⊕ ((List Int) ⊕ Unit)):=fun a1 =>
 if (decide (a1<(h380.length:Int))) then ((idx h380 a1).bind fun a3=>(idx h380 (aQ a1 1)).bind fun a4=>if (a3==a4) then (if (decide ((0:Int)≤a1)&&(decide (a1≤(h380.length:Int))&&decide ((h380.length:Int)≤(h380.length:Int)))) then ((aJ (uU h380 a1) (a1,1,h380)).bind fun a0=>if (decide ((0:Int)≤a0.1)&&(decide (a0.1≤(a0.2.length:Int))&&decide ((a0.2.length:Int)≤(a0.2.length:Int)))) then ((slc (cpy a0.2 (Int.toNat a0.1) (List.replicate (Int.toNat (a0.2.length:Int)-Int.toNat a0.1) 0)) 0 a0.1).bind fun a2=>some (.inr (.inl a2))) else none) else none) else (some (.inl (aH a1 1)))) else (some (.inr (.inr (()))))
def pV (h380:(List Int)):Option ((List Int)):=
 if (decide ((h380.length:Int)<2)) then (some h380) else ((aJ (uV h380) 1).bind fun a1=>match a1 with | .inl a0=>some a0 | .inr a2=>some h380)
end Go.SM
namespace Go.VI
theorem Su {S R:Type} (μ:S→Nat) (I:S→Prop) (Q:R→Prop) (body:S→Option (S ⊕ R))
  (step:∀ s,I s→(∃ s',body s=some (.inl s')∧I s'∧μ s'<μ s)∨(∃ r,body s=some (.inr r)∧Q r)):∀ s,I s→∃ r,aJ body s=some r∧Q r:=by
 have key:∀ (n:Nat) s,μ s<n→I s→∃ r,aJ body s=some r∧Q r:=by
  intro n
  induction n with
  | zero=>intro s h;exact absurd h (Nat.not_lt_zero _)
  | succ n ih =>
    intro s h hs
    rcases step s hs with ⟨s',e,hs',hm⟩ | ⟨r,e,hr⟩
    ·rw [gA e];exact ih s' (by omega) hs'
    ·exact ⟨r,dF e,hr⟩
 exact fun s hs=>key (μ s+1) s (Nat.lt_succ_self _) hs
section
variable {α:Type} (d:α)
def gz (l:List α) (i:Int):α:=l.getD i.toNat d
theorem Xd {l:List α} {i k:Int} (hi:0≤i) (hk:0≤k) (h:i<l.length) (v:α):gz d (l.set i.toNat v) k=if k=i then v else gz d l k:=by
 unfold gz
 rw [List.getD_eq_getElem?_getD,List.getD_eq_getElem?_getD,List.getElem?_set]
 by_cases e:k=i
 ·subst e
  rw [if_pos rfl,if_pos (by omega),if_pos rfl];rfl
 ·rw [if_neg (by omega),if_neg e]
def sw (l:List α) (i j:Int):List α:=(l.set i.toNat (gz d l j)).set j.toNat (gz d l i)
theorem DN (l:List α) (i j:Int):(sw d l i j).length=l.length:=by simp [sw]
theorem BX {l:List α} {i j k:Int} (hi:0≤i) (hj:0≤j) (hk:0≤k) (h1:i<l.length) (h2:j<l.length):gz d (sw d l i j) k=if k=j then gz d l i else if k=i then gz d l j else gz d l k:=by
 unfold sw
 rw [Xd d hj hk (by rw [List.length_set];exact h2),Xd d hi hk h1]
inductive On (a b:Int):List α→List α→Prop
 | refl (l:List α):On a b l l
 | step {l l':List α} (h:On a b l l') (i j:Int) (hi:a≤i) (hi':i<b) (hj:a≤j) (hj':j<b) (ha:0≤a) (hb:b≤l'.length):On a b l (sw d l' i j)
theorem On.len {a b:Int} {l l':List α} (h:On d a b l l'):l'.length=l.length:=by
 induction h with
 | refl=>rfl
 | step h i j _ _ _ _ _ _ ih=>rw [DN,ih]
theorem On.trans {a b:Int} {l l' l'':List α} (h:On d a b l l') (h':On d a b l' l''):On d a b l l'':=by
 induction h' with
 | refl=>exact h
 | step _ i j hi hi' hj hj' ha hb ih=>exact .step ih i j hi hi' hj hj' ha hb
theorem On.mono {a b a' b':Int} {l l':List α} (h:On d a b l l') (h0:0≤a') (h1:a'≤a) (h2:b≤b') (h3:b'≤l.length):On d a' b' l l':=by
 induction h with
 | refl=>exact .refl _
 | step h i j hi hi' hj hj' ha hb ih=>exact .step ih i j (by omega) (by omega) (by omega) (by omega) h0 (by rw [h.len];exact h3)
theorem On.out {a b:Int} {l l':List α} (h:On d a b l l') {k:Int} (hk:0≤k) (hk':k<a∨b≤k):gz d l' k=gz d l k:=by
 induction h with
 | refl=>rfl
 | step h i j hi hi' hj hj' ha hb ih =>
   rw [BX d (by omega) (by omega) hk (by omega) (by omega),if_neg (by omega),if_neg (by omega),ih]
theorem On.all {a b:Int} {l l':List α} (h:On d a b l l') (Q:α→Prop) (hq:∀ k,a≤k→k<b→Q (gz d l k)):∀ k,a≤k→k<b→Q (gz d l' k):=by
 induction h with
 | refl=>exact hq
 | step h i j hi hi' hj hj' ha hb ih =>
   intro k h1 h2
   rw [BX d (by omega) (by omega) (by omega) (by omega) (by omega)]
   split
   ·exact ih i hi hi'
   ·split
    ·exact ih j hj hj'
    ·exact ih k h1 h2
structure DT (lt:α→α→Bool):Prop where
 asymm:∀ x y,lt x y=true→lt y x=false
 neg:∀ x y z,lt x z=true→lt x y=true∨lt y z=true
theorem DT.le_trans {lt:α→α→Bool} (w:DT lt) {x y z:α} (h1:lt y x=false) (h2:lt z y=false):lt z x=false:=by
 cases h:lt z x with
 | false=>rfl
 | true=>rcases w.neg z y x h with q | q <;> simp_all
end
end Go.VI
namespace Go.SM
open Go Go.VI Go.Cells
theorem Br {l:List Int} (h:l.Pairwise fun x y=>x<y) (hl:l.length≤10000) (n:Int) :
  ∃ r,dZ n l=some r∧r.Pairwise (fun x y=>x<y)∧(∀ x,x ∈ r↔x ∈ l∨x=n)∧r.length≤l.length+1:=by
 obtain ⟨i',q1,i,rfl,hi,ha,hb⟩:=Su (fun s:Int=>s.toNat)
  (fun s:Int=>∃ k:Nat,s=k∧k≤l.length∧∀ x ∈ l.drop k,n<x)
  (fun r:Int=>∃ k:Nat,r=k∧k≤l.length∧(∀ x ∈ l.drop k,n<x)∧(0<k→∀ y,l[k-1]?=some y→y≤n)) (kE n l) (by
   rintro s ⟨k,rfl,hk,hI⟩
   unfold kE
   by_cases h0:0<k
   ·obtain ⟨x,hx⟩:∃ x,l[k-1]?=some x:=⟨_,List.getElem?_eq_getElem (by omega)⟩
    have e1:aQ (k:Int) 1=((k-1:Nat):Int):=by rw [bP (by omega) (by omega)];omega
    have d:decide ((k:Int)>0)=true:=by simp;omega
    simp only [d,if_true,e1,aX hx,Option.bind_some]
    by_cases hg:x>n
    ·left
     refine ⟨((k-1:Nat):Int),by simp [hg],⟨k-1,rfl,by omega,fun y hy=>?_⟩,by omega⟩
     rw [List.drop_eq_getElem_cons (show k-1<l.length by omega),show k-1+1=k by omega] at hy
     rcases List.mem_cons.1 hy with rfl | hy
     ·rw [List.getElem?_eq_getElem (by omega)] at hx;injection hx with hx;rw [hx];exact hg
     ·exact hI y hy
    ·right
     refine ⟨(k:Int),by simp [hg],k,rfl,hk,hI,fun _ y hy=>?_⟩
     rw [hx] at hy;injection hy with hy;omega
   ·right
    have d:decide ((k:Int)>0)=false:=by simp;omega
    exact ⟨(k:Int),by simp only [d,Bool.false_eq_true,if_false,Option.bind_some],k,rfl,hk,hI,fun q=>absurd q h0⟩) (l.length:Int) ⟨l.length,rfl,Nat.le_refl _,by simp⟩
 unfold dZ
 rw [q1,Option.bind_some]
 have hj:∃ b:Bool,(if decide ((i:Int)>0) then (idx l (aQ (i:Int) 1)).bind (fun x48=>some (x48==n)) else some false)=some b∧(b=true↔0<i∧l[i-1]?=some n):=by
  by_cases h0:0<i
  ·obtain ⟨x,hx⟩:∃ x,l[i-1]?=some x:=⟨_,List.getElem?_eq_getElem (by omega)⟩
   have e1:aQ (i:Int) 1=((i-1:Nat):Int):=by rw [bP (by omega) (by omega)];omega
   have d:decide ((i:Int)>0)=true:=by simp;omega
   refine ⟨x==n,by simp only [d,if_true,e1,aX hx,Option.bind_some], ?_⟩
   rw [beq_iff_eq,hx]
   exact ⟨fun q=>⟨h0,by rw [q]⟩,fun q=>Option.some.inj q.2⟩
  ·have d:decide ((i:Int)>0)=false:=by simp;omega
   exact ⟨false,by simp only [d,Bool.false_eq_true,if_false],by simp;omega⟩
 obtain ⟨b,hj1,hj2⟩:=hj
 rw [hj1,Option.bind_some]
 cases b with
 | true =>
   obtain ⟨h0,hn⟩:=hj2.1 rfl
   refine ⟨l,rfl,h,fun x=>⟨.inl,fun q=>q.elim id fun e=>by rw [e];exact List.mem_of_getElem? hn⟩,by omega⟩
 | false =>
   have hnot:¬ (0<i∧l[i-1]?=some n):=fun q=>by have:=hj2.2 q;cases this
   rw [if_neg (by simp),pM (by simp [LIM];omega)]
   have hlen:aQ ((l++[0]).length:Int) 1=(l.length:Int):=by rw [List.length_append,List.length_singleton,bP (by omega) (by omega)];omega
   obtain ⟨r,t1,z,rfl⟩:=Su (fun s:Int×List Int=>(s.1-(i:Int)).toNat)
    (fun s:Int×List Int=>∃ j:Nat,s.1=j∧i≤j∧j≤l.length∧∃ z,s.2=l.take j++z::l.drop j)
    (fun r:List Int=>∃ z,r=l.take i++z::l.drop i) (kF (i:Int)) (by
     rintro ⟨s,c⟩ ⟨j,hs,hij,hjl,z,hc⟩
     simp only at hs hc
     subst hs hc
     unfold kF
     by_cases hg:i<j
     ·left
      have d:decide ((j:Int)>(i:Int))=true:=by simp;omega
      have e1:aQ (j:Int) 1=((j-1:Nat):Int):=by rw [bP (by omega) (by omega)];omega
      have ht:(l.take j).length=j:=by rw [List.length_take];omega
      have g1:(l.take j++z::l.drop j)[j-1]?=some (l[j-1]'(by omega)):=by
       rw [List.getElem?_append_left (by omega),List.getElem?_take,if_pos (by omega),List.getElem?_eq_getElem (by omega)]
      have g2:(l.take j++z::l.drop j)[j]?=some z:=by rw [List.getElem?_append_right (by omega),ht];simp
      simp only [d,if_true,e1,aX g1,aX g2,Option.bind_some,Int.toNat_natCast]
      refine ⟨_,rfl,⟨j-1,rfl,by omega,by omega,l[j-1]'(by omega), ?_⟩,by simp only;omega⟩
      simp only
      rw [List.set_append_right _ _ (by omega),ht]
      have e2:l.take j=l.take (j-1)++[l[j-1]'(by omega)]:=by
       conv=>lhs;rw [show j=(j-1)+1 by omega]
       rw [List.take_add_one,List.getElem?_eq_getElem (by omega)];rfl
      have e3:l.drop (j-1)=l[j-1]'(by omega)::l.drop j:=by
       rw [List.drop_eq_getElem_cons (show j-1<l.length by omega),show j-1+1=j by omega]
      rw [e2,e3,Nat.sub_self,List.set_cons_zero,List.append_assoc];rfl
     ·right
      have d:decide ((j:Int)>(i:Int))=false:=by simp;omega
      obtain rfl:j=i:=by omega
      exact ⟨l.take j++z::l.drop j,by simp only [d,Bool.false_eq_true,if_false],z,rfl⟩) (aQ ((l++[0]).length:Int) 1,l++[0]) ⟨l.length,hlen,hi,Nat.le_refl _,0,by simp⟩
   have ht:(l.take i).length=i:=by rw [List.length_take];omega
   have g2:(l.take i++z::l.drop i)[i]?=some z:=by rw [List.getElem?_append_right (by omega),ht];simp
   have e4:(l.take i++z::l.drop i).set i n=l.take i++n::l.drop i:=by rw [List.set_append_right _ _ (by omega),ht];simp
   simp only [Option.bind_some,t1,aX g2,Int.toNat_natCast,e4]
   have hlow:∀ x ∈ l.take i,x<n:=fun x hx=>by
    rcases Nat.eq_zero_or_pos i with q | q
    ·subst q;simp at hx
    ·obtain ⟨y,hy⟩:∃ y,l[i-1]?=some y:=⟨_,List.getElem?_eq_getElem (by omega)⟩
     have hyn:y<n:=by
      have h1:=hb q y hy
      have h2:y≠n:=fun e=>hnot ⟨q,by rw [hy,e]⟩
      omega
     obtain ⟨k,hk⟩:=List.mem_iff_getElem?.1 hx
     have hkl:=pR hk
     rw [List.getElem?_take,if_pos (by omega)] at hk
     by_cases e:k=i-1
     ·subst e;rw [hy] at hk;injection hk with hk;omega
     ·have:=Hk h (show k<i-1 by omega) hk hy;omega
   refine ⟨_,rfl, ?_,fun x=>?_,by rw [List.length_append,List.length_cons,List.length_take,List.length_drop];omega⟩
   ·have hp:=h
    rw [← List.take_append_drop i l,List.pairwise_append] at hp
    rw [List.pairwise_append,List.pairwise_cons]
    refine ⟨hp.1,⟨ha,hp.2.1⟩,fun x hx y hy=>?_⟩
    rcases List.mem_cons.1 hy with rfl | hy
    ·exact hlow x hx
    ·exact hp.2.2 x hx y hy
   ·conv=>rhs;rw [← List.take_append_drop i l]
    simp only [List.mem_append,List.mem_cons]
    grind
theorem Zg {l:List aE} (hv:sK l) (hl:l.length≤400):∃ xs ys,kP l=some (xs,ys)∧Ev xs (xsL l)∧Ev ys (ysL l):=by
 obtain ⟨⟨xs,ys⟩,q1,⟨gx1,gx2⟩,⟨gy1,gy2⟩,lx,ly⟩:=Xo l (fun k (s:List Int×List Int)=>((k:Int),s.1,s.2)) (jA l) (fun s=>(s.1,s.2)) (fun k s=>Ev s.1 (xsL (l.take k))∧Ev s.2 (ysL (l.take k))∧s.1.length≤2*k∧s.2.length≤2*k) ([],[])
  ⟨⟨.nil,by simp [xsL]⟩,⟨.nil,by simp [ysL]⟩,by simp,by simp⟩
  (fun k r s hr hI=>by
   obtain ⟨⟨a1,a2⟩,⟨b1,b2⟩,la,lb⟩:=hI
   have h1:=pR hr
   have hd:decide ((k:Int)<(l.length:Int))=true:=by simp [h1]
   obtain ⟨e1,e2⟩:=Nc (hv r (List.mem_of_getElem? hr))
   obtain ⟨c1,i1,p1,m1,n1⟩:=Br a1 (by omega) r.X
   obtain ⟨c2,i2,p2,m2,n2⟩:=Br p1 (by omega) (r.X+r.W)
   obtain ⟨c3,i3,p3,m3,n3⟩:=Br b1 (by omega) r.Y
   obtain ⟨c4,i4,p4,m4,n4⟩:=Br p3 (by omega) (r.Y+r.H)
   unfold jA
   simp only [hd,if_true,aX hr,Option.bind_some,e1,e2,i1,i2,i3,i4,fB k (by omega)]
   refine ⟨(c2,c4),rfl,⟨p2,fun x=>?_⟩,⟨p4,fun x=>?_⟩,by simp only;omega,by simp only;omega⟩
   ·rw [m2,m1,a2,Fv hr,Rx]
    simp [xsL,or_assoc]
   ·rw [m4,m3,b2,Fv hr,Ry]
    simp [ysL,or_assoc]) (fun s _=>by simp [jA])
 rw [List.take_length] at gx2 gy2
 simp only at gx1 gx2 gy1 gy2
 refine ⟨xs,ys, ?_,⟨gx1,gx2⟩,⟨gy1,gy2⟩⟩
 unfold kP
 rw [show ((0:Int),([]:List Int),([]:List Int))=(((0:Nat):Int),(([],[]):List Int×List Int).1,(([],[]):List Int×List Int).2) from rfl,q1]
 rfl
end Go.SM
namespace Go.SM
open Go Go.VI
theorem Xr {s sub:List UInt8} {i:Nat} (hne:sub≠[]) (h:Go.Lib.occAt s sub i=true):i+sub.length≤s.length:=by
 rcases Go.Lib.occAt_room h with h' | h'
 ·omega
 ·exact absurd h' hne
theorem Is {s sub:List UInt8} (hne:sub≠[]):Go.Lib.contains s sub=(List.range (s.length+1-sub.length)).any (Go.Lib.occAt s sub):=by
 unfold Go.Lib.contains
 rcases Go.Lib.index_spec s sub with ⟨h1,h2⟩ | ⟨i,h1,h2,h3,h4⟩
 ·rw [h1]
  have:(List.range (s.length+1-sub.length)).any (Go.Lib.occAt s sub)=false:=by
   rw [List.any_eq_false];intro j hj
   rw [h2 j (by have:=List.mem_range.1 hj;omega)];simp
  rw [this];rfl
 ·rw [h1]
  have:(List.range (s.length+1-sub.length)).any (Go.Lib.occAt s sub)=true:=List.any_eq_true.2 ⟨i,List.mem_range.2 (by have:=Xr hne h3;omega),h3⟩
  rw [this];simp
theorem Hx {a b:ByteArray} (h:a.size+b.size≤9223372036854775807):Hf a b=some (a++b):=by unfold Hf;rw [if_pos h]
theorem Uo (T s1:ByteArray) (hT:T.size<4294967281) (hs:s1.size≤8):jP T s1=some (Go.Lib.contains T.data.toList ((ByteArray.mk #[32]++s1)++ByteArray.mk #[32]).data.toList):=by
 have hsz:((ByteArray.mk #[32]++s1)++ByteArray.mk #[32]).size=s1.size+2:=by
  rw [ByteArray.size_append,ByteArray.size_append];show 1+s1.size+1=_;omega
 have hsub:s1.size+2=((ByteArray.mk #[32]++s1)++ByteArray.mk #[32]).data.toList.length:=by rw [← hsz];rfl
 have hne:((ByteArray.mk #[32]++s1)++ByteArray.mk #[32]).data.toList≠[]:=by
  intro h;rw [h] at hsub;simp at hsub
 have e1:Hf (ByteArray.mk #[32]) s1=some (ByteArray.mk #[32]++s1):=Hx (by show 1+s1.size≤_;omega)
 have e2:Hf (ByteArray.mk #[32]++s1) (ByteArray.mk #[32])=some ((ByteArray.mk #[32]++s1)++ByteArray.mk #[32]):=Hx (by rw [ByteArray.size_append];show 1+s1.size+1≤_;omega)
 generalize (ByteArray.mk #[32]++s1)++ByteArray.mk #[32]=W at hsz hsub hne e2 ⊢
 rw [Is hne]
 have hTl:T.data.toList.length=T.size:=rfl
 have key:aJ (eS T s1) 0=some (if (List.range (T.data.toList.length+1-W.data.toList.length)).any (Go.Lib.occAt T.data.toList W.data.toList) then .inl () else .inr ()):=by
  refine mD _ (eS T s1) (fun k=>(k:Int)) _ _ _ rfl (fun k hk=>?_) ?_
  ·unfold eS
   rw [hTl,← hsub] at hk
   rw [aM (a:=(k:Int)) (by omega) (by omega),aM (b:=2) (by omega) (by omega)]
   have h1:decide ((k:Int)+(s1.size:Int)+2≤(T.size:Int))=true:=by simp;omega
   simp only [h1,if_true]
   have e3:Yv T k ((k:Int)+(s1.size:Int)+2)=some (T.extract k (k+W.size)):=by
    unfold Yv
    rw [if_pos (by omega)]
    have:((k:Int)+(s1.size:Int)+2).toNat=k+W.size:=by omega
    rw [this];simp
   rw [e3]
   simp only [Option.bind_some,e1,e2]
   rw [Go.Lib.occ_of_piece T W k (by omega),aM (a:=(k:Int)) (by omega) (by omega)]
   cases (T.extract k (k+W.size)).toList==W.toList <;> simp
  ·unfold eS
   rw [hTl,← hsub]
   rw [aM (b:=(s1.size:Int)) (by omega) (by omega),aM (b:=2) (by omega) (by omega)]
   have h1:decide (((T.size+1-(s1.size+2):Nat):Int)+(s1.size:Int)+2≤(T.size:Int))=false:=by simp;omega
   simp only [h1];rfl
 unfold jP
 rw [key]
 cases (List.range (T.data.toList.length+1-W.data.toList.length)).any (Go.Lib.occAt T.data.toList W.data.toList) <;> rfl
def CP (x:Int):Bool:=decide (¬ (97≤x∧x≤122)∧(x<48∨x>57))
theorem Mw {s:ByteArray} {k:Nat} (h:k<s.size):Dh s (k:Int)=some ((s[k].toNat:Nat):Int):=by
 unfold Dh
 rw [if_pos (Int.natCast_nonneg k),Int.toNat_natCast]
 simp [h]
def CQ (s:ByteArray):Bool:=(List.range s.size).any fun k=>if h:k<s.size then CP s[k].toNat else false
theorem Us (s:ByteArray) (hs:s.size≤8):aJ (kO s) 0=some (if CQ s then .inl () else .inr ()):=by
 refine mD s.size (kO s) (fun k=>(k:Int)) _ _ _ rfl (fun k hk=>?_) ?_
 ·unfold kO
  have h1:decide ((k:Int)<(s.size:Int))=true:=by simp;omega
  simp only [h1,if_true,Mw hk,Option.bind_some,dif_pos hk]
  rw [aM (a:=(k:Int)) (by omega) (by omega)]
  generalize ((s[k].toNat:Nat):Int)=x
  unfold CP
  by_cases q1:x<97
  ·have:¬ (97≤x∧x≤122):=by omega
   by_cases q2:x<48
   ·simp [q1,q2]
   ·by_cases q3:x>57 <;> simp [q1,q2,q3]
  ·by_cases q4:x>122
   ·have q5:¬ x<48:=by omega
    have q6:x>57:=by omega
    simp [q1,q4,q5,q6]
   ·simp [q1,q4]
 ·simp [kO]
theorem Ri (s:ByteArray) (hs:s.size≤8):aJ (eC s) 0=some (if CQ s then .inl () else .inr ()):=by
 refine mD s.size (eC s) (fun k=>(k:Int)) _ _ _ rfl (fun k hk=>?_) ?_
 ·unfold eC
  have h1:decide ((k:Int)<(s.size:Int))=true:=by simp;omega
  simp only [h1,if_true,Mw hk,Option.bind_some,dif_pos hk]
  rw [aM (a:=(k:Int)) (by omega) (by omega)]
  generalize ((s[k].toNat:Nat):Int)=x
  unfold CP
  by_cases q1:x ≥ 97
  ·by_cases q4:x≤122
   ·simp [q1,q4]
   ·have q5:¬ x<48:=by omega
    have q6:x>57:=by omega
    simp [q1,q4,q5,q6]
  ·by_cases q2:x<48
   ·simp [q1,q2]
   ·by_cases q3:x>57 <;> simp [q1,q2,q3]
 ·simp [eC]
theorem kG (s:ByteArray):∃ b,eO s=some b∧cG s=some b:=by
 unfold eO cG lY lA
 by_cases h1:(s.size:Int)<1
 ·exact ⟨false,by simp [h1],by simp [show ¬ (s.size:Int) ≥ 1 by omega]⟩
 by_cases h2:(s.size:Int)>8
 ·exact ⟨false,by simp [h1,h2],by simp [show (s.size:Int) ≥ 1 by omega,show ¬ (s.size:Int)≤8 by omega]⟩
 have g1:(s.size:Int) ≥ 1:=by omega
 have g2:(s.size:Int)≤8:=by omega
 have e0:Dh s 0=some ((s[0]'(by omega)).toNat:Int):=Mw (k:=0) (by omega)
 generalize ((s[0]'(by omega)).toNat:Int)=x at e0
 by_cases h3:x<97
 ·exact ⟨false,by simp [h1,h2,e0,h3],by simp only [g1,g2,decide_true,if_true,Option.bind_some,e0,h3]⟩
 by_cases h4:x>122
 ·exact ⟨false,by simp [h1,h2,e0,h3,h4],by simp only [g1,g2,decide_true,if_true,Option.bind_some,e0,h3,h4,decide_false,Bool.false_eq_true,if_false]⟩
 simp only [g1,g2,h1,h2,h3,h4,decide_true,decide_false,if_true,Bool.false_eq_true,if_false,Option.bind_some,e0,Us s (by omega),Ri s (by omega)]
 cases CQ s with
 | true=>exact ⟨false,rfl,rfl⟩
 | false =>
   have e1:Hf (ByteArray.mk #[32]) s=some (ByteArray.mk #[32]++s):=Hx (by show 1+s.size≤_;omega)
   have e2:Hf (ByteArray.mk #[32]++s) (ByteArray.mk #[32])=some ((ByteArray.mk #[32]++s)++ByteArray.mk #[32]):=Hx (by rw [ByteArray.size_append];show 1+s.size+1≤_;omega)
   simp only [Bool.false_eq_true,if_false,e1,e2,Option.bind_some]
   unfold mA
   rw [Uo _ s (by decide +kernel) (by omega),if_pos (by decide +kernel)]
   exact ⟨_,rfl,rfl⟩
theorem qE (n lo hi:Int):gI n lo hi=some (decide (lo≤n∧n≤hi)):=by
 unfold gI
 by_cases h1:lo≤n <;> simp [h1]
theorem uN (g r:Int):uK g r=some (decide ((1≤g∧g≤60)∧0≤r∧r≤2)):=by
 unfold uK
 simp only [qE,Option.bind_some]
 by_cases h1:1≤g∧g≤60
 ·simp [h1]
 ·simp only [h1,decide_false,false_and];rfl
theorem Et {n m:ByteArray} {a b:Bool} (hn:cG n=some a) (hm:cG m=some b) (g r:Int):gZ n m g r=some (if a&&b then (if (1≤g∧g≤60)∧0≤r∧r≤2 then 0 else 1) else 2):=by
 unfold gZ
 rw [hn,hm]
 cases a
 ·rfl
 ·cases b
  ·rfl
  ·by_cases h1:g<1
   ·have:¬ ((1≤g∧g≤60)∧0≤r∧r≤2):=by omega
    simp [h1,this]
   ·by_cases h2:g>60
    ·have:¬ ((1≤g∧g≤60)∧0≤r∧r≤2):=by omega
     simp [h1,h2,this]
    ·by_cases h3:r<0
     ·have:¬ ((1≤g∧g≤60)∧0≤r∧r≤2):=by omega
      simp [h1,h2,h3,this]
     ·by_cases h4:r>2
      ·have:¬ ((1≤g∧g≤60)∧0≤r∧r≤2):=by omega
       simp [h1,h2,h3,h4,this]
      ·have:((1≤g∧g≤60)∧0≤r∧r≤2):=by omega
       simp [h1,h2,h3,h4,this]
theorem eE (l:List aE) (hl:l.length≤9223372036854775806):jE l=some (!(l.any fun x=>!decide (vR x))):=by
 have key:aJ (oU l) 0=some (if (l.any fun x=>!decide (vR x)) then .inl () else .inr ()):=by
  refine dA l (oU l) (fun k=>(k:Int)) _ _ _ rfl (fun k x hx=>?_) ?_
  ·have hk:=(List.getElem?_eq_some_iff.1 hx).1
   unfold oU
   have h1:decide ((k:Int)<(l.length:Int))=true:=by simp;omega
   simp only [h1,if_true,aX hx,Option.bind_some,kK]
   rw [aM (a:=(k:Int)) (by omega) (by omega)]
   rfl
  ·simp [oU]
 unfold jE
 rw [key]
 cases (l.any fun x=>!decide (vR x)) <;> rfl
theorem jS (l:List aE) (hl:l.length≤9223372036854775806):bL l=some (!(l.any fun x=>!decide (vR x))):=by
 have key:aJ (eT l) 0=some (if (l.any fun x=>!decide (vR x)) then .inl () else .inr ()):=by
  refine dA l (eT l) (fun k=>(k:Int)) _ _ _ rfl (fun k x hx=>?_) ?_
  ·have hk:=(List.getElem?_eq_some_iff.1 hx).1
   unfold eT
   have h1:decide ((k:Int)<(l.length:Int))=true:=by simp;omega
   simp only [h1,if_true,aX hx,Option.bind_some,Dm]
   rw [aM (a:=(k:Int)) (by omega) (by omega)]
   rfl
  ·simp [eT]
 unfold bL
 rw [key]
 cases (l.any fun x=>!decide (vR x)) <;> rfl
def outs (r:aE) (l:List aE):Bool:=l.any fun x=>!decide (lW x r)
theorem Xg (r:aE×Bool) (l:List aE) (hl:l.length≤9223372036854775806):aJ (gT r l) 0=some (if outs r.1 l then .inl () else .inr ()):=by
 refine dA l (gT r l) (fun k=>(k:Int)) _ _ _ rfl (fun k x hx=>?_) ?_
 ·have hk:=(List.getElem?_eq_some_iff.1 hx).1
  unfold gT
  have h1:decide ((k:Int)<(l.length:Int))=true:=by simp;omega
  simp only [h1,if_true,aX hx,Option.bind_some,Ky]
  rw [aM (a:=(k:Int)) (by omega) (by omega)]
  rfl
 ·simp [gT]
theorem Bs (s:aW) (l:List aE) (hl:l.length≤9223372036854775806):gD s l=some (!(outs ⟨0,0,s.cA,s.bH⟩ l)):=by
 have key:aJ (eW s l) 0=some (if outs ⟨0,0,s.cA,s.bH⟩ l then .inl () else .inr ()):=by
  refine dA l (eW s l) (fun k=>(k:Int)) _ _ _ rfl (fun k x hx=>?_) ?_
  ·have hk:=(List.getElem?_eq_some_iff.1 hx).1
   unfold eW
   have h1:decide ((k:Int)<(l.length:Int))=true:=by simp;omega
   simp only [h1,if_true,aX hx,Option.bind_some,Kz]
   rw [aM (a:=(k:Int)) (by omega) (by omega)]
   rfl
  ·simp [eW]
 unfold gD
 rw [key]
 cases outs ⟨0,0,s.cA,s.bH⟩ l <;> rfl
theorem Oq (s:aW) (r:aE×Bool) (h1:s.aZ.length≤9223372036854775806) (h2:s.Used.length≤9223372036854775806):aJ (gU s r) 0=some (if outs r.1 s.aZ || outs r.1 s.Used then .inl () else .inr ()):=by
 have:=dA [s.aZ,s.Used] (gU s r) (fun k=>(k:Int)) (fun l=>outs r.1 l) (.inr ()) (.inl ()) rfl (fun k x hx=>?_) ?_
 ·refine this.trans ?_;simp
 ·have hk:=(List.getElem?_eq_some_iff.1 hx).1
  unfold gU
  have hm:x=s.aZ∨x=s.Used:=by have:=List.mem_of_getElem? hx;simpa using this
  have hl:x.length≤9223372036854775806:=by rcases hm with rfl | rfl <;> assumption
  have h3:decide ((k:Int)<(([s.aZ,s.Used]:List (List aE)).length:Int))=true:=by rw [decide_eq_true_eq];exact Int.ofNat_lt.2 hk
  simp only [h3,if_true,aX hx,Option.bind_some,Xg r x hl]
  have hk':k<2:=hk
  rw [aM (a:=(k:Int)) (by omega) (by omega)]
  cases outs r.1 x <;> simp
 ·simp [gU]
theorem Ie (s:aW):∃ b,bA s=some b∧cD s=some b:=by
 obtain ⟨a,ha,ha'⟩:=kG s.Name
 obtain ⟨b,hb,hb'⟩:=kG s.aU
 unfold bA cD
 rw [ha,hb,Et ha' hb']
 cases a with
 | false=>exact ⟨2,rfl,rfl⟩
 | true =>
 cases b with
 | false=>exact ⟨2,rfl,rfl⟩
 | true =>
 simp only [Option.bind_some,uN,qE,Bool.and_self,if_true,Bool.not_true,Bool.false_eq_true,if_false]
 by_cases h1:(1≤s.bZ∧s.bZ≤60)∧0≤s.bF∧s.bF≤2
 ·simp only [h1,and_self,decide_true,if_true,Option.bind_some]
  by_cases h2:1≤s.cA∧s.cA≤1048576
  ·by_cases h3:1≤s.bH∧s.bH≤1048576
   ·have q1:¬ s.cA<1:=by omega
    have q2:¬ s.cA>1048576:=by omega
    have q3:¬ s.bH<1:=by omega
    have q4:¬ s.bH>1048576:=by omega
    simp only [h2,h3,q1,q2,q3,q4,and_self,decide_true,decide_false,if_true,Option.bind_some,Bool.not_true,Bool.false_eq_true,if_false,bne_self_eq_false]
    by_cases h4:(s.aZ.length:Int)>4
    ·exact ⟨4,by simp [h4],by simp [h4]⟩
    by_cases h5:(s.Used.length:Int)>48
    ·exact ⟨4,by simp [h5],by simp [h5]⟩
    simp only [h4,h5,decide_false,Bool.false_eq_true,if_false,Option.bind_some,eE s.aZ (by omega),eE s.Used (by omega),jS s.aZ (by omega),jS s.Used (by omega),Bs s s.aZ (by omega),Bs s s.Used (by omega)]
    cases (s.aZ.any fun x=>!decide (vR x)) with
    | true=>exact ⟨1,rfl,rfl⟩
    | false =>
    cases (s.Used.any fun x=>!decide (vR x)) with
    | true=>exact ⟨1,rfl,rfl⟩
    | false =>
    have hi:kY s 0=some (⟨0,0,s.cA,s.bH⟩,decide (vR ⟨0,0,s.cA,s.bH⟩)):=by
     unfold kY
     rw [kK]
     have e0:rM 2 0=0:=by rw [wF (by omega) (by omega)];rfl
     rw [e0,bP (by omega) (by omega),bP (by omega) (by omega),Int.sub_zero,Int.sub_zero]
     rfl
    simp only [hi,Option.bind_some,Oq s _ (show s.aZ.length≤_ by omega) (show s.Used.length≤_ by omega),Bool.not_false,if_true,Bool.not_true,Bool.false_eq_true,if_false]
    cases outs ⟨0,0,s.cA,s.bH⟩ s.aZ with
    | true=>exact ⟨13,rfl,rfl⟩
    | false =>
    cases outs ⟨0,0,s.cA,s.bH⟩ s.Used with
    | true=>exact ⟨13,rfl,rfl⟩
    | false=>exact ⟨0,rfl,rfl⟩
   ·refine ⟨1,by simp [h2,h3], ?_⟩
    by_cases q3:s.bH<1
    ·simp [q3]
    ·have q4:s.bH>1048576:=by omega
     simp [q3,q4]
  ·refine ⟨1,by simp [h2], ?_⟩
   by_cases q3:s.cA<1
   ·simp [q3]
   ·have q4:s.cA>1048576:=by omega
    simp [q3,q4]
 ·exact ⟨1,by simp only [h1,decide_false];rfl,by simp only [h1,if_false];rfl⟩
theorem Kk (s:bE):∃ b,dY s=some b∧iP s=some b:=by
 refine ⟨decide ((0≤s.Gap∧s.Gap≤14400)∧(0≤s.bN∧s.bN≤14400)), ?_, ?_⟩
 ·unfold dY
  simp only [qE,Option.bind_some]
  by_cases h:0≤s.Gap∧s.Gap≤14400
  ·simp [h]
  ·simp only [h,decide_false,false_and];rfl
 ·unfold iP
  by_cases h1:s.Gap ≥ 0
  ·by_cases h2:s.Gap≤14400
   ·by_cases h3:s.bN ≥ 0
    ·simp [h1,h2,h3]
    ·simp [h1,h2,h3]
   ·simp [h1,h2]
  ·simp [h1]
def cnt (l:List Bool):Nat:=l.countP (·==true)
theorem Sg {l:List Bool} {k:Nat} (h:l[k]?=some false):cnt (l.set k true)=cnt l+1:=by
 unfold cnt
 have hk:=(List.getElem?_eq_some_iff.1 h).1
 have hv:=(List.getElem?_eq_some_iff.1 h).2
 rw [List.countP_set hk]
 simp [hv]
theorem Zv {l:List Bool} (h:cnt l=l.length):∀ x ∈ l,x=true:=by
 have:=List.countP_eq_length.1 h
 intro x hx;simpa using this x hx
theorem Gk (a b:aE):lF a b=jW a b:=rfl
theorem Rv (a b:aE):∃ t,jW a b=some t:=by
 unfold jW
 split
 ·split
  ·exact ⟨_,rfl⟩
  ·split <;> exact ⟨_,rfl⟩
 ·split <;> exact ⟨_,rfl⟩
theorem Uf {l:List aE} (hl:l.length≤1000) {x:Int} {r:aE} (hx:idx l x=some r) {i:Nat} {b0:Bool×Unit} :
  ∀ (m k:Nat) (seen:List Bool) (w0 l0 ext:List Int) (s:Int×List Bool×List Int),k+m=l.length→seen.length=l.length→l0[i]?=some x→s.1=(i:Int)→w0.length+ext.length≤1000000-m→l0.length+ext.length≤1000000-m →
    ∃ seen' ext',aJ (dM l x) ((k:Int),seen,w0++ext)=some (seen',w0++ext')∧aJ (bW l s) ((k:Int),seen,l0++ext)=some (seen',l0++ext')∧seen'.length=l.length∧cnt seen'+ext.length=cnt seen+ext'.length∧(∀ y ∈ ext',y ∈ ext∨(0≤y∧y<l.length)):=by
 intro m
 induction m with
 | zero =>
   intro k seen w0 l0 ext s hk hs hi hsi h1 h2
   obtain rfl:k=l.length:=by omega
   refine ⟨seen,ext,dF ?_,dF ?_,hs,rfl,fun y hy=>.inl hy⟩
   ·simp [dM]
   ·simp [bW]
 | succ m ih =>
   intro k seen w0 l0 ext s hk hs hi hsi h1 h2
   have hkl:k<l.length:=by omega
   have hy:l[k]?=some l[k]:=by simp
   have hsn:seen[k]?=some seen[k]:=by simp [hs,hkl]
   have hle:i<l0.length:=(List.getElem?_eq_some_iff.1 hi).1
   have hi':∀ e:List Int,(l0++e)[i]?=some x:=fun e=>by rw [List.getElem?_append_left hle];exact hi
   have hd:decide ((k:Int)<(l.length:Int))=true:=by simp;omega
   have e1:aH (k:Int) 1=((k+1:Nat):Int):=by rw [aM (by omega) (by omega)];rfl
   obtain ⟨t,ht⟩:=Rv r l[k]
   by_cases hb:seen[k]=true
   ·obtain ⟨seen',ext',p1,p2,p3⟩:=ih (k+1) seen w0 l0 ext s (by omega) hs hi hsi (by omega) (by omega)
    refine ⟨seen',ext', ?_, ?_,p3⟩
    ·rw [gA (s':=(((k+1:Nat):Int),seen,w0++ext))]
     ·exact p1
     ·unfold dM iW
      simp only [hd,if_true,aX hsn,hb,Option.bind_some,Bool.false_eq_true,if_false,e1]
    ·rw [gA (s':=(((k+1:Nat):Int),seen,l0++ext))]
     ·exact p2
     ·unfold bW cH
      simp only [hd,if_true,aX hsn,hb,Option.bind_some,Bool.false_eq_true,if_false,e1]
   ·have hb':seen[k]=false:=by simpa using hb
    cases t with
    | false =>
      obtain ⟨seen',ext',p1,p2,p3⟩:=ih (k+1) seen w0 l0 ext s (by omega) hs hi hsi (by omega) (by omega)
      refine ⟨seen',ext', ?_, ?_,p3⟩
      ·rw [gA (s':=(((k+1:Nat):Int),seen,w0++ext))]
       ·exact p1
       ·unfold dM iW
        simp only [hd,if_true,aX hsn,aX hy,hx,ht,hb',Option.bind_some,Bool.false_eq_true,if_false,e1]
      ·rw [gA (s':=(((k+1:Nat):Int),seen,l0++ext))]
       ·exact p2
       ·unfold bW cH
        simp only [hd,if_true,aX hsn,aX hy,hsi,aX (hi' ext),hx,Gk,ht,hb',Option.bind_some,Bool.false_eq_true,if_false,e1]
    | true =>
      have hset:(seen.set k true).length=l.length:=by rw [List.length_set];exact hs
      obtain ⟨seen',ext',p1,p2,p3,p4,p5⟩:=ih (k+1) (seen.set k true) w0 l0 (ext++[(k:Int)]) s (by omega) hset hi hsi (by simp;omega) (by simp;omega)
      have a1:app (w0++ext) [(k:Int)]=some (w0++(ext++[(k:Int)])):=by rw [pM (by unfold LIM;simp;omega),List.append_assoc]
      have a2:app (l0++ext) [(k:Int)]=some (l0++(ext++[(k:Int)])):=by rw [pM (by unfold LIM;simp;omega),List.append_assoc]
      refine ⟨seen',ext', ?_, ?_,p3, ?_,fun y hy'=>?_⟩
      ·rw [gA (s':=(((k+1:Nat):Int),seen.set k true,w0++(ext++[(k:Int)])))]
       ·exact p1
       ·unfold dM iW
        simp only [hd,if_true,aX hsn,aX hy,hx,ht,hb',Option.bind_some,Bool.false_eq_true,if_false,e1,a1,Int.toNat_natCast]
      ·rw [gA (s':=(((k+1:Nat):Int),seen.set k true,l0++(ext++[(k:Int)])))]
       ·exact p2
       ·unfold bW cH
        simp only [hd,if_true,aX hsn,aX hy,hsi,aX (hi' ext),hx,Gk,ht,hb',Option.bind_some,Bool.false_eq_true,if_false,e1,a2,Int.toNat_natCast]
      ·rw [Sg (by rw [hsn,hb'])] at p4
       simp at p4;omega
      ·rcases p5 y hy' with h | h
       ·rcases List.mem_append.1 h with h | h
        ·exact .inl h
        ·right;rw [List.mem_singleton.1 h];omega
       ·exact .inr h
theorem Ug {l:List aE} (hl:l.length≤1000):∀ (m i:Nat) (seen:List Bool) (q:List Int),i+m=l.length→i≤q.length→seen.length=l.length→cnt seen=q.length→(∀ y ∈ q,0≤y∧y<l.length) →
  ∃ seen' q',aJ (eH l) (seen,q.drop i)=some seen'∧aJ (cJ l) ((i:Int),seen,q)=some q'∧seen'.length=l.length∧cnt seen'=q'.length:=by
 intro m
 induction m with
 | zero =>
   intro i seen q him hiq hs hc hq
   have hcl:cnt seen≤seen.length:=List.countP_le_length
   obtain rfl:i=q.length:=by omega
   refine ⟨seen,q,dF ?_,dF ?_,hs,hc⟩
   ·simp [eH]
   ·simp [cJ]
 | succ m ih =>
   intro i seen q him hiq hs hc hq
   have hcl:cnt seen≤seen.length:=List.countP_le_length
   by_cases hlt:i<q.length
   ·have hx:q[i]?=some q[i]:=by simp
    have hxm:=hq q[i] (List.getElem_mem hlt)
    have ed:q.drop i=q[i]::q.drop (i+1):=List.drop_eq_getElem_cons hlt
    have hr:idx l q[i]=some (l[q[i].toNat]'(by omega)):=by
     unfold idx;rw [if_pos hxm.1];simp [show q[i].toNat<l.length by omega]
    obtain ⟨seen',ext',p1,p2,p3,p4,p5⟩:=Uf hl hr (b0:=(true,())) l.length 0 seen (q.drop (i+1)) q [] ((i:Int),seen,q) (by omega) hs hx rfl (by simp;omega) (by simp;omega)
    simp only [List.append_nil,List.length_nil,Nat.add_zero] at p1 p2 p4
    obtain ⟨seen2,q2,r1,r2,r3⟩:=ih (i+1) seen' (q++ext') (by omega) (by simp;omega) p3 (by simp;omega) (fun y hy=>by
     rcases List.mem_append.1 hy with h | h
     ·exact hq y h
     ·rcases p5 y h with h | h
      ·exact absurd h (by simp)
      ·exact h)
    refine ⟨seen2,q2, ?_, ?_,r3⟩
    ·rw [gA (s':=(seen',(q++ext').drop (i+1)))]
     ·exact r1
     ·unfold eH
      have e0:idx (q.drop i) 0=some q[i]:=by rw [ed];rfl
      have e2:List.drop 1 (q.drop i)=q.drop (i+1):=by rw [List.drop_drop]
      have h1:decide (((q.drop i).length:Int)>0)=true:=by rw [ed];simp;omega
      have h2:decide (1≤(q.drop i).length)=true:=by rw [decide_eq_true_eq,List.length_drop];omega
      simp only [h1,if_true,e0,Option.bind_some,h2,e2]
      have p1':aJ (dM l q[i]) (0,seen,List.drop (i+1) q)=some (seen',List.drop (i+1) q++ext'):=p1
      rw [p1',List.drop_append_of_le_length (by omega)]
      rfl
    ·rw [gA (s':=(((i+1:Nat):Int),seen',q++ext'))]
     ·exact r2
     ·unfold cJ
      have h1:decide ((i:Int)<(q.length:Int))=true:=by simp;omega
      have p2':aJ (bW l ((i:Int),seen,q)) (0,seen,q)=some (seen',q++ext'):=p2
      simp only [h1,if_true,p2',Option.bind_some]
      rw [aM (by omega) (by omega)]
      rfl
   ·obtain rfl:i=q.length:=by omega
    refine ⟨seen,q,dF ?_,dF ?_,hs,hc⟩
    ·simp [eH]
    ·simp [cJ]
theorem Wk (l:List Bool) (hl:l.length≤1000):aJ (kM l) 0=some (if l.any (fun x=>!x) then .inl () else .inr ()):=by
 refine dA l (kM l) (fun k=>(k:Int)) _ _ _ rfl (fun k x hx=>?_) ?_
 ·have hk:=(List.getElem?_eq_some_iff.1 hx).1
  unfold kM
  have h1:decide ((k:Int)<(l.length:Int))=true:=by simp;omega
  simp only [h1,if_true,aX hx,Option.bind_some]
  rw [aM (a:=(k:Int)) (by omega) (by omega)]
  rfl
 ·simp [kM]
theorem uA {l:List aE} (hl:l.length≤1000) (h0:0<l.length):∃ b,iL l=some b∧gP l=some b:=by
 have hmk:mk (l.length:Int) false=some (List.replicate l.length false):=by
  unfold mk;rw [if_pos (by unfold LIM;omega)];simp
 have hf:(List.replicate l.length false)[0]?=some false:=by simp [h0]
 have hc:cnt ((List.replicate l.length false).set 0 true)=1:=by
  rw [Sg hf];unfold cnt;simp [List.countP_replicate]
 obtain ⟨seen',q',p1,p2,p3,p4⟩:=Ug hl l.length 0 ((List.replicate l.length false).set 0 true) [0] (by omega) (by simp) (by simp) (by rw [hc];rfl) (by simp;omega)
 unfold iL gP
 have i0:idx (List.replicate l.length false) 0=some false:=aX (k:=0) hf
 have p1':aJ (eH l) ((List.replicate l.length false).set (Int.toNat 0) true,[0])=some seen':=p1
 have p2':aJ (cJ l) (0,(List.replicate l.length false).set (Int.toNat 0) true,[0])=some q':=p2
 simp only [hmk,Option.bind_some,i0,p1',p2',Wk seen' (by omega)]
 refine ⟨_, ?_,rfl⟩
 by_cases ha:seen'.any (fun x=>!x)=true
 ·have:¬ (q'.length:Int)=(l.length:Int):=by
   intro h
   obtain ⟨x,hx,hn⟩:=List.any_eq_true.1 ha
   have:=Zv (l:=seen') (by omega) x hx
   subst this;simp at hn
  simp [ha,this]
 ·have:(q'.length:Int)=(l.length:Int):=by
   rw [← p4,← p3]
   congr 1
   unfold cnt
   rw [List.countP_eq_length]
   intro x hx
   by_cases h:x=true
   ·simp [h]
   ·exact absurd (List.any_eq_true.2 ⟨x,hx,by simpa using h⟩) ha
  rw [this]
  simp only [ha,Bool.false_eq_true,if_false,beq_self_eq_true,Option.bind_some]
def mT (h x:aE):Bool:=if h.X>x.X then (if h.Y>x.Y then (if aH h.X h.W<aH x.X x.W then decide (aH h.Y h.H<aH x.Y x.H) else false) else false) else false
theorem Pt (h:aE) (l:List aE) (hl:l.length≤1000):oT h l=some (l.any (mT h)):=by
 have key:aJ (lR h l) 0=some (if l.any (mT h) then .inl () else .inr ()):=by
  refine dA l (lR h l) (fun k=>(k:Int)) _ _ _ rfl (fun k x hx=>?_) ?_
  ·have hk:=(List.getElem?_eq_some_iff.1 hx).1
   unfold lR
   have h1:decide ((k:Int)<(l.length:Int))=true:=by simp;omega
   simp only [h1,if_true,aX hx,Option.bind_some]
   rw [aM (a:=(k:Int)) (by omega) (by omega)]
   unfold mT
   by_cases q1:h.X>x.X
   ·by_cases q2:h.Y>x.Y
    ·by_cases q3:aH h.X h.W<aH x.X x.W
     ·by_cases q4:aH h.Y h.H<aH x.Y x.H <;> simp [q1,q2,q3,q4]
     ·simp [q1,q2,q3]
    ·simp [q1,q2]
   ·simp [q1]
  ·simp [lR]
 unfold oT
 rw [key]
 cases l.any (mT h) <;> rfl
theorem Zz (h:aE) (l:List aE) (hl:l.length≤1000):kQ h l=some (l.any (mT h)):=by
 have key:aJ (fQ h l) 0=some (if l.any (mT h) then .inl () else .inr ()):=by
  refine dA l (fQ h l) (fun k=>(k:Int)) _ _ _ rfl (fun k x hx=>?_) ?_
  ·have hk:=(List.getElem?_eq_some_iff.1 hx).1
   unfold fQ
   have h1:decide ((k:Int)<(l.length:Int))=true:=by simp;omega
   simp only [h1,if_true,aX hx,Option.bind_some]
   rw [aM (a:=(k:Int)) (by omega) (by omega)]
   unfold mT
   by_cases q1:h.X>x.X
   ·by_cases q2:h.Y>x.Y
    ·by_cases q3:aH h.X h.W<aH x.X x.W
     ·by_cases q4:aH h.Y h.H<aH x.Y x.H <;> simp [q1,q2,q3,q4]
     ·simp [q1,q2,q3]
    ·simp [q1,q2]
   ·simp [q1]
  ·simp [fQ]
 unfold kQ
 rw [key]
 cases l.any (mT h) <;> rfl
def pE (x0:aL) (l:List aE) (k:Nat):Bool:=match l[k]? with
 | some x=>!(x0.aD.any (mT x)) || (decide ((k:Int)<(x0.bB.length:Int))&&((x.W==1) || (x.H==1)))
 | none=>false
theorem Bo (x0:aL) (l:List aE) (hl:l.length≤1000) (hr:x0.aD.length≤1000):aJ (nF x0 l) 0=some (if (List.range l.length).any (pE x0 l) then .inl () else .inr ()):=by
 refine mD l.length (nF x0 l) (fun k=>(k:Int)) _ _ _ rfl (fun k hk=>?_) ?_
 ·have hx:l[k]?=some l[k]:=by simp
  unfold nF pE
  have h1:decide ((k:Int)<(l.length:Int))=true:=by simp;omega
  simp only [h1,if_true,aX hx,hx,Option.bind_some,Pt _ _ hr]
  rw [aM (a:=(k:Int)) (by omega) (by omega)]
  by_cases q1:(k:Int)<(x0.bB.length:Int)
  ·cases q2:(l[k].W==1)
   ·cases q3:(l[k].H==1)
    ·cases x0.aD.any (mT l[k]) <;> simp [q1,q2,q3]
    ·cases x0.aD.any (mT l[k]) <;> simp [q1,q2,q3]
   ·cases x0.aD.any (mT l[k]) <;> simp [q1,q2]
  ·cases x0.aD.any (mT l[k]) <;> simp [q1]
 ·simp [nF]
theorem Ka (x0:aL) (l:List aE) (hl:l.length≤1000) (hr:x0.aD.length≤1000):aJ (cO x0 l) 0=some (if (List.range l.length).any (pE x0 l) then .inl () else .inr ()):=by
 refine mD l.length (cO x0 l) (fun k=>(k:Int)) _ _ _ rfl (fun k hk=>?_) ?_
 ·have hx:l[k]?=some l[k]:=by simp
  unfold cO pE
  have h1:decide ((k:Int)<(l.length:Int))=true:=by simp;omega
  simp only [h1,if_true,aX hx,hx,Option.bind_some,Zz _ _ hr]
  rw [aM (a:=(k:Int)) (by omega) (by omega)]
  by_cases q1:(k:Int)<(x0.bB.length:Int)
  ·cases q2:(l[k].W==1)
   ·cases q3:(l[k].H==1)
    ·cases x0.aD.any (mT l[k]) <;> simp [q1,q2,q3]
    ·cases x0.aD.any (mT l[k]) <;> simp [q1,q2,q3]
   ·cases x0.aD.any (mT l[k]) <;> simp [q1,q2]
  ·cases x0.aD.any (mT l[k]) <;> simp [q1]
 ·simp [cO]
def oW (p:aE→aE→Bool) (l:List aE) (k:Nat):Bool:=match l[k]? with
 | some x=>(l.take k).any (p x)
 | none=>false
def wL (x y:aE):Bool:=sP x y==0
def gK (x y:aE):Bool:=decide (ovR x y)
theorem Es {l:List aE} {k:Nat} (h:k≤l.length):slc l 0 (k:Int)=some (l.take k):=by
 unfold slc;rw [if_pos (by omega)];simp
theorem in2 (x:aE) (l:List aE) (hl:l.length≤1000):aJ (nG x l) 0=some (if l.any (wL x) then .inl () else .inr ()):=by
 refine dA l (nG x l) (fun k=>(k:Int)) _ _ _ rfl (fun k y hy=>?_) ?_
 ·have hk:=(List.getElem?_eq_some_iff.1 hy).1
  unfold nG
  have h1:decide ((k:Int)<(l.length:Int))=true:=by simp;omega
  simp only [h1,if_true,aX hy,Option.bind_some,Fw]
  rw [aM (a:=(k:Int)) (by omega) (by omega)]
  rfl
 ·simp [nG]
theorem in3 (l:List aE) (hl:l.length≤1000):aJ (nH l) 0=some (if (List.range l.length).any (oW wL l) then .inl () else .inr ()):=by
 refine mD l.length (nH l) (fun k=>(k:Int)) _ _ _ rfl (fun k hk=>?_) ?_
 ·have hx:l[k]?=some l[k]:=by simp
  unfold nH oW
  have h1:decide ((k:Int)<(l.length:Int))=true:=by simp;omega
  simp only [h1,if_true,aX hx,hx,Option.bind_some,Es (Nat.le_of_lt hk),in2 _ (l.take k) (by simp;omega)]
  rw [aM (a:=(k:Int)) (by omega) (by omega)]
  cases (l.take k).any (wL l[k]) <;> simp
 ·simp [nH]
theorem ER (l:List aE) (hl:l.length≤1000):aJ (cQ l) 0=some (if (List.range l.length).any (oW wL l) then .inl () else .inr ()):=by
 have inner:∀ (k:Nat) (hk:k<l.length),aJ (cP l (k:Int)) 0=some (if (l.take k).any (wL l[k]) then .inl () else .inr ()):=by
  intro k hk
  have hx:l[k]?=some l[k]:=by simp
  refine dA (l.take k) (cP l (k:Int)) (fun k=>(k:Int)) _ _ _ rfl (fun j y hy=>?_) ?_
  ·have hj:=(List.getElem?_eq_some_iff.1 hy).1
   rw [List.length_take] at hj
   have hy':l[j]?=some y:=by rw [List.getElem?_take] at hy;simpa [show j<k by omega] using hy
   unfold cP
   have h1:decide ((j:Int)<(k:Int))=true:=by simp;omega
   simp only [h1,if_true,aX hx,aX hy',Option.bind_some,Nh]
   rw [aM (a:=(j:Int)) (by omega) (by omega)]
   rfl
  ·have:(l.take k).length=k:=by simp;omega
   simp [cP,this]
 refine mD l.length (cQ l) (fun k=>(k:Int)) _ _ _ rfl (fun k hk=>?_) ?_
 ·have hx:l[k]?=some l[k]:=by simp
  unfold cQ oW
  have h1:decide ((k:Int)<(l.length:Int))=true:=by simp;omega
  simp only [h1,if_true,hx,Option.bind_some,inner k hk]
  rw [aM (a:=(k:Int)) (by omega) (by omega)]
  cases (l.take k).any (wL l[k]) <;> simp
 ·simp [cQ]
theorem ov2 (x:aE) (l:List aE) (hl:l.length≤1000):aJ (gR x l) 0=some (if l.any (gK x) then .inl () else .inr ()):=by
 refine dA l (gR x l) (fun k=>(k:Int)) _ _ _ rfl (fun k y hy=>?_) ?_
 ·have hk:=(List.getElem?_eq_some_iff.1 hy).1
  unfold gR
  have h1:decide ((k:Int)<(l.length:Int))=true:=by simp;omega
  simp only [h1,if_true,aX hy,Option.bind_some,tX]
  rw [aM (a:=(k:Int)) (by omega) (by omega)]
  rfl
 ·simp [gR]
theorem ov3 (x0:aL) (hl:x0.aD.length≤1000):aJ (gS x0) 0=some (if (List.range x0.aD.length).any (oW gK x0.aD) then .inl () else .inr ()):=by
 refine mD x0.aD.length (gS x0) (fun k=>(k:Int)) _ _ _ rfl (fun k hk=>?_) ?_
 ·have hx:x0.aD[k]?=some x0.aD[k]:=by simp
  unfold gS oW
  have h1:decide ((k:Int)<(x0.aD.length:Int))=true:=by simp;omega
  simp only [h1,if_true,aX hx,hx,Option.bind_some,Es (Nat.le_of_lt hk),ov2 _ (x0.aD.take k) (by simp;omega)]
  rw [aM (a:=(k:Int)) (by omega) (by omega)]
  cases (x0.aD.take k).any (gK x0.aD[k]) <;> simp
 ·simp [gS]
theorem Ia (x:aE) (l:List aE) (hl:l.length≤1000):eZ x l=some (l.any (gK x)):=by
 have key:aJ (fF x l) 0=some (if l.any (gK x) then .inl () else .inr ()):=by
  refine dA l (fF x l) (fun k=>(k:Int)) _ _ _ rfl (fun k y hy=>?_) ?_
  ·have hk:=(List.getElem?_eq_some_iff.1 hy).1
   unfold fF
   have h1:decide ((k:Int)<(l.length:Int))=true:=by simp;omega
   simp only [h1,if_true,aX hy,Option.bind_some,Fx]
   rw [aM (a:=(k:Int)) (by omega) (by omega)]
   rfl
  ·simp [fF]
 unfold eZ
 rw [key]
 cases l.any (gK x) <;> rfl
theorem ES (x0:aL) (hl:x0.aD.length≤1000):aJ (cN x0) 0=some (if (List.range x0.aD.length).any (oW gK x0.aD) then .inl () else .inr ()):=by
 refine mD x0.aD.length (cN x0) (fun k=>(k:Int)) _ _ _ rfl (fun k hk=>?_) ?_
 ·have hx:x0.aD[k]?=some x0.aD[k]:=by simp
  unfold cN oW
  have h1:decide ((k:Int)<(x0.aD.length:Int))=true:=by simp;omega
  simp only [h1,if_true,aX hx,hx,Option.bind_some,Es (Nat.le_of_lt hk),Ia _ (x0.aD.take k) (by simp;omega)]
  rw [aM (a:=(k:Int)) (by omega) (by omega)]
  rfl
 ·simp [cN]
def lI (l:List aE) (a:Int):Int:=l.foldl (fun s r=>min s r.X) a
def lJ (l:List aE) (a:Int):Int:=l.foldl (fun s r=>min s r.Y) a
theorem Av (x0:aL) (hl:x0.aD.length≤1000) (a b:Int):aJ (bU x0) (a,b,0)=some (lI x0.aD a,lJ x0.aD b):=by
 refine mI x0.aD (bU x0) (fun k=>(lI (x0.aD.take k) a,lJ (x0.aD.take k) b,(k:Int))) _ (fun k r hr=>?_) ?_
 ·have hk:=(List.getElem?_eq_some_iff.1 hr).1
  unfold bU
  have h1:decide ((k:Int)<(x0.aD.length:Int))=true:=by simp;omega
  have e:x0.aD.take (k+1)=x0.aD.take k++[r]:=by rw [List.take_add_one,hr];rfl
  simp only [h1,if_true,aX hr,Option.bind_some,e,Bp]
  rw [aM (a:=(k:Int)) (by omega) (by omega)]
  unfold lI lJ
  rw [List.foldl_append,List.foldl_append]
  rfl
 ·simp [bU]
theorem Qt (x0:aL):lE x0.aD=bU x0:=by
 funext s
 unfold lE bU
 cases idx x0.aD s.2.2 <;> rfl
theorem Ji (x0:aL) (hl:x0.aD.length≤1000) {r:aE} (hr:x0.aD[0]?=some r):fA x0.aD=some (lI x0.aD r.X,lJ x0.aD r.Y):=by
 unfold fA
 have i0:idx x0.aD 0=some r:=aX (k:=0) hr
 have hk:=(List.getElem?_eq_some_iff.1 hr).1
 have h1:aJ (bU x0) (r.X,r.Y,0)=aJ (bU x0) (r.X,r.Y,1):=by
  refine gA ?_
  unfold bU
  have hd:decide ((0:Int)<(x0.aD.length:Int))=true:=by simp;omega
  simp only [hd,if_true,i0,Option.bind_some,Bp,Int.min_self]
  rfl
 rw [i0,Qt]
 simp only [Option.bind_some]
 rw [← h1,Av x0 hl]
 rfl
theorem Ib (x:aL):∃ b,aR x=some b∧bO x=some b:=by
 obtain ⟨a,ha,ha'⟩:=kG x.Name
 obtain ⟨b,hb,hb'⟩:=kG x.aU
 unfold aR bO
 rw [ha,hb,Et ha' hb']
 cases a with
 | false=>exact ⟨2,rfl,rfl⟩
 | true =>
 cases b with
 | false=>exact ⟨2,rfl,rfl⟩
 | true =>
 simp only [Option.bind_some,uN,Bool.and_self,if_true,Bool.not_true,Bool.false_eq_true,if_false]
 by_cases h1:(1≤x.bZ∧x.bZ≤60)∧0≤x.bF∧x.bF≤2
 ·simp only [h1,and_self,decide_true,if_true,Option.bind_some,Bool.not_true,Bool.false_eq_true,if_false,bne_self_eq_false]
  by_cases l1:(x.aD.length:Int)>12
  ·exact ⟨4,by simp [l1],by simp [l1]⟩
  by_cases l2:(x.bB.length:Int)>12
  ·exact ⟨4,by simp [l2],by simp [l2]⟩
  by_cases l3:(x.Forms.length:Int)>12
  ·exact ⟨4,by simp [l3],by simp [l3]⟩
  have k1:x.aD.length≤12:=by omega
  have k2:x.bB.length≤12:=by omega
  have k3:x.Forms.length≤12:=by omega
  simp only [l1,l2,l3,decide_false,Bool.false_eq_true,if_false,Option.bind_some]
  by_cases h0:(x.aD.length:Int)=0
  ·exact ⟨1,by simp [h0],by simp [h0]⟩
  have h0':((x.aD.length:Int)==0)=false:=by rw [beq_eq_false_iff_ne];exact h0
  simp only [h0',Bool.false_eq_true,if_false,eE x.aD (by omega),eE x.bB (by omega),eE x.Forms (by omega),jS x.aD (by omega),jS x.bB (by omega),jS x.Forms (by omega),Option.bind_some]
  cases (x.aD.any fun x=>!decide (vR x)) with
  | true=>exact ⟨1,rfl,rfl⟩
  | false =>
  cases (x.bB.any fun x=>!decide (vR x)) with
  | true=>exact ⟨1,rfl,rfl⟩
  | false =>
  cases (x.Forms.any fun x=>!decide (vR x)) with
  | true=>exact ⟨1,rfl,rfl⟩
  | false =>
  have hr:x.aD[0]?=some (x.aD[0]'(by omega)):=by simp [show 0<x.aD.length by omega]
  have i0:idx x.aD 0=some (x.aD[0]'(by omega)):=aX (k:=0) hr
  obtain ⟨cn,c1,c2⟩:=uA (l:=x.aD) (by omega) (by omega)
  have ap1:app [] x.bB=some x.bB:=by rw [pM (by unfold LIM;simp;omega)];rfl
  have ap2:app x.bB x.Forms=some (x.bB++x.Forms):=pM (by unfold LIM;omega)
  have k4:(x.bB++x.Forms).length≤1000:=by simp;omega
  simp only [Bool.not_false,Bool.not_true,if_true,Bool.false_eq_true,if_false,Option.bind_some,i0,Av x (by omega),Ji x (by omega) hr,ov3 x (by omega),ES x (by omega),c1,c2]
  generalize x.aD[0]'(by omega)=r0
  by_cases m1:lI x.aD r0.X=0
  ·by_cases m2:lJ x.aD r0.Y=0
   ·simp only [m1,m2,bne_self_eq_false,Bool.false_eq_true,if_false,Option.bind_some]
    cases (List.range x.aD.length).any (oW gK x.aD) with
    | true=>exact ⟨7,rfl,rfl⟩
    | false =>
    cases cn with
    | false=>exact ⟨6,rfl,rfl⟩
    | true =>
    simp only [Bool.not_true,Bool.false_eq_true,if_false,Option.bind_some]
    unfold pS
    simp only [ap1,ap2,Option.bind_some,Bo x _ k4 (show x.aD.length≤1000 by omega),Ka x _ k4 (show x.aD.length≤1000 by omega),in3 _ k4,ER _ k4]
    cases (List.range (x.bB++x.Forms).length).any (pE x (x.bB++x.Forms)) with
    | true=>exact ⟨13,rfl,rfl⟩
    | false =>
    cases (List.range (x.bB++x.Forms).length).any (oW wL (x.bB++x.Forms)) with
    | true=>exact ⟨7,rfl,rfl⟩
    | false=>exact ⟨0,rfl,rfl⟩
   ·have m2':(lJ x.aD r0.Y != 0)=true:=by rw [bne_iff_ne];exact m2
    simp only [m1,m2',bne_self_eq_false,Bool.false_eq_true,if_false,Option.bind_some,if_true]
    exact ⟨1,rfl,rfl⟩
  ·have m1':(lI x.aD r0.X != 0)=true:=by rw [bne_iff_ne];exact m1
   simp only [m1',Option.bind_some,if_true]
   exact ⟨1,rfl,rfl⟩
 ·exact ⟨1,by simp only [h1,decide_false];rfl,by simp only [h1,if_false];rfl⟩
end Go.SM
namespace Go.SM
open Go Go.VI Go.Cells
theorem Gb {r x:aE} (h:ovR r x):([(aE.mk r.X r.Y (aQ (imax r.X x.X) r.X) r.H),(aE.mk (cM (aH r.X r.W) (aH x.X x.W)) r.Y (aQ (aH r.X r.W) (cM (aH r.X r.W) (aH x.X x.W))) r.H),(aE.mk (imax r.X x.X) r.Y (aQ (cM (aH r.X r.W) (aH x.X x.W)) (imax r.X x.X)) (aQ (imax r.Y x.Y) r.Y)),(aE.mk (imax r.X x.X) (cM (aH r.Y r.H) (aH x.Y x.H)) (aQ (cM (aH r.X r.W) (aH x.X x.W)) (imax r.X x.X)) (aQ (aH r.Y r.H) (cM (aH r.Y r.H) (aH x.Y x.H))))]:List aE)=[nT r x,pT r x,rF r x,wH r x]:=by
 obtain ⟨h1,h2,h3,h4,h5,h6⟩:=h
 obtain ⟨a1,a2⟩:=Nc h1
 obtain ⟨b1,b2⟩:=Nc h2
 unfold vR at h1 h2
 rw [a1,a2,b1,b2]
 simp only [Hr,Bp]
 rw [bP (a:=max r.X x.X) (b:=r.X) (by omega) (by omega),bP (a:=r.X+r.W) (b:=min (r.X+r.W) (x.X+x.W)) (by omega) (by omega),bP (a:=min (r.X+r.W) (x.X+x.W)) (b:=max r.X x.X) (by omega) (by omega),bP (a:=max r.Y x.Y) (b:=r.Y) (by omega) (by omega),bP (a:=r.Y+r.H) (b:=min (r.Y+r.H) (x.Y+x.H)) (by omega) (by omega)]
 rfl
theorem Nq {self:aE→List aE→Option Int} {r x:aE} (h:ovR r x) {l:List aE} (hl:l.length≤1000) {k:Nat} (hk:k<l.length) (hself:∀ p,vR p→self p (l.drop (k+1))=some (dW p (l.drop (k+1)))) :
  aJ (kX self r l (k:Int) x) (0,0)=some (dW (nT r x) (l.drop (k+1))+dW (pT r x) (l.drop (k+1))+dW (rF r x) (l.drop (k+1))+dW (wH r x) (l.drop (k+1))):=by
 have hsl:slc l (aH (k:Int) 1) (l.length:Int)=some (l.drop (k+1)):=by
  rw [fB k (by omega)]
  unfold slc
  rw [if_pos (by omega)]
  congr 1
  simp
 have step:∀ (i:Nat) (p:aE) (acc:Int),[nT r x,pT r x,rF r x,wH r x][i]?=some p→(0≤acc∧acc≤17592186044416)→kX self r l (k:Int) x (acc,(i:Int))=some (.inl (acc+dW p (l.drop (k+1)),((i+1:Nat):Int))):=fun i p acc hp hacc=>by
  have hi:=pR hp
  have hpm:=List.mem_of_getElem? hp
  have b1:=nY p (l.drop (k+1))
  have b2:=xD p (l.drop (k+1))
  unfold kX
  rw [Gb h]
  have hd:decide ((i:Int)<(([nT r x,pT r x,rF r x,wH r x]:List aE).length:Int))=true:=by rw [decide_eq_true_eq];exact Int.ofNat_lt.2 hi
  simp only [hd,if_true,aX hp,Option.bind_some,sJ]
  have hi4:(i:Int)<9223372036854775807:=by simp at hi;omega
  by_cases hw:p.W>0
  ·by_cases hh:p.H>0
   ·simp only [hw,hh,decide_true,if_true,Option.bind_some,hsl,hself p (CY h p hpm hw hh),aM (a:=acc) (b:=dW p (l.drop (k+1))) (by omega) (by omega),fB i hi4]
   ·have:=Dp (r:=p) (l.drop (k+1)) (fun q=>hh q.2)
    simp only [hw,hh,decide_true,decide_false,if_true,Bool.false_eq_true,if_false,Option.bind_some,this,Int.add_zero,fB i hi4]
  ·have:=Dp (r:=p) (l.drop (k+1)) (fun q=>hw q.1)
   simp only [hw,decide_false,Bool.false_eq_true,if_false,Option.bind_some,this,Int.add_zero,fB i hi4]
 have n1:=nY (nT r x) (l.drop (k+1));have m1:=xD (nT r x) (l.drop (k+1))
 have n2:=nY (pT r x) (l.drop (k+1));have m2:=xD (pT r x) (l.drop (k+1))
 have n3:=nY (rF r x) (l.drop (k+1));have m3:=xD (rF r x) (l.drop (k+1))
 have s0:=step 0 (nT r x) 0 rfl (by omega)
 have s1:=step 1 (pT r x) _ rfl (show 0≤0+dW (nT r x) (l.drop (k+1))∧0+dW (nT r x) (l.drop (k+1))≤17592186044416 by omega)
 have s2:=step 2 (rF r x) _ rfl (show 0≤0+dW (nT r x) (l.drop (k+1))+dW (pT r x) (l.drop (k+1))∧0+dW (nT r x) (l.drop (k+1))+dW (pT r x) (l.drop (k+1))≤17592186044416 by omega)
 have s3:=step 3 (wH r x) _ rfl (show 0≤0+dW (nT r x) (l.drop (k+1))+dW (pT r x) (l.drop (k+1))+dW (rF r x) (l.drop (k+1))∧0+dW (nT r x) (l.drop (k+1))+dW (pT r x) (l.drop (k+1))+dW (rF r x) (l.drop (k+1))≤17592186044416 by omega)
 have s0':kX self r l (k:Int) x (0,0)=_:=s0
 rw [gA s0',gA s1,gA s2,gA s3]
 have last:∀ acc:Int,kX self r l (k:Int) x (acc,(((3+1:Nat):Int)))=some (.inr acc):=fun acc=>by
  unfold kX
  rw [Gb h]
  have hd:decide ((((3+1:Nat):Int))<(([nT r x,pT r x,rF r x,wH r x]:List aE).length:Int))=false:=rfl
  simp only [hd,Bool.false_eq_true,if_false]
 rw [dF (last _),Int.zero_add]
theorem Ig {self:aE→List aE→Option Int} {r:aE} (hr:vR r) {l:List aE} (hl:l.length≤1000) (hv:sK l) (hself:∀ k,k<l.length→∀ p,vR p→self p (l.drop (k+1))=some (dW p (l.drop (k+1)))):∀ (m k:Nat),k+m=l.length→∃ o,aJ (mJ self r l) (k:Int)=some o∧(match o with | .inl j=>j | .inr _=>rM r.W r.H)=dW r (l.drop k)
 | 0,k,hk=>by
   refine ⟨.inr (),dF ?_, ?_⟩
   ·unfold mJ
    have:decide ((k:Int)<(l.length:Int))=false:=by rw [decide_eq_false_iff_not];omega
    simp only [this,Bool.false_eq_true,if_false]
   ·rw [List.drop_eq_nil_of_le (by omega),Qh hr]
    unfold vR at hr
    have h1:r.W*r.H≤2097152*2097152:=Int.mul_le_mul (by omega) (by omega) (by omega) (by omega)
    have h0:0≤r.W*r.H:=Int.mul_nonneg (by omega) (by omega)
    exact wF (by omega) (by omega)
 | m+1,k,hk=>by
   have hkl:k<l.length:=by omega
   have hx:l[k]?=some l[k]:=List.getElem?_eq_getElem hkl
   have hxv:=hv _ (List.getElem_mem hkl)
   have hdr:l.drop k=l[k]::l.drop (k+1):=List.drop_eq_getElem_cons hkl
   have hd:decide ((k:Int)<(l.length:Int))=true:=by rw [decide_eq_true_eq];omega
   by_cases ho:ovR r l[k]
   ·refine ⟨.inl (dW r (l.drop k)),dF ?_,rfl⟩
    unfold mJ
    have hdo:decide (ovR r l[k])=true:=by rw [decide_eq_true_eq];exact ho
    simp only [hd,if_true,aX hx,Option.bind_some,tX,hdo,Bool.not_true,Bool.false_eq_true,if_false,Nq ho hl hkl (hself k hkl)]
    rw [hdr,Me ho]
   ·obtain ⟨o,h1,h2⟩:=Ig hr hl hv hself m (k+1) (by omega)
    refine ⟨o, ?_,by rw [hdr,Np hr hxv ho];exact h2⟩
    rw [gA (s':=((k+1:Nat):Int))]
    ·exact h1
    ·unfold mJ
     have hdo:decide (ovR r l[k])=false:=by rw [decide_eq_false_iff_not];exact ho
     simp only [hd,if_true,aX hx,Option.bind_some,tX,hdo,Bool.not_false,fB k (by omega)]
theorem Sa:∀ (n:Nat) (l:List aE),l.length≤n→l.length≤1000→sK l→∀ r,vR r→jL (n+1) r l=some (dW r l)
 | n,l,hn,hl,hv,r,hr=>by
   show pK (jL n) r l=_
   have hself:∀ k,k<l.length→∀ p,vR p→jL n p (l.drop (k+1))=some (dW p (l.drop (k+1))):=fun k hk p hp=>by
    cases n with
    | zero=>omega
    | succ n=>exact Sa n (l.drop (k+1)) (by simp;omega) (by simp;omega) (fun s hs=>hv s (List.mem_of_mem_drop hs)) p hp
   obtain ⟨o,h1,h2⟩:=Ig hr hl hv hself l.length 0 (by omega)
   have h1':aJ (mJ (jL n) r l) 0=some o:=h1
   unfold pK
   rw [h1']
   rw [List.drop_zero] at h2
   cases o with
   | inl j=>exact congrArg some h2
   | inr u=>exact congrArg some h2
 termination_by n=>n
theorem Vz {l:List aE} (hl:l.length≤900) (hv:sK l) {r:aE} (hr:vR r):Dc r l=some (dW r l):=Sa 999 l (by omega) (by omega) hv r hr
theorem Zo {l:List aE} (hl:l.length≤900) (hv:sK l):Bw l=some (eM MM (cov l)):=by
 unfold Bw
 have key:=mI l (qK l) (fun k=>(eM MM (cov (l.take k)),(k:Int))) (eM MM (cov l)) (fun k r hk=>?_) ?_
 ·have e0:eM MM (cov (l.take 0))=0:=by
   exact yG fun x _ _=>yG fun y _ _=>rfl
  rw [e0] at key
  have key':aJ (qK l) (0,0)=some (eM MM (cov l)):=key
  rw [key'];rfl
 ·have hkl:=pR hk
  have hsl:slc l 0 (k:Int)=some (l.take k):=Es (by omega)
  have hal:=Vz (l:=l.take k) (by simp;omega) (fun s hs=>hv s (List.mem_of_mem_take hs)) (hv r (List.mem_of_getElem? hk))
  have b1:=nY r (l.take k);have b2:=xD r (l.take k)
  have c1:=sN (M:=MM) (cov (l.take k));have c2:=sM (cov (l.take k))
  unfold qK
  have hd:decide ((k:Int)<(l.length:Int))=true:=by rw [decide_eq_true_eq];omega
  simp only [hd,if_true,aX hk,Option.bind_some,hsl,hal,fB k (show (k:Int)<9223372036854775807 by omega)]
  rw [Fv hk,Ub,aM (by omega) (by omega)]
 ·unfold qK
  simp
theorem Qc {l:List aE} (hv:sK l) (hl:l.length≤1000) (x y:Int):jQ l x y=some (cov l x y):=by
 unfold jQ cov
 rw [Xn l (gO l x y) (fun r=>inC r x y) (.inr ()) (.inl ()) (fun k r hr=>?s) ?f]
 ·cases l.any (fun r=>inC r x y) <;> rfl
 case s =>
  have h1:=pR hr
  obtain ⟨e1,e2⟩:=Nc (hv r (List.mem_of_getElem? hr))
  unfold gO
  simp only [h1,Int.ofNat_lt,decide_true,if_true,aX hr,Option.bind_some,e1,e2]
  have hb':(if decide (r.X≤x) then (if decide (x<r.X+r.W) then (if decide (r.Y≤y) then some (decide (y<r.Y+r.H)) else some false) else some false) else some false)=some (inC r x y):=by
   unfold inC
   cases decide (r.X≤x) <;> cases decide (x<r.X+r.W) <;> cases decide (r.Y≤y) <;> simp
  rw [hb',Option.bind_some,fB k (by omega)]
 case f=>simp [gO]
theorem CB {xs:List Int} (h:Nj xs) {g:Int→Int} {c:Int} (hc:0≤c) (hg:∀ x,0≤g x∧g x≤c) {k:Nat} (hk:k<xs.length):0≤ps g xs k∧ps g xs k≤c*2097152:=by
 obtain ⟨b1,b2⟩:=Jy h.asc hc hg k hk
 obtain ⟨x,hx⟩:∃ x,xs[k]?=some x:=⟨_,List.getElem?_eq_getElem hk⟩
 obtain ⟨y,hy⟩:∃ y,xs[0]?=some y:=⟨_,List.getElem?_eq_getElem (by omega)⟩
 rw [sG hx,sG hy] at b2
 have wx:=h.within x (List.mem_of_getElem? hx)
 have wy:=h.within y (List.mem_of_getElem? hy)
 have:c*(x-y)≤c*2097152:=Int.mul_le_mul_of_nonneg_left (by omega) hc
 exact ⟨b1,by omega⟩
theorem Ph {l:List aE} (hv:sK l) (hl:l.length≤1000) {xs ys:List Int} (hY:Nj ys) {i:Nat} (hi:i≤1000) {x x':Int} (hx:xs[i]?=some x) (hx':xs[i+1]?=some x') (hxx:0≤x'-x∧x'-x≤2097152) (hb:(-1048576≤x∧x≤1048576)∧-1048576≤x'∧x'≤1048576) (z:Int) {acc:Int} (ha:0≤acc∧acc≤17592186044416) :
  aJ (fO l (xs,ys) (z,(i:Int))) (acc,0)=some (acc+(x'-x)*rK (fun y=>one (cov l x y)) ys):=by
 have hone:∀ y,0≤one (cov l x y)∧one (cov l x y)≤1:=fun y=>one_le _
 have hi1:aH (i:Int) 1=((i+1:Nat):Int):=fB i (by omega)
 have hlen:=hY.len
 have key:=mI (List.range (ys.length-1)) (fO l (xs,ys) (z,(i:Int))) (fun k=>(acc+(x'-x)*ps (fun y=>one (cov l x y)) ys k,(k:Int))) (acc+(x'-x)*rK (fun y=>one (cov l x y)) ys) (fun k _ hk=>?_) ?_
 ·have e0:acc+(x'-x)*ps (fun y=>one (cov l x y)) ys 0=acc:=by simp [ps,eX]
  rw [e0] at key
  exact key
 ·have hkn:k<ys.length-1:=by have:=pR hk;simpa using this
  have hy:ys[k]?=some (ys[k]'(by omega)):=List.getElem?_eq_getElem (by omega)
  have hy':ys[k+1]?=some (ys[k+1]'(by omega)):=List.getElem?_eq_getElem (by omega)
  have hyy:=Hk hY.asc (Nat.lt_succ_self k) hy hy'
  have wy:=hY.within _ (List.mem_of_getElem? hy)
  have wy':=hY.within _ (List.mem_of_getElem? hy')
  generalize ys[k]'(by omega)=y at hy hyy wy
  generalize ys[k+1]'(by omega)=y' at hy' hyy wy'
  obtain ⟨p1,p2⟩:=CB hY (c:=1) (by omega) hone (k:=k) (by omega)
  have q1:0≤(x'-x)*ps (fun y=>one (cov l x y)) ys k:=Int.mul_nonneg hxx.1 p1
  have q2:(x'-x)*ps (fun y=>one (cov l x y)) ys k≤2097152*2097152:=Int.mul_le_mul hxx.2 (by omega) p1 (by omega)
  have r1:0≤(x'-x)*(y'-y):=Int.mul_nonneg hxx.1 (by omega)
  have r2:(x'-x)*(y'-y)≤2097152*2097152:=Int.mul_le_mul hxx.2 (by omega) (by omega) (by omega)
  have hk1:aH (k:Int) 1=((k+1:Nat):Int):=fB k (by omega)
  unfold fO
  have hd:decide (((k+1:Nat):Int)<(ys.length:Int))=true:=by rw [decide_eq_true_eq];omega
  simp only [hk1,hd,if_true,hi1,aX hx,aX hx',aX hy,aX hy',Option.bind_some,Qc hv hl,iY]
  rw [Th _ hy hy',Int.mul_add]
  cases hcv:cov l x y with
  | true =>
    rw [show one true=1 from rfl,Int.mul_one]
    rw [bP (a:=x') (b:=x) (by omega) (by omega),bP (a:=y') (b:=y) (by omega) (by omega),wF (a:=x'-x) (b:=y'-y) (by omega) (by omega),aM (b:=(x'-x)*(y'-y)) (by omega) (by omega)]
    simp only [if_true,Int.add_assoc]
  | false =>
    rw [show one false=0 from rfl,Int.mul_zero,Int.mul_zero,Int.add_zero]
    simp only [Bool.false_eq_true,if_false]
 ·rw [List.length_range,Hv]
  unfold fO
  have:aH ((ys.length-1:Nat):Int) 1=((ys.length-1+1:Nat):Int):=fB _ (by omega)
  have hd:decide (((ys.length-1+1:Nat):Int)<(ys.length:Int))=false:=by rw [decide_eq_false_iff_not];omega
  simp only [this,hd,Bool.false_eq_true,if_false]
theorem Pj {l:List aE} (hv:sK l) (hl:l.length≤400):iN l=some (eM MM (cov l)):=by
 obtain ⟨xs,ys,hg,hx,hy⟩:=Zg hv hl
 have hH:Has xs ys l:=CW hv hl hx hy fun r hr=>hr
 have hX:=hH.X
 have hY:=hH.Y
 have hG:∀ x,0≤rK (fun y=>one (cov l x y)) ys∧rK (fun y=>one (cov l x y)) ys≤2097152:=fun x=>by
  have:=Qo hY (c:=1) (by omega) (g:=fun y=>one (cov l x y)) fun y=>one_le _
  omega
 unfold iN
 rw [hg]
 simp only [Option.bind_some]
 have key:=mI (List.range (xs.length-1)) (fP l (xs,ys)) (fun k=>(ps (fun x=>rK (fun y=>one (cov l x y)) ys) xs k,(k:Int))) (rK (fun x=>rK (fun y=>one (cov l x y)) ys) xs) (fun k _ hk=>?_) ?_
 ·have e0:ps (fun x=>rK (fun y=>one (cov l x y)) ys) xs 0=0:=by simp [ps,eX]
  rw [e0,Wc hH] at key
  have key':aJ (fP l (xs,ys)) (0,0)=some (eM MM (cov l)):=key
  rw [key'];rfl
 ·have hkn:k<xs.length-1:=by have:=pR hk;simpa using this
  have hlen:=hX.len
  have h1:xs[k]?=some (xs[k]'(by omega)):=List.getElem?_eq_getElem (by omega)
  have h2:xs[k+1]?=some (xs[k+1]'(by omega)):=List.getElem?_eq_getElem (by omega)
  have hxx:=Hk hX.asc (Nat.lt_succ_self k) h1 h2
  have w1:=hX.within _ (List.mem_of_getElem? h1)
  have w2:=hX.within _ (List.mem_of_getElem? h2)
  obtain ⟨p1,p2⟩:=CB hX (c:=2097152) (by omega) hG (k:=k) (by omega)
  have hin:=Ph hv (show l.length≤1000 by omega) hY (show k≤1000 by omega) h1 h2 (by omega) ⟨w1,w2⟩ (ps (fun x=>rK (fun y=>one (cov l x y)) ys) xs k) (acc:=ps (fun x=>rK (fun y=>one (cov l x y)) ys) xs k) (by omega)
  have hk1:aH (k:Int) 1=((k+1:Nat):Int):=fB k (by omega)
  unfold fP
  have hd:decide (((k+1:Nat):Int)<(xs.length:Int))=true:=by rw [decide_eq_true_eq];omega
  simp only [hk1,hd,if_true,hin,Option.bind_some]
  rw [Th _ h1 h2]
 ·rw [List.length_range,Hv]
  have hlen:=hX.len
  unfold fP
  have:aH ((xs.length-1:Nat):Int) 1=((xs.length-1+1:Nat):Int):=fB _ (by omega)
  have hd:decide (((xs.length-1+1:Nat):Int)<(xs.length:Int))=false:=by rw [decide_eq_false_iff_not];omega
  simp only [this,hd,Bool.false_eq_true,if_false]
end Go.SM
namespace Go.SM
open Go Go.VI
def inB (a b:Int) (r:aE):Prop:=a≤r.X∧r.X+r.W≤a+1048576∧b≤r.Y∧r.Y+r.H≤b+1048576
structure VP (x:aL):Prop where
 n1:x.aD.length≤12
 n0:0<x.aD.length
 n2:x.bB.length≤12
 n3:x.Forms.length≤12
 v1:∀ r ∈ x.aD,vR r∧inB 0 0 r
 v2:∀ r ∈ x.bB,vR r∧inB 0 0 r
 v3:∀ r ∈ x.Forms,vR r∧inB 0 0 r
theorem Cs {l:List aE} (h:(l.any fun x=>!decide (vR x))=false):∀ r ∈ l,vR r:=by
 intro r hr
 have:=List.any_eq_false.1 h r hr
 simpa using this
theorem Oi {l:List aE} {g:aE→Int}:∀ {a:Int},l.foldl (fun s r=>min s (g r)) a≤a∧∀ r ∈ l,l.foldl (fun s r=>min s (g r)) a≤g r:=by
 induction l with
 | nil=>intro a;exact ⟨Int.le_refl _,fun r hr=>absurd hr (by simp)⟩
 | cons x l ih =>
   intro a
   obtain ⟨h1,h2⟩:=ih (a:=min a (g x))
   refine ⟨by simp only [List.foldl_cons];omega,fun r hr=>?_⟩
   simp only [List.foldl_cons]
   rcases List.mem_cons.1 hr with rfl | hr
   ·omega
   ·exact h2 r hr
theorem Ln {l:List aE} {g:aE→Int}:∀ {a:Int},l.foldl (fun s r=>min s (g r)) a=a∨∃ r ∈ l,l.foldl (fun s r=>min s (g r)) a=g r:=by
 induction l with
 | nil=>intro a;exact .inl rfl
 | cons x l ih =>
   intro a
   simp only [List.foldl_cons]
   rcases ih (a:=min a (g x)) with h | ⟨r,hr,h⟩
   ·rw [h]
    by_cases hx:a≤g x
    ·left;omega
    ·right;exact ⟨x,by simp,by omega⟩
   ·exact .inr ⟨r,by simp [hr],h⟩
theorem ET {x:aL} {r0:aE} (k1:x.aD.length≤12) (k0:0<x.aD.length) (k2:x.bB.length≤12) (k3:x.Forms.length≤12) (v1:(x.aD.any fun x=>!decide (vR x))=false) (v2:(x.bB.any fun x=>!decide (vR x))=false) (v3:(x.Forms.any fun x=>!decide (vR x))=false)
  (v4:(List.range (x.bB++x.Forms).length).any (pE x (x.bB++x.Forms))=false) (hr:x.aD[0]?=some r0) (m1:lI x.aD r0.X=0) (m2:lJ x.aD r0.Y=0):VP x:=by
 have b1:∀ r ∈ x.aD,inB 0 0 r:=fun r hr=>by
  have q:=Cs v1 r hr
  have h1:=(Oi (l:=x.aD) (g:=fun r=>r.X) (a:=r0.X)).2 r hr
  have h2:=(Oi (l:=x.aD) (g:=fun r=>r.Y) (a:=r0.Y)).2 r hr
  have e1:x.aD.foldl (fun s r=>min s r.X) r0.X=0:=m1
  have e2:x.aD.foldl (fun s r=>min s r.Y) r0.Y=0:=m2
  rw [e1] at h1;rw [e2] at h2
  unfold vR at q;unfold inB;omega
 have b4 : ∀ c ∈ x.bB++x.Forms,vR c→inB 0 0 c:=fun c hc hv=>by
  obtain ⟨k,hk⟩:=List.mem_iff_getElem?.1 hc
  have hkl:=(List.getElem?_eq_some_iff.1 hk).1
  have h:=List.any_eq_false.1 v4 k (List.mem_range.2 hkl)
  unfold pE at h
  rw [hk] at h
  simp only [Bool.or_eq_true,not_or] at h
  have h':x.aD.any (mT c)=true:=by simpa using h.1
  obtain ⟨r,hr,hd⟩:=List.any_eq_true.1 h'
  have q:=Cs v1 r hr
  have q2:=b1 r hr
  unfold mT at hd
  unfold vR at q hv
  rw [aM (by omega) (by omega),aM (by omega) (by omega),aM (by omega) (by omega),aM (by omega) (by omega)] at hd
  unfold inB at q2 ⊢
  by_cases t1:c.X>r.X
  ·by_cases t2:c.Y>r.Y
   ·by_cases t3:c.X+c.W<r.X+r.W
    ·simp only [t1,t2,t3,if_true,decide_eq_true_eq] at hd
     omega
    ·simp [t1,t2,t3] at hd
   ·simp [t1,t2] at hd
  ·simp [t1] at hd
 exact ⟨k1,k0,k2,k3,fun r hr=>⟨Cs v1 r hr,b1 r hr⟩,fun r hr=>⟨Cs v2 r hr,b4 r (List.mem_append.2 (.inl hr)) (Cs v2 r hr)⟩,fun r hr=>⟨Cs v3 r hr,b4 r (List.mem_append.2 (.inr hr)) (Cs v3 r hr)⟩⟩
theorem pP (x:aL):∃ b,aR x=some b∧bO x=some b∧(b=0→VP x):=by
 obtain ⟨a,ha,ha'⟩:=kG x.Name
 obtain ⟨b,hb,hb'⟩:=kG x.aU
 unfold aR bO
 rw [ha,hb,Et ha' hb']
 cases a with
 | false=>exact ⟨2,rfl,rfl,fun h=>absurd h (by decide)⟩
 | true =>
 cases b with
 | false=>exact ⟨2,rfl,rfl,fun h=>absurd h (by decide)⟩
 | true =>
 simp only [Option.bind_some,uN,Bool.and_self,if_true,Bool.not_true,Bool.false_eq_true,if_false]
 by_cases h1:(1≤x.bZ∧x.bZ≤60)∧0≤x.bF∧x.bF≤2
 ·simp only [h1,and_self,decide_true,if_true,Option.bind_some,Bool.not_true,Bool.false_eq_true,if_false,bne_self_eq_false]
  by_cases l1:(x.aD.length:Int)>12
  ·exact ⟨4,by simp [l1],by simp [l1],fun h=>absurd h (by decide)⟩
  by_cases l2:(x.bB.length:Int)>12
  ·exact ⟨4,by simp [l2],by simp [l2],fun h=>absurd h (by decide)⟩
  by_cases l3:(x.Forms.length:Int)>12
  ·exact ⟨4,by simp [l3],by simp [l3],fun h=>absurd h (by decide)⟩
  have k1:x.aD.length≤12:=by omega
  have k2:x.bB.length≤12:=by omega
  have k3:x.Forms.length≤12:=by omega
  simp only [l1,l2,l3,decide_false,Bool.false_eq_true,if_false,Option.bind_some]
  by_cases h0:(x.aD.length:Int)=0
  ·exact ⟨1,by simp [h0],by simp [h0],fun h=>absurd h (by decide)⟩
  have h0':((x.aD.length:Int)==0)=false:=by rw [beq_eq_false_iff_ne];exact h0
  simp only [h0',Bool.false_eq_true,if_false,eE x.aD (by omega),eE x.bB (by omega),eE x.Forms (by omega),jS x.aD (by omega),jS x.bB (by omega),jS x.Forms (by omega),Option.bind_some]
  cases v1:(x.aD.any fun x=>!decide (vR x)) with
  | true=>exact ⟨1,rfl,rfl,fun h=>absurd h (by decide)⟩
  | false =>
  cases v2:(x.bB.any fun x=>!decide (vR x)) with
  | true=>exact ⟨1,rfl,rfl,fun h=>absurd h (by decide)⟩
  | false =>
  cases v3:(x.Forms.any fun x=>!decide (vR x)) with
  | true=>exact ⟨1,rfl,rfl,fun h=>absurd h (by decide)⟩
  | false =>
  have hr:x.aD[0]?=some (x.aD[0]'(by omega)):=by simp [show 0<x.aD.length by omega]
  have i0:idx x.aD 0=some (x.aD[0]'(by omega)):=aX (k:=0) hr
  obtain ⟨cn,c1,c2⟩:=uA (l:=x.aD) (by omega) (by omega)
  have ap1:app [] x.bB=some x.bB:=by rw [pM (by unfold LIM;simp;omega)];rfl
  have ap2:app x.bB x.Forms=some (x.bB++x.Forms):=pM (by unfold LIM;omega)
  have k4:(x.bB++x.Forms).length≤1000:=by simp;omega
  simp only [Bool.not_false,Bool.not_true,if_true,Bool.false_eq_true,if_false,Option.bind_some,i0,Av x (by omega),Ji x (by omega) hr,ov3 x (by omega),ES x (by omega),c1,c2]
  generalize x.aD[0]'(by omega)=r0 at hr i0 ⊢
  by_cases m1:lI x.aD r0.X=0
  ·by_cases m2:lJ x.aD r0.Y=0
   ·simp only [m1,m2,bne_self_eq_false,Bool.false_eq_true,if_false,Option.bind_some]
    cases (List.range x.aD.length).any (oW gK x.aD) with
    | true=>exact ⟨7,rfl,rfl,fun h=>absurd h (by decide)⟩
    | false =>
    cases cn with
    | false=>exact ⟨6,rfl,rfl,fun h=>absurd h (by decide)⟩
    | true =>
    simp only [Bool.not_true,Bool.false_eq_true,if_false,Option.bind_some]
    unfold pS
    simp only [ap1,ap2,Option.bind_some,Bo x _ k4 (show x.aD.length≤1000 by omega),Ka x _ k4 (show x.aD.length≤1000 by omega),in3 _ k4,ER _ k4]
    cases v4:(List.range (x.bB++x.Forms).length).any (pE x (x.bB++x.Forms)) with
    | true=>exact ⟨13,rfl,rfl,fun h=>absurd h (by decide)⟩
    | false =>
    cases (List.range (x.bB++x.Forms).length).any (oW wL (x.bB++x.Forms)) with
    | true=>exact ⟨7,rfl,rfl,fun h=>absurd h (by decide)⟩
    | false=>exact ⟨0,rfl,rfl,fun _=>ET k1 (by omega) k2 k3 v1 v2 v3 v4 hr m1 m2⟩
   ·have m2':(lJ x.aD r0.Y != 0)=true:=by rw [bne_iff_ne];exact m2
    simp only [m1,m2',bne_self_eq_false,Bool.false_eq_true,if_false,Option.bind_some,if_true]
    exact ⟨1,rfl,rfl,fun h=>absurd h (by decide)⟩
  ·have m1':(lI x.aD r0.X != 0)=true:=by rw [bne_iff_ne];exact m1
   simp only [m1',Option.bind_some,if_true]
   exact ⟨1,rfl,rfl,fun h=>absurd h (by decide)⟩
 ·exact ⟨1,by simp only [h1,decide_false];rfl,by simp only [h1,if_false];rfl,fun h=>absurd h (by decide)⟩
end Go.SM
end
