/- What the functions compute, part 2. -/
import Derived.Test.YtonmponhpfpokaaGreatRPl1
set_option linter.unusedVariables false
set_option linter.unusedSimpArgs false
set_option linter.unusedSectionVars false
noncomputable section
namespace Go.SM
open Go Go.VI
theorem Ef {α β:Type} (l:List α) (f:α→β) (body:Int×List β→Option ((Int×List β) ⊕ List β)) (hl:l.length≤1000) (step:∀ (k:Nat) x acc,l[k]?=some x→body ((k:Int),acc)=(app acc [f x]).bind fun l'=>some (.inl (((k+1:Nat):Int),l'))) (fin:∀ acc,body ((l.length:Int),acc)=some (.inr acc)) :
  aJ body (0,[])=some (l.map f):=by
 refine mI l body (fun k=>((k:Int),(l.take k).map f)) _ (fun k x hx=>?_) ?_
 ·have hk:=(List.getElem?_eq_some_iff.1 hx).1
  rw [step k x _ hx,pM (by unfold LIM;simp;omega)]
  simp only [Option.bind_some]
  rw [List.take_add_one,hx]
  simp
 ·rw [fin,List.take_length]
def qR (r:aE):aE:=⟨-(r.Y+r.H),r.X,r.H,r.W⟩
theorem Kw {r:aE} (h:vR r):vR (qR r):=by unfold vR at h ⊢;simp only [qR];omega
theorem EY {a b:Int} {r:aE} (h:inB a b r):inB (-(b+1048576)) a (qR r):=by unfold inB at h ⊢;simp only [qR];omega
def Good (a b:Int) (l:List aE):Prop:=l.length≤12∧∀ r ∈ l,vR r∧inB a b r
theorem Good.q {a b:Int} {l:List aE} (h:Good a b l):Good (-(b+1048576)) a (l.map qR):=by
 refine ⟨by rw [List.length_map];exact h.1,fun r hr=>?_⟩
 obtain ⟨x,hx,rfl⟩:=List.mem_map.1 hr
 exact ⟨Kw (h.2 x hx).1,EY (h.2 x hx).2⟩
theorem EF {r:aE} (h:vR r):qD r=some (qR r):=by
 unfold vR at h
 unfold qD qR
 rw [Bq (by omega) (by omega),bP (by omega) (by omega)]
 congr 2
 omega
theorem Jl {a b:Int} {l:List aE} (h:Good a b l):mH l=some (l.map qR):=by
 unfold mH
 rw [Ef l qR (nO l) (by have:=h.1;omega) (fun k x acc hx=>?_) (fun acc=>?_)]
 ·rfl
 ·have hk:=(List.getElem?_eq_some_iff.1 hx).1
  have:=h.1
  unfold nO
  have h1:decide ((k:Int)<(l.length:Int))=true:=by simp;omega
  simp only [h1,if_true,aX hx,Option.bind_some,EF (h.2 x (List.mem_of_getElem? hx)).1]
  rw [aM (a:=(k:Int)) (by omega) (by omega)]
  rfl
 ·simp [nO]
theorem Bc {a b:Int} {l:List aE} (h:Good a b l):fR l=some (l.map qR):=by
 unfold fR
 rw [Ef l qR (gG l) (by have:=h.1;omega) (fun k x acc hx=>?_) (fun acc=>?_)]
 ·rfl
 ·have hk:=(List.getElem?_eq_some_iff.1 hx).1
  have:=h.1
  have hv:=(h.2 x (List.mem_of_getElem? hx)).1
  unfold vR at hv
  unfold gG
  have h1:decide ((k:Int)<(l.length:Int))=true:=by simp;omega
  simp only [h1,if_true,aX hx,Option.bind_some]
  rw [aM (a:=(k:Int)) (by omega) (by omega),aM (by omega) (by omega),Bq (by omega) (by omega)]
  rfl
 ·simp [gG]
theorem CR (f:Flat) (h:f.kB=[]):aJ (cW f) (0,[])=some []:=by
 refine dF ?_
 unfold cW
 rw [h];rfl
theorem Rg {a b:Int} {R C F:List aE} (h1:Good a b R) (h2:Good a b C) (h3:Good a b F):tF ⟨R,C,F,[]⟩=some ⟨R.map qR,C.map qR,F.map qR,[]⟩:=by
 unfold tF dP
 rw [CR _ rfl,Jl h1,Jl h2,Jl h3]
 rfl
def tq:Nat→List aE→List aE
 | 0,l=>l
 | n+1,l=>(tq n l).map qR
def ta:Nat→Int×Int→Int×Int
 | 0,p=>p
 | n+1,p=>(-((ta n p).2+1048576),(ta n p).1)
theorem Good.tq {l:List aE} (h:Good 0 0 l):∀ n,Good (ta n (0,0)).1 (ta n (0,0)).2 (SM.tq n l)
 | 0=>h
 | n+1=>(Good.tq h n).q
theorem Vq {R C F:List aE} (h1:Good 0 0 R) (h2:Good 0 0 C) (h3:Good 0 0 F) (n:Nat) (hn:n≤3):aJ (mB (n:Int)) (0,R,C,F,[])=some (tq n R,tq n C,tq n F,[]):=by
 have:=mI (List.range n) (mB (n:Int)) (fun k=>((k:Int),tq k R,tq k C,tq k F,[])) (tq n R,tq n C,tq n F,[]) (fun k x hx=>?_) ?_
 ·exact this
 ·have hk:=(List.getElem?_eq_some_iff.1 hx).1
  rw [List.length_range] at hk
  unfold mB
  have h1':decide ((k:Int)<(n:Int))=true:=by simp;omega
  simp only [h1',if_true,Rg (h1.tq k) (h2.tq k) (h3.tq k),Option.bind_some]
  rw [aM (a:=(k:Int)) (by omega) (by omega)]
  rfl
 ·simp [mB]
theorem Rl {R C F:List aE} (h1:Good 0 0 R) (h2:Good 0 0 C) (h3:Good 0 0 F) (n:Nat) (hn:n≤3):aJ (eV (n:Int)) (0,R,C,F)=some (tq n R,tq n C,tq n F):=by
 have:=mI (List.range n) (eV (n:Int)) (fun k=>((k:Int),tq k R,tq k C,tq k F)) (tq n R,tq n C,tq n F) (fun k x hx=>?_) ?_
 ·exact this
 ·have hk:=(List.getElem?_eq_some_iff.1 hx).1
  rw [List.length_range] at hk
  unfold eV
  have h1':decide ((k:Int)<(n:Int))=true:=by simp;omega
  simp only [h1',if_true,Bc (h1.tq k),Bc (h2.tq k),Bc (h3.tq k),Option.bind_some]
  rw [aM (a:=(k:Int)) (by omega) (by omega)]
  rfl
 ·simp [eV]
theorem yC (n:Nat) (l:List aE):(tq n l).length=l.length:=by
 induction n with
 | zero=>rfl
 | succ n ih=>rw [tq,List.length_map,ih]
def mvR (x y:Int) (r:aE):aE:=⟨aH r.X x,aH r.Y y,r.W,r.H⟩
theorem Bt (a b:Int) (ha : -4194304≤a∧a≤4194304) (hb : -4194304≤b∧b≤4194304):aH a (jT b)=aQ a b:=by
 rw [Bq (by omega) (by omega),aM (by omega) (by omega),bP (by omega) (by omega)];omega
theorem rA {a b:Int} {l:List aE} (h:Good a b l) (x y:Int):gX l x y=some (l.map (mvR x y)):=by
 unfold gX
 rw [Ef l (mvR x y) (iF l x y) (by have:=h.1;omega) (fun k r acc hx=>?_) (fun acc=>?_)]
 ·rfl
 ·have hk:=(List.getElem?_eq_some_iff.1 hx).1
  have:=h.1
  have hv:=(h.2 r (List.mem_of_getElem? hx)).1
  unfold vR at hv
  unfold iF lB
  have h1:decide ((k:Int)<(l.length:Int))=true:=by simp;omega
  have g1:decide (r.X > -2147483648)=true:=by simp;omega
  have g2:decide (r.X<2147483648)=true:=by simp;omega
  have g3:decide (r.Y > -2147483648)=true:=by simp;omega
  have g4:decide (r.Y<2147483648)=true:=by simp;omega
  simp only [h1,if_true,aX hx,Option.bind_some,g1,g2,g3,g4]
  rw [aM (a:=(k:Int)) (by omega) (by omega)]
  rfl
 ·simp [iF]
theorem mv0 {a b:Int} {l:List aE} (h:Good a b l):l.map (mvR 0 0)=l:=by
 conv=>rhs;rw [← List.map_id l]
 refine List.map_congr_left fun r hr=>?_
 have hv:=(h.2 r hr).1
 unfold vR at hv
 unfold mvR
 rw [aM (by omega) (by omega),aM (by omega) (by omega),Int.add_zero,Int.add_zero]
 rfl
theorem Bd {a b:Int} {l:List aE} (h:Good a b l) (mx my w ht:Int) (hx : -1048576≤mx∧mx≤1048576) (hy : -1048576≤my∧my≤1048576):lL l mx my w ht=some (l.map (mvR (jT mx) (jT my))):=by
 unfold lL
 rw [Ef l (mvR (jT mx) (jT my)) (mU l mx my w ht) (by have:=h.1;omega) (fun k r acc hr=>?_) (fun acc=>?_)]
 ·rfl
 ·have hk:=(List.getElem?_eq_some_iff.1 hr).1
  have:=h.1
  have hv:=(h.2 r (List.mem_of_getElem? hr)).1
  unfold vR at hv
  unfold mU uC
  have h1:decide ((k:Int)<(l.length:Int))=true:=by simp;omega
  simp only [h1,if_true,aX hr,Option.bind_some,mvR]
  rw [aM (a:=(k:Int)) (by omega) (by omega),Bt _ _ (by omega) (by omega),Bt _ _ (by omega) (by omega)]
  rfl
 ·simp [mU]
theorem kH {a b mx my:Int} {l:List aE} (h:Good a b l) (hx:a≤mx∧mx≤a+1048576) (hy:b≤my∧my≤b+1048576) (qx : -1048576≤mx∧mx≤1048576) (qy : -1048576≤my∧my≤1048576):Good (a-mx) (b-my) (l.map (mvR (jT mx) (jT my))):=by
 refine ⟨by rw [List.length_map];exact h.1,fun r hr=>?_⟩
 obtain ⟨x,hxm,rfl⟩:=List.mem_map.1 hr
 obtain ⟨p1,p2⟩:=h.2 x hxm
 have hv:=p1
 unfold vR at hv
 unfold mvR
 rw [Bt _ _ (by omega) (by omega),Bt _ _ (by omega) (by omega),bP (by omega) (by omega),bP (by omega) (by omega)]
 unfold inB at p2 ⊢
 unfold vR
 simp only
 omega
theorem Ud {l:List aE} (hl:l.length≤12) {r:aE} {t:List aE} (hc:l=r::t):∃ w h p q u v,vZ l=some (⟨lI l r.X,lJ l r.Y,w,h⟩,p,q,u,v):=by
 have i0:idx l 0=some r:=by rw [hc];rfl
 have hlt:l.length=t.length+1:=by rw [hc];rfl
 have e1:slc l 1 (l.length:Int)=some t:=by
  unfold slc
  rw [if_pos (by omega)]
  have:(l.length:Int).toNat=l.length:=by omega
  rw [this,List.take_length,hc];rfl
 let F:Int×Int×Int×Int→aE→Int×Int×Int×Int:=fun s x=>(cM s.1 x.X,cM s.2.1 x.Y,aQ (imax (aH s.1 s.2.2.1) (aH x.X x.W)) (cM s.1 x.X),aQ (imax (aH s.2.1 s.2.2.2) (aH x.Y x.H)) (cM s.2.1 x.Y))
 have key:aJ (nC t) (0,r.X,r.Y,r.W,r.H)=some (t.foldl F (r.X,r.Y,r.W,r.H)):=by
  refine mI t (nC t) (fun k=>((k:Int),(t.take k).foldl F (r.X,r.Y,r.W,r.H))) _ (fun k x hx=>?_) ?_
  ·have hk:=(List.getElem?_eq_some_iff.1 hx).1
   unfold nC
   have h1:decide ((k:Int)<(t.length:Int))=true:=by simp;omega
   have e:t.take (k+1)=t.take k++[x]:=by rw [List.take_add_one,hx];rfl
   simp only [h1,if_true,aX hx,Option.bind_some,e]
   rw [aM (a:=(k:Int)) (by omega) (by omega),List.foldl_append]
   rfl
  ·simp [nC]
 have hX:∀ (t:List aE) (s:Int×Int×Int×Int),(t.foldl F s).1=t.foldl (fun s r=>min s r.X) s.1∧(t.foldl F s).2.1=t.foldl (fun s r=>min s r.Y) s.2.1:=by
  intro t
  induction t with
  | nil=>intro s;exact ⟨rfl,rfl⟩
  | cons x t ih =>
    intro s
    simp only [List.foldl_cons]
    obtain ⟨a,b⟩:=ih (F s x)
    rw [a,b]
    have q1:(F s x).1=min s.1 x.X:=Bp _ _
    have q2:(F s x).2.1=min s.2.1 x.Y:=Bp _ _
    rw [q1,q2]
    exact ⟨rfl,rfl⟩
 obtain ⟨a,b⟩:=hX t (r.X,r.Y,r.W,r.H)
 refine ⟨(t.foldl F (r.X,r.Y,r.W,r.H)).2.2.1,(t.foldl F (r.X,r.Y,r.W,r.H)).2.2.2,(t.foldl F (r.X,r.Y,r.W,r.H)).1,(t.foldl F (r.X,r.Y,r.W,r.H)).2.1,(t.foldl F (r.X,r.Y,r.W,r.H)).2.2.1,(t.foldl F (r.X,r.Y,r.W,r.H)).2.2.2, ?_⟩
 unfold vZ
 rw [i0]
 simp only [Option.bind_some,e1,key]
 have c1:lI l r.X=(t.foldl F (r.X,r.Y,r.W,r.H)).1:=by rw [a,hc];unfold lI;simp only [List.foldl_cons,Int.min_self]
 have c2:lJ l r.Y=(t.foldl F (r.X,r.Y,r.W,r.H)).2.1:=by rw [b,hc];unfold lJ;simp only [List.foldl_cons,Int.min_self]
 rw [c1,c2]
theorem Mo {a b:Int} {l:List aE} (h:Good a b l) {r:aE} {t:List aE} (hc:l=r::t):(a≤lI l r.X∧lI l r.X≤a+1048576∧-1048576≤lI l r.X∧lI l r.X≤1048576)∧(b≤lJ l r.Y∧lJ l r.Y≤b+1048576∧-1048576≤lJ l r.Y∧lJ l r.Y≤1048576):=by
 have hr:r ∈ l:=by rw [hc];simp
 constructor
 ·obtain ⟨x,hx,e⟩:∃ x ∈ l,lI l r.X=x.X:=by
   rcases Ln (l:=l) (g:=fun r=>r.X) (a:=r.X) with e | ⟨x,hx,e⟩
   ·exact ⟨r,hr,e⟩
   ·exact ⟨x,hx,e⟩
  have p:=h.2 x hx
  unfold vR inB at p
  omega
 ·obtain ⟨x,hx,e⟩:∃ x ∈ l,lJ l r.Y=x.Y:=by
   rcases Ln (l:=l) (g:=fun r=>r.Y) (a:=r.Y) with e | ⟨x,hx,e⟩
   ·exact ⟨r,hr,e⟩
   ·exact ⟨x,hx,e⟩
  have p:=h.2 x hx
  unfold vR inB at p
  omega
theorem EV {a b:Int} {l:List aE} (h:Good a b l):aJ (oB l) 0=some (.inr ()):=by
 have:=dA l (oB l) (fun k=>(k:Int)) (fun x=>!decide (vR x)) (.inr ()) (.inl ()) rfl (fun k x hx=>?_) ?_
 ·refine this.trans ?_
  have:l.any (fun x=>!decide (vR x))=false:=by
   rw [List.any_eq_false];intro x hx;simp [(h.2 x hx).1]
  rw [this];rfl
 ·have hk:=(List.getElem?_eq_some_iff.1 hx).1
  have:=h.1
  unfold oB
  have h1:decide ((k:Int)<(l.length:Int))=true:=by simp;omega
  simp only [h1,if_true,aX hx,Option.bind_some,kK]
  rw [aM (a:=(k:Int)) (by omega) (by omega)]
  rfl
 ·simp [oB]
theorem Nz {a b:Int} {R C F:List aE} (h1:Good a b R) (h2:Good a b C) (h3:Good a b F) (h0:0<R.length):uB ⟨R,C,F,[]⟩=some 0:=by
 unfold uB
 have e0:((R.length:Int)==0)=false:=by rw [beq_eq_false_iff_ne];omega
 have key:aJ (oD ⟨R,C,F,[]⟩) 0=some (.inr ()):=by
  have:=dA [R,C,F] (oD ⟨R,C,F,[]⟩) (fun k=>(k:Int)) (fun _=>false) (.inr ()) (.inl ()) rfl (fun k x hx=>?_) ?_
  ·refine this.trans ?_;simp
  ·have hk:=(List.getElem?_eq_some_iff.1 hx).1
   have hm:x=R∨x=C∨x=F:=by have:=List.mem_of_getElem? hx;simpa using this
   have hg:Good a b x:=by rcases hm with rfl | rfl | rfl <;> assumption
   have h4:decide ((k:Int)<(([R,C,F]:List (List aE)).length:Int))=true:=by rw [decide_eq_true_eq];exact Int.ofNat_lt.2 hk
   have h5:decide ((x.length:Int)>48)=false:=by have:=hg.1;simp;omega
   have hk':k<3:=hk
   unfold oD
   simp only [h4,if_true,aX hx,Option.bind_some,h5,Bool.false_eq_true,if_false,EV hg]
   rw [aM (a:=(k:Int)) (by omega) (by omega)]
   rfl
  ·simp [oD]
 have b0:aJ (wR ⟨R,C,F,[]⟩) 0=some (.inr ()):=dF (by simp [wR])
 simp only [e0,Bool.false_eq_true,if_false,key,b0,Option.bind_some]
theorem CS (f:Flat) (h:f.kB=[]) (a b c d:Int):aJ (cX f a b c d) (0,[])=some []:=by
 refine dF ?_
 unfold cX
 rw [h];rfl
theorem Rp {a b:Int} {R C F:List aE} (h1:Good a b R) (h2:Good a b C) (h3:Good a b F) {r:aE} {t:List aE} (hc:R=r::t) :
  tG ⟨R,C,F,[]⟩=some (⟨R.map (mvR (jT (lI R r.X)) (jT (lJ R r.Y))),C.map (mvR (jT (lI R r.X)) (jT (lJ R r.Y))),F.map (mvR (jT (lI R r.X)) (jT (lJ R r.Y))),[]⟩,0):=by
 obtain ⟨w,h,p,q,u,v,e⟩:=Ud h1.1 hc
 obtain ⟨⟨lx1,lx2,lx3,lx4⟩,ly1,ly2,ly3,ly4⟩:=Mo h1 hc
 unfold tG
 rw [e]
 simp only [Option.bind_some]
 unfold dQ
 rw [CS _ rfl,Bd h1 _ _ _ _ ⟨lx3,lx4⟩ ⟨ly3,ly4⟩,Bd h2 _ _ _ _ ⟨lx3,lx4⟩ ⟨ly3,ly4⟩,Bd h3 _ _ _ _ ⟨lx3,lx4⟩ ⟨ly3,ly4⟩]
 simp only [Option.bind_some]
 rw [Nz (kH h1 ⟨lx1,lx2⟩ ⟨ly1,ly2⟩ ⟨lx3,lx4⟩ ⟨ly3,ly4⟩) (kH h2 ⟨lx1,lx2⟩ ⟨ly1,ly2⟩ ⟨lx3,lx4⟩ ⟨ly3,ly4⟩) (kH h3 ⟨lx1,lx2⟩ ⟨ly1,ly2⟩ ⟨lx3,lx4⟩ ⟨ly3,ly4⟩) (by rw [List.length_map,hc];simp)]
 rfl
theorem qJ {l:List aE} (hl:l.length≤12) (x y:Int):rQ l x y=some (l.map (mvR x y)):=by
 unfold rQ
 have hmk:mk (l.length:Int) (aE.mk 0 0 0 0)=some (List.replicate l.length ⟨0,0,0,0⟩):=by
  unfold mk;rw [if_pos (by unfold LIM;omega)];simp
 have hc:cpy (List.replicate l.length (aE.mk 0 0 0 0)) 0 (List.take (min l.length (List.replicate l.length (aE.mk 0 0 0 0)).length) l)=l:=by
  unfold cpy;simp
 rw [hmk]
 simp only [Option.bind_some,hc]
 have key:aJ (oO l x y (List.replicate l.length ⟨0,0,0,0⟩)) (0,l)=some (l.map (mvR x y)):=by
  refine mI l (oO l x y (List.replicate l.length ⟨0,0,0,0⟩)) (fun k=>((k:Int),(l.take k).map (mvR x y)++l.drop k)) _ (fun k r hr=>?_) ?_
  ·have hk:=(List.getElem?_eq_some_iff.1 hr).1
   unfold oO
   rw [hc]
   have h1:decide ((k:Int)<(l.length:Int))=true:=by simp;omega
   have ht:((l.take k).map (mvR x y)).length=k:=by simp;omega
   have ed:l.drop k=r::l.drop (k+1):=by rw [List.drop_eq_getElem_cons hk];congr 1;exact (List.getElem?_eq_some_iff.1 hr).2
   have i1:∀ z:aE,idx ((l.take k).map (mvR x y)++z::l.drop (k+1)) (k:Int)=some z:=fun z=>aX (by rw [List.getElem?_append_right (by omega),ht];simp)
   have s1:∀ z z':aE,List.set ((l.take k).map (mvR x y)++z::l.drop (k+1)) k z'=(l.take k).map (mvR x y)++z'::l.drop (k+1):=fun z z'=>by rw [List.set_append_right _ _ (by omega),ht];simp
   simp only [h1,if_true,ed,i1,s1,Option.bind_some,Int.toNat_natCast]
   rw [aM (a:=(k:Int)) (by omega) (by omega)]
   have e:l.take (k+1)=l.take k++[r]:=by rw [List.take_add_one,hr];rfl
   rw [e,List.map_append,List.append_assoc]
   rfl
  ·unfold oO
   rw [hc]
   simp
 rw [key]
 rfl
theorem Tt {x:aL} (h:VP x) (n:Nat) (hn:n≤3) {r:aE} {t:List aE} (hc:tq n x.aD=r::t):lZ x (n:Int)=some (⟨x.Name,x.aU,x.bZ,x.bF,(tq n x.aD).map (mvR (jT (lI (tq n x.aD) r.X)) (jT (lJ (tq n x.aD) r.Y))),(tq n x.bB).map (mvR (jT (lI (tq n x.aD) r.X)) (jT (lJ (tq n x.aD) r.Y))),(tq n x.Forms).map (mvR (jT (lI (tq n x.aD) r.X)) (jT (lJ (tq n x.aD) r.Y)))⟩,x.Name,x.aU,x.bZ,x.bF):=by
 have g1:Good 0 0 x.aD:=⟨h.n1,h.v1⟩
 have g2:Good 0 0 x.bB:=⟨h.n2,h.v2⟩
 have g3:Good 0 0 x.Forms:=⟨h.n3,h.v3⟩
 have hl:(tq n x.aD).length≤1000:=by rw [yC];have:=h.n1;omega
 unfold lZ iO
 simp only [rA g1,rA g2,rA g3,mv0 g1,mv0 g2,mv0 g3,Option.bind_some,Rl g1 g2 g3 n hn]
 have le:=Ji ⟨x.Name,x.aU,x.bZ,x.bF,tq n x.aD,[],[]⟩ (show (tq n x.aD).length≤1000 from hl) (r:=r) (show (tq n x.aD)[0]?=some r by rw [hc];rfl)
 have le':fA (tq n x.aD)=some (lI (tq n x.aD) r.X,lJ (tq n x.aD) r.Y):=le
 simp only [le',Option.bind_some,rA (g1.tq n),rA (g2.tq n),rA (g3.tq n)]
theorem Cq {x:aL} (h:VP x) (n:Nat) (hn:n≤3) {r:aE} {t:List aE} (hc:tq n x.aD=r::t):pY ⟨x.aD,x.bB,x.Forms,[]⟩ (n:Int)=some (⟨(tq n x.aD).map (mvR (jT (lI (tq n x.aD) r.X)) (jT (lJ (tq n x.aD) r.Y))),(tq n x.bB).map (mvR (jT (lI (tq n x.aD) r.X)) (jT (lJ (tq n x.aD) r.Y))),(tq n x.Forms).map (mvR (jT (lI (tq n x.aD) r.X)) (jT (lJ (tq n x.aD) r.Y))),[]⟩,0):=by
 have g1:Good 0 0 x.aD:=⟨h.n1,h.v1⟩
 have g2:Good 0 0 x.bB:=⟨h.n2,h.v2⟩
 have g3:Good 0 0 x.Forms:=⟨h.n3,h.v3⟩
 unfold pY
 have t1:decide ((n:Int)<0)=false:=by simp
 have t2:decide ((n:Int)>3)=false:=by simp;omega
 have t3:aJ (sZ ⟨x.aD,x.bB,x.Forms,[]⟩) ()=some ():=dF (by simp [sZ])
 simp only [Nz g1 g2 g3 h.n0,Option.bind_some,bne_self_eq_false,Bool.false_eq_true,if_false,t1,t2,Vq g1 g2 g3 n hn,t3,Rp (g1.tq n) (g2.tq n) (g3.tq n) hc]
theorem Vw (x:aL) (p:aP):∃ q c n m g k,lN x p=some (q,c,n,m,g,k)∧gJ x p=some (q,c,n,m,g,k)∧q.aD.length≤12∧q.bB.length≤12∧q.Forms.length≤12∧(c=0→0<q.aD.length):=by
 obtain ⟨b,b1,b2,b3⟩:=pP x
 unfold lN gJ
 rw [b1,b2]
 simp only [Option.bind_some]
 by_cases hb:b=0
 ·subst hb
  have h:=b3 rfl
  simp only [bne_self_eq_false,Bool.false_eq_true,if_false,qE,Option.bind_some,Sz]
  by_cases q1:p.nA<0
  ·simp only [q1,show ¬ (0≤p.nA∧p.nA≤3) by omega,decide_false,decide_true,Bool.not_false,if_true,Option.bind_some]
   exact ⟨_,_,_,_,_,_,rfl,rfl,by simp,by simp,by simp,by decide⟩
  by_cases q2:p.nA>3
  ·simp only [q1,q2,show ¬ (0≤p.nA∧p.nA≤3) by omega,decide_false,decide_true,Bool.not_false,if_true,Option.bind_some,Bool.false_eq_true,if_false]
   exact ⟨_,_,_,_,_,_,rfl,rfl,by simp,by simp,by simp,by decide⟩
  obtain ⟨n,hn⟩:∃ n:Nat,p.nA=n:=⟨p.nA.toNat,by omega⟩
  have hn3:n≤3:=by omega
  have w1:∀ z:Int,wb 1048576 z=decide (-1048576≤z∧z≤1048576):=fun z=>by
   rw [Bool.eq_iff_iff,vA,decide_eq_true_eq]
  simp only [q1,q2,show (0≤p.nA∧p.nA≤3) by omega,and_self,decide_true,decide_false,Bool.not_true,Bool.false_eq_true,if_false,Option.bind_some,w1]
  by_cases q3 : -1048576≤p.X∧p.X≤1048576
  ·by_cases q4 : -1048576≤p.Y∧p.Y≤1048576
   ·simp only [q3,q4,and_self,decide_true,if_true,Bool.not_true,Option.bind_some,Bool.false_eq_true,if_false]
    have hl:(tq n x.aD).length=x.aD.length:=yC n _
    obtain ⟨r,t,hc⟩:∃ r t,tq n x.aD=r::t:=by
     cases e:tq n x.aD with
     | nil=>rw [e] at hl;have:=h.n0;simp at hl;omega
     | cons r t=>exact ⟨r,t,rfl⟩
    have hl2:(tq n x.bB).length=x.bB.length:=yC n _
    have hl3:(tq n x.Forms).length=x.Forms.length:=yC n _
    have g1:Good 0 0 x.aD:=⟨h.n1,h.v1⟩
    have g2:Good 0 0 x.bB:=⟨h.n2,h.v2⟩
    have g3:Good 0 0 x.Forms:=⟨h.n3,h.v3⟩
    obtain ⟨⟨lx1,lx2,lx3,lx4⟩,ly1,ly2,ly3,ly4⟩:=Mo (g1.tq n) hc
    have k1:=kH (g1.tq n) ⟨lx1,lx2⟩ ⟨ly1,ly2⟩ ⟨lx3,lx4⟩ ⟨ly3,ly4⟩
    have k2:=kH (g2.tq n) ⟨lx1,lx2⟩ ⟨ly1,ly2⟩ ⟨lx3,lx4⟩ ⟨ly3,ly4⟩
    have k3:=kH (g3.tq n) ⟨lx1,lx2⟩ ⟨ly1,ly2⟩ ⟨lx3,lx4⟩ ⟨ly3,ly4⟩
    have hT:=Tt h n hn3 hc
    have hQ:=Cq h n hn3 hc
    unfold uL
    rw [hn,hT,hQ]
    simp only [Option.bind_some,bne_self_eq_false,Bool.false_eq_true,if_false]
    generalize hA:(tq n x.aD).map (mvR (jT (lI (tq n x.aD) r.X)) (jT (lJ (tq n x.aD) r.Y)))=A at k1
    generalize hB:(tq n x.bB).map (mvR (jT (lI (tq n x.aD) r.X)) (jT (lJ (tq n x.aD) r.Y)))=B at k2
    generalize hC:(tq n x.Forms).map (mvR (jT (lI (tq n x.aD) r.X)) (jT (lJ (tq n x.aD) r.Y)))=C at k3
    unfold iO
    have e1:=k1.1
    have e2:=k2.1
    have e3:=k3.1
    simp only [rA k1,rA k2,rA k3,qJ k1.1,qJ k2.1,qJ k3.1,Option.bind_some]
    rw [eE _ (by rw [List.length_map];omega),eE _ (by rw [List.length_map];omega),eE _ (by rw [List.length_map];omega),jS _ (by rw [List.length_map];omega),jS _ (by rw [List.length_map];omega),jS _ (by rw [List.length_map];omega)]
    simp only [Option.bind_some]
    generalize ((A.map (mvR p.X p.Y)).any fun x=>!decide (vR x))=c1
    generalize ((B.map (mvR p.X p.Y)).any fun x=>!decide (vR x))=c2
    generalize ((C.map (mvR p.X p.Y)).any fun x=>!decide (vR x))=c3
    cases c1
    ·cases c2
     ·cases c3
      ·exact ⟨_,_,_,_,_,_,rfl,rfl,by simp;omega,by simp;omega,by simp;omega,fun _=>by rw [List.length_map,← hA,List.length_map,hl];exact h.n0⟩
      ·exact ⟨_,_,_,_,_,_,rfl,rfl,by simp,by simp,by simp,by decide⟩
     ·exact ⟨_,_,_,_,_,_,rfl,rfl,by simp,by simp,by simp,by decide⟩
    ·exact ⟨_,_,_,_,_,_,rfl,rfl,by simp,by simp,by simp,by decide⟩
   ·simp only [q3,q4,and_self,decide_true,decide_false,if_true,Bool.not_false,Option.bind_some]
    exact ⟨_,_,_,_,_,_,rfl,rfl,by simp,by simp,by simp,by decide⟩
  ·simp only [q3,decide_false,Bool.false_eq_true,if_false,Option.bind_some,if_true]
   exact ⟨_,_,_,_,_,_,rfl,rfl,by simp,by simp,by simp,by decide⟩
 ·have hb':(b != 0)=true:=by rw [bne_iff_ne];exact hb
  simp only [hb',if_true]
  exact ⟨_,_,_,_,_,_,rfl,rfl,by simp,by simp,by simp,fun e=>absurd e hb⟩
structure Iso (g:aE→aE) (l:List aE):Prop where
 v:∀ a ∈ l,vR a→vR (g a)
 ov:∀ a ∈ l,∀ b ∈ l,gK (g a) (g b)=gK a b
 to:∀ a ∈ l,∀ b ∈ l,jW (g a) (g b)=jW a b
 de:∀ a ∈ l,∀ b ∈ l,mT (g a) (g b)=mT a b
 ze:∀ a ∈ l,∀ b ∈ l,wL (g a) (g b)=wL a b
 th:∀ a ∈ l,(((g a).W==1) || ((g a).H==1))=((a.W==1) || (a.H==1))
def trR (x y:Int) (r:aE):aE:=⟨r.X+x,r.Y+y,r.W,r.H⟩
theorem Eu {a b:aE} (ha:vR a) (hb:vR b):jW a b=some (decide ((min (a.X+a.W) (b.X+b.W)-max a.X b.X=0∧min (a.Y+a.H) (b.Y+b.H)-max a.Y b.Y>0)∨(min (a.Y+a.H) (b.Y+b.H)-max a.Y b.Y=0∧min (a.X+a.W) (b.X+b.W)-max a.X b.X>0))):=by
 unfold vR at ha hb
 unfold jW
 rw [aM (by omega) (by omega),aM (by omega) (by omega),aM (by omega) (by omega),aM (by omega) (by omega)]
 simp only [Bp,Hr]
 rw [bP (by omega) (by omega),bP (by omega) (by omega)]
 generalize min (a.X+a.W) (b.X+b.W)-max a.X b.X=w
 generalize min (a.Y+a.H) (b.Y+b.H)-max a.Y b.Y=h
 by_cases h1:w=0
 ·by_cases h2:h>0
  ·simp [h1,h2]
  ·by_cases h3:h=0
   ·simp [h1,h3]
   ·simp [h1,h2,h3]
 ·by_cases h3:h=0
  ·simp [h1,h3]
  ·simp [h1,h3]
theorem Ds {a b:aE} (ha:vR a) (hb:vR b):mT a b=decide (a.X>b.X∧a.Y>b.Y∧a.X+a.W<b.X+b.W∧a.Y+a.H<b.Y+b.H):=by
 unfold vR at ha hb
 unfold mT
 rw [aM (by omega) (by omega),aM (by omega) (by omega),aM (by omega) (by omega),aM (by omega) (by omega)]
 by_cases h1:a.X>b.X <;> by_cases h2:a.Y>b.Y <;> by_cases h3:a.X+a.W<b.X+b.W <;> simp [h1,h2,h3]
theorem DY {l:List aE} (h:∀ r ∈ l,vR r):Iso qR l:=by
 refine ⟨fun a _ hv=>Kw hv,fun a ha b hb=>?_,fun a ha b hb=>?_,fun a ha b hb=>?_,fun a ha b hb=>?_,fun a ha=>?_⟩
 ·unfold gK
  refine decide_eq_decide.2 ?_
  have p1:=h a ha;have p2:=h b hb;have p3:=Kw p1;have p4:=Kw p2
  unfold ovR
  simp only [p1,p2,p3,p4,true_and]
  simp only [qR]
  omega
 ·rw [Eu (Kw (h a ha)) (Kw (h b hb)),Eu (h a ha) (h b hb)]
  congr 1
  refine decide_eq_decide.2 ?_
  simp only [qR]
  omega
 ·rw [Ds (Kw (h a ha)) (Kw (h b hb)),Ds (h a ha) (h b hb)]
  refine decide_eq_decide.2 ?_
  simp only [qR]
  omega
 ·have p1:=h a ha;have p2:=h b hb;have p3:=Kw p1;have p4:=Kw p2
  have:sP (qR a) (qR b)=sP a b:=by
   unfold sP
   rw [if_pos ⟨p3,p4⟩,if_pos ⟨p1,p2⟩]
   simp only [qR]
   omega
  unfold wL;rw [this]
 ·show ((a.H==1) || (a.W==1))=_
  exact Bool.or_comm _ _
theorem DZ {l:List aE} (x y:Int) (h:∀ r ∈ l,vR r∧vR (trR x y r)):Iso (trR x y) l:=by
 refine ⟨fun a ha _=>(h a ha).2,fun a ha b hb=>?_,fun a ha b hb=>?_,fun a ha b hb=>?_,fun a ha b hb=>?_,fun a ha=>rfl⟩
 ·unfold gK
  refine decide_eq_decide.2 ?_
  have p1:=(h a ha).1;have p2:=(h b hb).1;have p3:=(h a ha).2;have p4:=(h b hb).2
  unfold ovR
  simp only [p1,p2,p3,p4,true_and]
  simp only [trR]
  omega
 ·rw [Eu (h a ha).2 (h b hb).2,Eu (h a ha).1 (h b hb).1]
  congr 1
  refine decide_eq_decide.2 ?_
  simp only [trR]
  omega
 ·rw [Ds (h a ha).2 (h b hb).2,Ds (h a ha).1 (h b hb).1]
  refine decide_eq_decide.2 ?_
  simp only [trR]
  omega
 ·have:sP (trR x y a) (trR x y b)=sP a b:=by
   unfold sP
   rw [if_pos ⟨(h a ha).2,(h b hb).2⟩,if_pos ⟨(h a ha).1,(h b hb).1⟩]
   simp only [trR]
   omega
  unfold wL;rw [this]
theorem Ju {g:aE→aE} {p:aE→aE→Bool} {l:List aE} (h:∀ a ∈ l,∀ b ∈ l,p (g a) (g b)=p a b) (k:Nat):oW p (l.map g) k=oW p l k:=by
 unfold oW
 rw [List.getElem?_map]
 cases e:l[k]? with
 | none=>rfl
 | some x =>
   have hx:=List.mem_of_getElem? e
   simp only [Option.map_some]
   rw [← List.map_take,List.any_map,Bool.eq_iff_iff,List.any_eq_true,List.any_eq_true]
   constructor
   ·rintro ⟨y,hy,q⟩;exact ⟨y,hy,by rw [← h x hx y (List.mem_of_mem_take hy)];exact q⟩
   ·rintro ⟨y,hy,q⟩;exact ⟨y,hy,by show p (g x) (g y)=true;rw [h x hx y (List.mem_of_mem_take hy)];exact q⟩
theorem Sq {α β:Type} (g:α→β) (l:List α) (i:Int):idx (l.map g) i=(idx l i).map g:=by
 unfold idx
 split
 ·rw [List.getElem?_map]
 ·rfl
theorem Zw {g:aE→aE} {l:List aE} (h:∀ a ∈ l,∀ b ∈ l,jW (g a) (g b)=jW a b):iL (l.map g)=iL l:=by
 have mem:∀ {i:Int} {x:aE},idx l i=some x→x ∈ l:=fun {i x} e=>by
  unfold idx at e
  split at e
  ·exact List.mem_of_getElem? e
  ·cases e
 have b2:∀ x:Int,dM (l.map g) x=dM l x:=by
  intro x
  funext s
  unfold dM
  rw [List.length_map,Sq,Sq]
  cases e1:idx l x with
  | none=>rfl
  | some u =>
    cases e2:idx l s.1 with
    | none=>rfl
    | some w =>
      simp only [Option.map_some,Option.bind_some]
      rw [h u (mem e1) w (mem e2)]
 have b3:eH (l.map g)=eH l:=by
  funext s
  unfold eH
  simp only [b2]
 unfold iL
 rw [List.length_map,b3]
structure VG (R C F:List aE):Prop where
 n1:R.length≤12
 n0:0<R.length
 n2:C.length≤12
 n3:F.length≤12
 v:∀ r ∈ R++(C++F),vR r
 ov:∀ k,k<R.length→oW gK R k=false
 co:iL R=some true
 ho:∀ k,k<(C++F).length→∃ x,(C++F)[k]?=some x∧R.any (mT x)=true∧(k<C.length→((x.W==1) || (x.H==1))=false)
 ze:∀ k,k<(C++F).length→oW wL (C++F) k=false
theorem VG.map {R C F:List aE} {g:aE→aE} (h:VG R C F) (i:Iso g (R++(C++F))):VG (R.map g) (C.map g) (F.map g):=by
 have mR:∀ {a:aE},a ∈ R→a ∈ R++(C++F):=fun h=>List.mem_append.2 (.inl h)
 have mC:∀ {a:aE},a ∈ C++F→a ∈ R++(C++F):=fun h=>List.mem_append.2 (.inr h)
 refine ⟨by rw [List.length_map];exact h.n1,by rw [List.length_map];exact h.n0,by rw [List.length_map];exact h.n2,by rw [List.length_map];exact h.n3,fun r hr=>?_,fun k hk=>?_, ?_,fun k hk=>?_,fun k hk=>?_⟩
 ·rw [← List.map_append,← List.map_append] at hr
  obtain ⟨a,ha,rfl⟩:=List.mem_map.1 hr
  exact i.v a ha (h.v a ha)
 ·rw [Ju (fun a ha b hb=>i.ov a (mR ha) b (mR hb))]
  exact h.ov k (by rw [List.length_map] at hk;exact hk)
 ·rw [Zw (fun a ha b hb=>i.to a (mR ha) b (mR hb))];exact h.co
 ·rw [← List.map_append,List.length_map] at hk
  obtain ⟨x,h1,h2,h3⟩:=h.ho k hk
  have hx:=List.mem_of_getElem? h1
  refine ⟨g x,by rw [← List.map_append,List.getElem?_map,h1];rfl, ?_,fun hc=>?_⟩
  ·obtain ⟨r,hr,q⟩:=List.any_eq_true.1 h2
   rw [List.any_eq_true]
   exact ⟨g r,List.mem_map_of_mem hr,by rw [i.de x (mC hx) r (mR hr)];exact q⟩
  ·rw [i.th x (mC hx)];exact h3 (by rw [List.length_map] at hc;exact hc)
 ·rw [← List.map_append] at hk ⊢
  rw [Ju (fun a ha b hb=>i.ze a (mC ha) b (mC hb))]
  exact h.ze k (by rw [List.length_map] at hk;exact hk)
theorem VG.tq {R C F:List aE} (h:VG R C F):∀ n,VG (tq n R) (SM.tq n C) (SM.tq n F)
 | 0=>h
 | n+1=>(VG.tq h n).map (DY (VG.tq h n).v)
theorem Zd {x:aL} (hn:eO x.Name=some true) (hm:eO x.aU=some true) (hp:(1≤x.bZ∧x.bZ≤60)∧0≤x.bF∧x.bF≤2) (h:VG x.aD x.bB x.Forms) {r:aE} (hr:x.aD[0]?=some r) (lx:lI x.aD r.X=0) (ly:lJ x.aD r.Y=0):aR x=some 0:=by
 have i0:idx x.aD 0=some r:=aX (k:=0) hr
 have k1:=h.n1;have k2:=h.n2;have k3:=h.n3;have k0:=h.n0
 have d1:decide ((x.aD.length:Int)>12)=false:=by simp;omega
 have d2:decide ((x.bB.length:Int)>12)=false:=by simp;omega
 have d3:decide ((x.Forms.length:Int)>12)=false:=by simp;omega
 have d0:((x.aD.length:Int)==0)=false:=by rw [beq_eq_false_iff_ne];omega
 have any0:∀ l:List aE,(∀ r ∈ l,vR r)→(l.any fun x=>!decide (vR x))=false:=fun l hl=>by
  rw [List.any_eq_false];intro y hy;simp [hl y hy]
 have a1:=any0 x.aD fun r hr=>h.v r (List.mem_append.2 (.inl hr))
 have a2:=any0 x.bB fun r hr=>h.v r (List.mem_append.2 (.inr (List.mem_append.2 (.inl hr))))
 have a3:=any0 x.Forms fun r hr=>h.v r (List.mem_append.2 (.inr (List.mem_append.2 (.inr hr))))
 have rng:∀ (n:Nat) (p:Nat→Bool),(∀ k,k<n→p k=false)→(List.range n).any p=false:=fun n p hp=>by
  rw [List.any_eq_false];intro k hk;rw [hp k (List.mem_range.1 hk)];simp
 have r1:=rng _ _ h.ov
 have r2:=rng _ (pE x (x.bB++x.Forms)) fun k hk=>by
  obtain ⟨y,h1,h2,h3⟩:=h.ho k hk
  unfold pE
  rw [h1]
  simp only [h2,Bool.not_true,Bool.false_or]
  by_cases hc:k<x.bB.length
  ·rw [h3 hc,Bool.and_false]
  ·have:decide ((k:Int)<(x.bB.length:Int))=false:=by simp;omega
   rw [this,Bool.false_and]
 have r3:=rng _ _ h.ze
 have ap1:app [] x.bB=some x.bB:=by rw [pM (by unfold LIM;simp;omega)];rfl
 have ap2:app x.bB x.Forms=some (x.bB++x.Forms):=pM (by unfold LIM;omega)
 have k4:(x.bB++x.Forms).length≤1000:=by simp;omega
 unfold aR
 simp only [hn,hm,uN,hp,and_self,decide_true,Bool.not_true,Bool.false_eq_true,if_true,if_false,Option.bind_some,d1,d2,d3,d0,eE x.aD (by omega),eE x.bB (by omega),eE x.Forms (by omega),a1,a2,a3,Bool.not_false,i0,Av x (by omega),lx,ly,bne_self_eq_false,ov3 x (by omega),r1,h.co]
 unfold pS
 simp only [ap1,ap2,Option.bind_some,Bo x _ k4 (show x.aD.length≤1000 by omega),r2,in3 _ k4,r3,Bool.false_eq_true,if_false]
theorem Jt {x : aL} (h:aR x=some 0):eO x.Name=some true∧eO x.aU=some true∧((1≤x.bZ∧x.bZ≤60)∧0≤x.bF∧x.bF≤2)∧VG x.aD x.bB x.Forms:=by
 obtain ⟨a,ha,_⟩:=kG x.Name
 obtain ⟨b,hb,_⟩:=kG x.aU
 obtain ⟨z,hz,_,hv⟩:=pP x
 have vp:=hv (Option.some.inj (hz.symm.trans h))
 obtain ⟨cn,c1,_⟩:=uA (l:=x.aD) (by have:=vp.n1;omega) vp.n0
 unfold aR at h
 rw [ha,hb] at h
 cases a with
 | false=>exact absurd (Option.some.inj h) (by decide)
 | true =>
 cases b with
 | false=>exact absurd (Option.some.inj h) (by decide)
 | true =>
 have k1:=vp.n1;have k2:=vp.n2;have k3:=vp.n3;have k0:=vp.n0
 have d1:decide ((x.aD.length:Int)>12)=false:=by simp;omega
 have d2:decide ((x.bB.length:Int)>12)=false:=by simp;omega
 have d3:decide ((x.Forms.length:Int)>12)=false:=by simp;omega
 have d0:((x.aD.length:Int)==0)=false:=by rw [beq_eq_false_iff_ne];omega
 have any0:∀ l:List aE,(∀ r ∈ l,vR r)→(l.any fun x=>!decide (vR x))=false:=fun l hl=>by
  rw [List.any_eq_false];intro y hy;simp [hl y hy]
 have a1:=any0 x.aD fun r hr=>(vp.v1 r hr).1
 have a2:=any0 x.bB fun r hr=>(vp.v2 r hr).1
 have a3:=any0 x.Forms fun r hr=>(vp.v3 r hr).1
 have hr:x.aD[0]?=some (x.aD[0]'k0):=by simp [k0]
 have i0:idx x.aD 0=some (x.aD[0]'k0):=aX (k:=0) hr
 have ap1:app [] x.bB=some x.bB:=by rw [pM (by unfold LIM;simp;omega)];rfl
 have ap2:app x.bB x.Forms=some (x.bB++x.Forms):=pM (by unfold LIM;omega)
 have k4:(x.bB++x.Forms).length≤1000:=by simp;omega
 simp only [uN,Option.bind_some,Bool.not_true,if_true,Bool.false_eq_true,if_false,d1,d2,d3,d0,eE x.aD (by omega),eE x.bB (by omega),eE x.Forms (by omega),a1,a2,a3,Bool.not_false,i0,Av x (show x.aD.length≤1000 by omega),ov3 x (show x.aD.length≤1000 by omega),c1] at h
 unfold pS at h
 simp only [ap1,ap2,Option.bind_some,Bo x _ k4 (show x.aD.length≤1000 by omega),in3 _ k4] at h
 by_cases hp:(1≤x.bZ∧x.bZ≤60)∧0≤x.bF∧x.bF≤2
 ·refine ⟨ha,hb,hp, ?_⟩
  simp only [hp,and_self,decide_true,Bool.not_true,Bool.false_eq_true,if_false] at h
  cases e1:(lI x.aD (x.aD[0]'k0).X != 0)
  ·cases e2:(lJ x.aD (x.aD[0]'k0).Y != 0)
   ·cases e3:(List.range x.aD.length).any (oW gK x.aD)
    ·cases cn
     ·simp [e1,e2,e3] at h
     ·cases e4:(List.range (x.bB++x.Forms).length).any (pE x (x.bB++x.Forms))
      ·cases e5:(List.range (x.bB++x.Forms).length).any (oW wL (x.bB++x.Forms))
       ·have rng:∀ {n:Nat} {p:Nat→Bool},(List.range n).any p=false→∀ k,k<n→p k=false:=fun {n p} hp k hk=>by
         have:=List.any_eq_false.1 hp k (List.mem_range.2 hk);simpa using this
        refine ⟨k1,k0,k2,k3,fun r hr=>?_,rng e3,c1,fun k hk=>?_,rng e5⟩
        ·rcases List.mem_append.1 hr with hr | hr
         ·exact (vp.v1 r hr).1
         ·rcases List.mem_append.1 hr with hr | hr
          ·exact (vp.v2 r hr).1
          ·exact (vp.v3 r hr).1
        ·have q:=rng e4 k hk
         unfold pE at q
         have hx:(x.bB++x.Forms)[k]?=some (x.bB++x.Forms)[k]:=by simp
         rw [hx] at q
         simp only [Bool.or_eq_false_iff] at q
         refine ⟨_,hx,by have:=q.1;simpa using this,fun hc=>?_⟩
         have hd:decide ((k:Int)<(x.bB.length:Int))=true:=by simp;omega
         have:=q.2
         rw [hd,Bool.true_and] at this
         exact this
       ·simp only [e1,e2,e3,e4,e5,Bool.not_true,Bool.false_eq_true,if_false,if_true,Option.bind_some] at h
        exact absurd (Option.some.inj h) (by decide)
      ·simp only [e1,e2,e3,e4,Bool.not_true,Bool.false_eq_true,if_false,if_true,Option.bind_some] at h
       exact absurd (Option.some.inj h) (by decide)
    ·simp [e1,e2,e3] at h
   ·simp [e1,e2] at h
  ·simp [e1] at h
 ·simp only [hp,decide_false,Bool.not_false,if_true] at h
  exact absurd (Option.some.inj h) (by decide)
def lo (l:List aE):Int×Int:=match l with
 | []=>(0,0)
 | r::_=>(lI l r.X,lJ l r.Y)
def nrm (R l:List aE):List aE:=l.map (trR (-(lo R).1) (-(lo R).2))
theorem foldl_add (g:aE→Int) (f:aE→aE) (d:Int) (hf:∀ r,g (f r)=g r+d):∀ (l:List aE) (a:Int),(l.map f).foldl (fun s r=>min s (g r)) (a+d)=l.foldl (fun s r=>min s (g r)) a+d
 | [],a=>rfl
 | r::l,a=>by
   simp only [List.map_cons,List.foldl_cons,hf]
   rw [← foldl_add g f d hf l (min a (g r))]
   congr 1
   omega
theorem EA {R:List aE} (hne:R≠[]) (x y:Int):lo (R.map (trR x y))=((lo R).1+x,(lo R).2+y):=by
 cases R with
 | nil=>exact absurd rfl hne
 | cons r t =>
   have h1:=foldl_add (fun r=>r.X) (trR x y) x (fun _=>rfl) (r::t) r.X
   have h2:=foldl_add (fun r=>r.Y) (trR x y) y (fun _=>rfl) (r::t) r.Y
   exact Prod.ext h1 h2
theorem CX {R:List aE} (hne:R≠[]):lo (nrm R R)=(0,0):=by
 unfold nrm
 rw [EA hne]
 refine Prod.ext ?_ ?_ <;> simp only <;> omega
theorem Zc {l:List aE} (n:Nat) (h:0<l.length):tq n l≠[]:=by
 intro e
 have:=yC n l
 rw [e] at this;simp at this;omega
def trn (n:Nat) (R l:List aE):List aE:=nrm (tq n R) (tq n l)
theorem Ad {a b mx my:Int} {l:List aE} (h:Good a b l) (hx : -1048576≤mx∧mx≤1048576) (hy : -1048576≤my∧my≤1048576):l.map (mvR (jT mx) (jT my))=l.map (trR (-mx) (-my)):=by
 refine List.map_congr_left fun r hr=>?_
 have hv:=(h.2 r hr).1
 unfold vR at hv
 unfold mvR trR
 rw [Bq (by omega) (by omega),Bq (by omega) (by omega),aM (by omega) (by omega),aM (by omega) (by omega)]
theorem Zh {x:aL} (hx:aR x=some 0) (n:Nat) (hn:n≤3):lN x ⟨0,0,0,0,(n:Int)⟩=some (⟨x.Name,x.aU,x.bZ,x.bF,trn n x.aD x.aD,trn n x.aD x.bB,trn n x.aD x.Forms⟩,0,x.Name,x.aU,x.bZ,x.bF)∧aR ⟨x.Name,x.aU,x.bZ,x.bF,trn n x.aD x.aD,trn n x.aD x.bB,trn n x.aD x.Forms⟩=some 0:=by
 obtain ⟨z,hz,_,hv⟩:=pP x
 have h:=hv (Option.some.inj (hz.symm.trans hx))
 obtain ⟨hn1,hn2,hn3,vg⟩:=Jt hx
 have g1:Good 0 0 x.aD:=⟨h.n1,h.v1⟩
 have g2:Good 0 0 x.bB:=⟨h.n2,h.v2⟩
 have g3:Good 0 0 x.Forms:=⟨h.n3,h.v3⟩
 obtain ⟨r,t,hc⟩:∃ r t,tq n x.aD=r::t:=by
  cases e:tq n x.aD with
  | nil=>exact absurd e (Zc n h.n0)
  | cons r t=>exact ⟨r,t,rfl⟩
 obtain ⟨⟨lx1,lx2,lx3,lx4⟩,ly1,ly2,ly3,ly4⟩:=Mo (g1.tq n) hc
 have k1:=kH (g1.tq n) ⟨lx1,lx2⟩ ⟨ly1,ly2⟩ ⟨lx3,lx4⟩ ⟨ly3,ly4⟩
 have k2:=kH (g2.tq n) ⟨lx1,lx2⟩ ⟨ly1,ly2⟩ ⟨lx3,lx4⟩ ⟨ly3,ly4⟩
 have k3:=kH (g3.tq n) ⟨lx1,lx2⟩ ⟨ly1,ly2⟩ ⟨lx3,lx4⟩ ⟨ly3,ly4⟩
 have hlo:lo (tq n x.aD)=(lI (tq n x.aD) r.X,lJ (tq n x.aD) r.Y):=by
  rw [show lo (tq n x.aD)=lo (r::t) by rw [hc],lo,hc]
 have hQ:=Cq h n hn hc
 rw [Ad (g1.tq n) ⟨lx3,lx4⟩ ⟨ly3,ly4⟩,Ad (g2.tq n) ⟨lx3,lx4⟩ ⟨ly3,ly4⟩,Ad (g3.tq n) ⟨lx3,lx4⟩ ⟨ly3,ly4⟩] at hQ
 rw [Ad (g1.tq n) ⟨lx3,lx4⟩ ⟨ly3,ly4⟩] at k1
 rw [Ad (g2.tq n) ⟨lx3,lx4⟩ ⟨ly3,ly4⟩] at k2
 rw [Ad (g3.tq n) ⟨lx3,lx4⟩ ⟨ly3,ly4⟩] at k3
 have e1:trn n x.aD x.aD=(tq n x.aD).map (trR (-(lI (tq n x.aD) r.X)) (-(lJ (tq n x.aD) r.Y))):=by unfold trn nrm;rw [hlo]
 have e2:trn n x.aD x.bB=(tq n x.bB).map (trR (-(lI (tq n x.aD) r.X)) (-(lJ (tq n x.aD) r.Y))):=by unfold trn nrm;rw [hlo]
 have e3:trn n x.aD x.Forms=(tq n x.Forms).map (trR (-(lI (tq n x.aD) r.X)) (-(lJ (tq n x.aD) r.Y))):=by unfold trn nrm;rw [hlo]
 rw [← e1,← e2,← e3] at hQ
 rw [← e1] at k1
 rw [← e2] at k2
 rw [← e3] at k3
 have any0:∀ {a b:Int} {l:List aE},Good a b l→(l.any fun x=>!decide (vR x))=false:=fun {a b l} hl=>by
  rw [List.any_eq_false];intro y hy;simp [(hl.2 y hy).1]
 have n1:=k1.1;have n2:=k2.1;have n3:=k3.1
 refine ⟨?_, ?_⟩
 ·unfold lN
  simp only [hx,Option.bind_some,bne_self_eq_false,Bool.false_eq_true,if_false,qE,show (0≤(n:Int)∧(n:Int)≤3) by omega,show ((-1048576:Int)≤0∧(0:Int)≤1048576) by omega,and_self,decide_true,Bool.not_true,if_true]
  unfold uL
  simp only [hQ,Option.bind_some,bne_self_eq_false,Bool.false_eq_true,if_false,qJ k1.1,qJ k2.1,qJ k3.1,mv0 k1,mv0 k2,mv0 k3,eE _ (show (trn n x.aD x.aD).length≤9223372036854775806 by omega),eE _ (show (trn n x.aD x.bB).length≤9223372036854775806 by omega),eE _ (show (trn n x.aD x.Forms).length≤9223372036854775806 by omega),any0 k1,any0 k2,any0 k3,Bool.not_false,Bool.not_true,if_true]
 ·have hvg:VG (trn n x.aD x.aD) (trn n x.aD x.bB) (trn n x.aD x.Forms):=by
   rw [e1,e2,e3]
   refine (VG.tq vg n).map (DZ _ _ fun a ha=>⟨(VG.tq vg n).v a ha, ?_⟩)
   rcases List.mem_append.1 ha with ha | ha
   ·exact (k1.2 _ (by rw [e1];exact List.mem_map_of_mem ha)).1
   ·rcases List.mem_append.1 ha with ha | ha
    ·exact (k2.2 _ (by rw [e2];exact List.mem_map_of_mem ha)).1
    ·exact (k3.2 _ (by rw [e3];exact List.mem_map_of_mem ha)).1
  have hl0:=CX (Zc n h.n0:tq n x.aD≠[])
  have hl0':lo (trn n x.aD x.aD)=(0,0):=hl0
  cases hA:trn n x.aD x.aD with
  | nil=>have:=hvg.n0;rw [hA] at this;simp at this
  | cons r' t' =>
    rw [hA] at hl0'
    have q1:lI (r'::t') r'.X=0:=congrArg Prod.fst hl0'
    have q2:lJ (r'::t') r'.Y=0:=congrArg Prod.snd hl0'
    exact Zd (x:=⟨x.Name,x.aU,x.bZ,x.bF,r'::t',trn n x.aD x.bB,trn n x.aD x.Forms⟩) hn1 hn2 hn3 (by rw [← hA];exact hvg) (r:=r') rfl q1 q2
theorem Zi {x:aL} {c n m g h q} {p:aP} (hp:lN x p=some (q,c,n,m,g,h)) (hc:c=0):aR x=some 0∧0≤p.nA∧p.nA≤3:=by
 subst hc
 obtain ⟨b,b1,_,_⟩:=pP x
 unfold lN at hp
 rw [b1] at hp
 by_cases hb:b=0
 ·subst hb
  simp only [Option.bind_some,bne_self_eq_false,Bool.false_eq_true,if_false,qE] at hp
  by_cases ht:0≤p.nA∧p.nA≤3
  ·exact ⟨b1,ht⟩
  ·simp [ht] at hp
 ·have hb':(b != 0)=true:=by rw [bne_iff_ne];exact hb
  simp only [Option.bind_some,hb',if_true] at hp
  have:=congrArg (fun o=>(o.getD (q,0,n,m,g,h)).2.1) hp
  exact absurd this hb
def fY (sheets:(List aW)):Int→Option (Int ⊕ (Int ⊕ Unit)):=fun a0 =>
 if (decide (a0<(sheets.length:Int))) then ((idx sheets a0).bind fun a2=>(bA a2).bind fun a1=>if (a1 != 0) then (some (.inr (.inl a1))) else (some (.inl (aH a0 1)))) else (some (.inr (.inr (()))))
def fZ (pieces:(List aL)):Int→Option (Int ⊕ (Int ⊕ Unit)):=fun a1 =>
 if (decide (a1<(pieces.length:Int))) then ((idx pieces a1).bind fun a2=>(aR a2).bind fun a0=>if (a0 != 0) then (some (.inr (.inl a0))) else (some (.inl (aH a1 1)))) else (some (.inr (.inr (()))))
def rP (sheets:(List aW)) (pieces:(List aL)):Option (Int):=
 (if (decide ((sheets.length:Int)>4)) then (some true) else (some (decide ((pieces.length:Int)>8)))).bind fun j2=>if j2 then (some 4) else ((aJ (fY sheets) 0).bind fun a4=>match a4 with | .inl a3=>some a3 | .inr a5=>(aJ (fZ pieces) 0).bind fun a1=>match a1 with | .inl a0=>some a0 | .inr a2=>some 0)
def pH (a1:aL):(Int×Int)→Option ((Int×Int) ⊕ Int):=fun a0 =>
 if (decide (a0.2<(a1.aD.length:Int))) then ((idx a1.aD a0.2).bind fun a2=>some (.inl ((aH a0.1 (rM a2.W a2.H)),(aH a0.2 1)))) else (some (.inr a0.1))
def pI (pieces:(List aL)):(Int×Int)→Option ((Int×Int) ⊕ Int):=fun a0 =>
 if (decide (a0.2<(pieces.length:Int))) then ((idx pieces a0.2).bind fun a1=>(aJ (pH a1) (a0.1,0)).bind fun a2=>some (.inl (a2,(aH a0.2 1)))) else (some (.inr a0.1))
def pJ (sheets:(List aW)):(Int×Int)→Option ((Int×Int) ⊕ Int):=fun a0 =>
 if (decide (a0.2<(sheets.length:Int))) then ((idx sheets a0.2).bind fun a2=>(xQ a2).bind fun a1=>some (.inl ((aQ a0.1 a1.1),(aH a0.2 1)))) else (some (.inr a0.1))
def tL (sheets:(List aW)) (pieces:(List aL)):Option (Bool×Int):=
 (rP sheets pieces).bind fun r4=>if (r4 != 0) then (some (false,r4)) else ((aJ (pI pieces) (0,0)).bind fun a0=>(aJ (pJ sheets) (a0,0)).bind fun a1=>some ((decide (a1>0)),0))
def lC (sheets:(List aW)):Int→Option (Int ⊕ (Int ⊕ Unit)):=fun a0 =>
 if (decide (a0<(sheets.length:Int))) then ((idx sheets a0).bind fun a2=>(cD a2).bind fun a1=>if (a1 != 0) then (some (.inr (.inl a1))) else (some (.inl (aH a0 1)))) else (some (.inr (.inr (()))))
def lD (pieces:(List aL)):Int→Option (Int ⊕ (Int ⊕ Unit)):=fun a1 =>
 if (decide (a1<(pieces.length:Int))) then ((idx pieces a1).bind fun a2=>(bO a2).bind fun a0=>if (a0 != 0) then (some (.inr (.inl a0))) else (some (.inl (aH a1 1)))) else (some (.inr (.inr (()))))
def gY (sheets:(List aW)) (pieces:(List aL)):Option (Int):=
 (if (decide ((sheets.length:Int)>4)) then (some true) else (some (decide ((pieces.length:Int)>8)))).bind fun j2=>if j2 then (some 4) else ((aJ (lC sheets) 0).bind fun a4=>match a4 with | .inl a3=>some a3 | .inr a5=>(aJ (lD pieces) 0).bind fun a1=>match a1 with | .inl a0=>some a0 | .inr a2=>some 0)
def gB (pieces:(List aL)):(Int×Int)→Option ((Int×Int) ⊕ Int):=fun a0 =>
 if (decide (a0.2<(pieces.length:Int))) then ((idx pieces a0.2).bind fun a2=>(iN a2.aD).bind fun a1=>some (.inl ((aH a0.1 a1),(aH a0.2 1)))) else (some (.inr a0.1))
def gC (sheets:(List aW)):(Int×Int)→Option ((Int×Int) ⊕ Int):=fun a0 =>
 if (decide (a0.2<(sheets.length:Int))) then ((idx sheets a0.2).bind fun a2=>(iQ a2).bind fun a1=>some (.inl ((aQ a0.1 a1),(aH a0.2 1)))) else (some (.inr a0.1))
def iZ (sheets:(List aW)) (pieces:(List aL)):Option (Bool×Int):=
 (gY sheets pieces).bind fun r2=>if (r2 != 0) then (some (false,r2)) else ((aJ (gB pieces) (0,0)).bind fun a1=>(aJ (gC sheets) (a1,0)).bind fun a0=>some ((decide (a0>0)),0))
def lO (x0:aL) (r2:aE×Bool):Int→Option (Int ⊕ (Unit ⊕ Unit)):=fun a0 =>
 if (decide (a0<(x0.aD.length:Int))) then ((idx x0.aD a0).bind fun a2=>(sR a2 r2.1).bind fun a1=>if (!a1) then (some (.inr (.inl ()))) else (some (.inl (aH a0 1)))) else (some (.inr (.inr (()))))
def oM (x0:aL) (s1:aW) (set2:bE) (turn:Int):Option (Bool):=
 (kY s1 set2.bN).bind fun r2=>(if r2.2 then ((nP x0 s1 turn).bind fun r8=>some (!r8)) else (some true)).bind fun j7=>if j7 then (some false) else ((aJ (lO x0 r2) 0).bind fun a3=>match a3 with | .inl a4=>some false | .inr a5=>((oQ x0.aD s1.aZ).bind fun a1=>if a1 then (some false) else ((oQ x0.aD s1.Used).bind fun a2=>some (!a2))).bind fun a0=>some a0)
def oH (a2:aP) (a1:(List aP)):Int→Option (Int ⊕ (Unit ⊕ Unit)):=fun a0 =>
 if (decide (a0<(a1.length:Int))) then ((idx a1 a0).bind fun a3=>if (a3.aL==a2.aL) then (some (.inr (.inl ()))) else (some (.inl (aH a0 1)))) else (some (.inr (.inr (()))))
def oJ (set2:bE) (a5:Int×(List aL)) (a6:aP) (a3:aL×Int×ByteArray×ByteArray×Int×Int) (a1:(List aP)):Int→Option (Int ⊕ (Unit ⊕ Unit)):=fun a0 =>
 if (decide (a0<(a1.length:Int))) then ((idx a1 a0).bind fun a7=>(if (a7.aW==a6.aW) then ((idx a5.2 a0).bind fun a8=>(yM a3.1.aD a8.aD set2).bind fun a4=>some (!a4)) else (some false)).bind fun a2=>if a2 then (some (.inr (.inl ()))) else (some (.inl (aH a0 1)))) else (some (.inr (.inr (()))))
def kW (sheets:(List aW)) (pieces:(List aL)) (set2:bE) (l:(List aP)):Int×(List aL)→Option (Int×(List aL) ⊕ ((Int×Int) ⊕ Unit)):=fun a1 =>
 if (decide (a1.1<(l.length:Int))) then ((idx l a1.1).bind fun a2=>((gI a2.aL 0 (aQ (pieces.length:Int) 1)).bind fun a7=>if a7 then ((gI a2.aW 0 (aQ (sheets.length:Int) 1)).bind fun a8=>some (!a8)) else (some true)).bind fun a3=>if a3 then (some (.inr (.inl (a1.1,1)))) else ((idx pieces a2.aL).bind fun b0=>(lN b0 a2).bind fun a0=>if (a0.2.1 != 0) then (some (.inr (.inl (a1.1,1)))) else ((slc l 0 a1.1).bind fun a4=>(aJ (oH a2 a4) 0).bind fun b1=>match b1 with | .inl b4=>some (.inr (.inl (a1.1,12))) | .inr b5=>(idx sheets a2.aW).bind fun b2=>(oM (aL.mk a0.1.Name a0.1.aU a0.1.bZ a0.1.bF a0.1.aD a0.1.bB a0.1.Forms) b2 set2 a2.nA).bind fun a9=>if (!a9) then (some (.inr (.inl (a1.1,13)))) else ((slc l 0 a1.1).bind fun a5=>(aJ (oJ set2 a1 a2 a0 a5) 0).bind fun b3=>match b3 with | .inl b6=>some (.inr (.inl (a1.1,7))) | .inr b7=>(app a1.2 [(aL.mk a0.1.Name a0.1.aU a0.1.bZ a0.1.bF a0.1.aD a0.1.bB a0.1.Forms)]).bind fun a6=>some (.inl ((aH a1.1 1),a6)))))) else (some (.inr (.inr (()))))
def yL (sheets:(List aW)) (pieces:(List aL)) (set2:bE) (l:(List aP)):Option (Int×Int):=
 (rP sheets pieces).bind fun r4=>if (r4 != 0) then (some (0,r4)) else ((dY set2).bind fun r8=>if (!r8) then (some (0,1)) else ((aJ (kW sheets pieces set2 l) (0,[])).bind fun a1=>match a1 with | .inl a0=>some (a0.1,a0.2) | .inr a2=>some (0,0)))
def Af (taken:(List (List aE))):Int→Option (Int ⊕ Unit):=fun a0 =>
 if (decide (a0<(taken.length:Int))) then ((idx taken a0).bind fun a1=>if (decide ((a1.length:Int)>12)) then (none) else (some (.inl (aH a0 1)))) else (some (.inr ()))
def Ag (taken:(List (List aE))):Int→Option (Int ⊕ Unit):=fun a0 =>
 if (decide (a0<(taken.length:Int))) then ((idx taken a0).bind fun a2=>(jE a2).bind fun a1=>if (!a1) then (none) else (some (.inl (aH a0 1)))) else (some (.inr ()))
def uM (taken:(List (List aE))):Option (Int):=
 if (decide ((taken.length:Int)>8)) then (none) else ((aJ (Af taken) 0).bind fun a0=>(aJ (Ag taken) 0).bind fun a1=>some 0)
def yN (a0:(List aE)):Unit→Option (Unit ⊕ Unit):=fun a1 =>
 if (decide (0<(a0.length:Int))) then (none) else (some (.inr ()))
def yO (s0:aW):Int→Option (Int ⊕ Unit):=fun a0 =>
 if (decide (a0<([s0.aZ,s0.Used].length:Int))) then ((idx [s0.aZ,s0.Used] a0).bind fun a1=>(aJ (yN a1) ()).bind fun a2=>some (.inl (aH a0 1))) else (some (.inr ()))
def yP (set2:bE) (a1:(List aE)):Int×(List bJ)→Option (Int×(List bJ) ⊕ (List bJ)):=fun a0 =>
 if (decide (a0.1<(a1.length:Int))) then ((idx a1 a0.1).bind fun a2=>(dH a2).bind fun a4=>if a4 then ((app a0.2 [(bJ.mk a2 set2.Gap set2.kT)]).bind fun a3=>some (.inl ((aH a0.1 1),a3))) else (none)) else (some (.inr a0.2))
def yQ (taken:(List (List aE))) (set2:bE):Int×(List bJ)→Option (Int×(List bJ) ⊕ (List bJ)):=fun a0 =>
 if (decide (a0.1<(taken.length:Int))) then ((idx taken a0.1).bind fun a1=>(aJ (yP set2 a1) (0,a0.2)).bind fun a2=>some (.inl ((aH a0.1 1),a2))) else (some (.inr a0.2))
def tD (s0:aW) (taken:(List (List aE))) (set2:bE):Option ((List bJ)):=
 (aJ (yO s0) 0).bind fun a1=>(aJ (yQ taken set2) (0,[])).bind fun a0=>some a0
def zY (x0:Int) (y:Int):Option (Bool):=
 (Cc x0).bind fun r2=>if r2 then (none) else (some (decide (x0<y)))
def nQ (a:Int):Int×(List Int)→Option (Int×(List Int) ⊕ (List Int)):=fun a0 =>
 (if (decide (a0.1>a)) then ((idx a0.2 a0.1).bind fun a4=>(idx a0.2 (aQ a0.1 1)).bind fun a5=>(zY a4 a5).bind fun a3=>some a3) else (some false)).bind fun a2=>if a2 then ((idx a0.2 (aQ a0.1 1)).bind fun a1=>(idx a0.2 a0.1).bind fun a6=>(idx a0.2 a0.1).bind fun a7=>(idx (List.set a0.2 (Int.toNat a0.1) a1) (aQ a0.1 1)).bind fun a8=>some (.inl ((aQ a0.1 1),(List.set (List.set a0.2 (Int.toNat a0.1) a1) (Int.toNat (aQ a0.1 1)) a6)))) else (some (.inr a0.2))
def nR (a:Int) (b:Int):Int×(List Int)→Option (Int×(List Int) ⊕ (List Int)):=fun a0 =>
 if (decide (a0.1<b)) then ((aJ (nQ a) (a0.1,a0.2)).bind fun a1=>some (.inl ((aH a0.1 1),a1))) else (some (.inr a0.2))
def jY (a:Int) (b:Int) (h0:(List Int)):Option ((List Int)):=
 (aJ (nR a b) ((aH a 1),h0)).bind fun a0=>some a0
def rB (a:Int) (b:Int) (h0:(List Int)):Unit→Option (Unit ⊕ (List Int)):=fun s1 =>
 if (decide ((aQ b a)≤12)) then ((jY a b h0).bind fun r9=>some (.inr r9)) else (none)
def mF (a:Int) (b:Int) (limit:Int) (h0:(List Int)):Option ((List Int)):=
 (aJ (rB a b h0) ()).bind fun a0=>some a0
def pW (h0:(List Int)):Option ((List Int)):=
 (Im (IntKind.wrap .u64 (h0.length:Int))).bind fun r3=>(mF 0 (h0.length:Int) r3 h0).bind fun r4=>some r4
def kZ (y:Int) (a_0:(List aE)) (a_1:(List bJ)) (a_2:Int) (a_3:Int) (a_4:Int) (a_5:Int) (a_6:Int) (a_7:Int):Option (Bool):=
 (if (decide (y<a_3)) then (some true) else (some (decide (y>(aQ (aH a_3 a_5) a_7))))).bind fun j1=>some j1
def jG (s0:(List Int)) (f_0_0:(List aE)) (f_0_1:(List bJ)) (f_0_2:Int) (f_0_3:Int) (f_0_4:Int) (f_0_5:Int) (f_0_6:Int) (f_0_7:Int):Int→Option (Int ⊕ (Int ⊕ Unit)):=fun a0 =>
 if (decide (a0<(s0.length:Int))) then ((idx s0 a0).bind fun a2=>(kZ a2 f_0_0 f_0_1 f_0_2 f_0_3 f_0_4 f_0_5 f_0_6 f_0_7).bind fun a1=>if a1 then (some (.inr (.inl a0))) else (some (.inl (aH a0 1)))) else (some (.inr (.inr (()))))
def eL (s0:(List Int)) (f_0_0:(List aE)) (f_0_1:(List bJ)) (f_0_2:Int) (f_0_3:Int) (f_0_4:Int) (f_0_5:Int) (f_0_6:Int) (f_0_7:Int):Option (Int):=
 (aJ (jG s0 f_0_0 f_0_1 f_0_2 f_0_3 f_0_4 f_0_5 f_0_6 f_0_7) 0).bind fun a1=>match a1 with | .inl a0=>some a0 | .inr a2=>some (-1)
def bR (a1:Int×Int×(List Int)):Int×(List Int)→Option (Int×Int×(List Int) ⊕ Int×(List Int)):=fun a0 =>
 some (.inl (a0.1,(aH a1.2.1 1),a0.2))
def iS (del_0_0:(List aE)) (del_0_1:(List bJ)) (del_0_2:Int) (del_0_3:Int) (del_0_4:Int) (del_0_5:Int) (del_0_6:Int) (del_0_7:Int):Int×Int×(List Int)→Option (Int×Int×(List Int) ⊕ Int×(List Int)):=fun a0 =>
 if (decide (a0.2.1<(a0.2.2.length:Int))) then ((idx a0.2.2 a0.2.1).bind fun a1=>(kZ a1 del_0_0 del_0_1 del_0_2 del_0_3 del_0_4 del_0_5 del_0_6 del_0_7).bind fun a2=>if (!a2) then ((idx a0.2.2 a0.1).bind fun a3=>bR a0 ((aH a0.1 1),(List.set a0.2.2 (Int.toNat a0.1) a1))) else (bR a0 (a0.1,a0.2.2))) else (some (.inr (a0.1,a0.2.2)))
def eI (del_0_0:(List aE)) (del_0_1:(List bJ)) (del_0_2:Int) (del_0_3:Int) (del_0_4:Int) (del_0_5:Int) (del_0_6:Int) (del_0_7:Int) (h380:(List Int)):Option ((List Int)):=
 (eL h380 del_0_0 del_0_1 del_0_2 del_0_3 del_0_4 del_0_5 del_0_6 del_0_7).bind fun r2=>if (r2==(-1)) then (some h380) else ((aJ (iS del_0_0 del_0_1 del_0_2 del_0_3 del_0_4 del_0_5 del_0_6 del_0_7) (r2,(aH r2 1),h380)).bind fun a0=>if (decide ((0:Int)≤a0.1)&&(decide (a0.1≤(a0.2.length:Int))&&decide ((a0.2.length:Int)≤(a0.2.length:Int)))) then ((slc (cpy a0.2 (Int.toNat a0.1) (List.replicate (Int.toNat (a0.2.length:Int)-Int.toNat a0.1) 0)) 0 a0.1).bind fun a1=>some a1) else none)
def vH (a1:bJ) (a2:aE):Int×(List Int)→Option (Int×(List Int) ⊕ (List Int)):=fun a0 =>
 if (decide (a0.1<([0,a1.gap].length:Int))) then ((idx [0,a1.gap] a0.1).bind fun a3=>(app a0.2 [(aQ (aH (aH a1.aE.Y a1.aE.H) a3) a2.Y),(aQ (aQ (aQ a1.aE.Y a3) a2.Y) a2.H)]).bind fun a4=>some (.inl ((aH a0.1 1),a4))) else (some (.inr a0.2))
def vJ (s0:jR) (a1:bJ):Int×(List Int)→Option (Int×(List Int) ⊕ (List Int)):=fun a0 =>
 if (decide (a0.1<(s0.tE.length:Int))) then ((idx s0.tE a0.1).bind fun a2=>(aJ (vH a1 a2) (0,a0.2)).bind fun a3=>some (.inl ((aH a0.1 1),a3))) else (some (.inr a0.2))
def vL (s0:jR):Int×(List Int)→Option (Int×(List Int) ⊕ (List Int)):=fun a0 =>
 if (decide (a0.1<(s0.dB.length:Int))) then ((idx s0.dB a0.1).bind fun a1=>(aJ (vJ s0 a1) (0,a0.2)).bind fun a2=>some (.inl ((aH a0.1 1),a2))) else (some (.inr a0.2))
def qT (s0:jR):Option ((List Int)):=
 (aJ (vL s0) (0,[s0.eM.Y])).bind fun a3=>(pW a3).bind fun a0=>(pV a0).bind fun a1=>(eI s0.tE s0.dB s0.eM.X s0.eM.Y s0.eM.W s0.eM.H s0.w s0.h a1).bind fun a2=>some a2
def Ab (a:cC):Option (Bool):=
 some (decide ((aQ a.hi a.lo)<2))
def iG (s0:(List cC)):Int→Option (Int ⊕ Unit):=fun a0 =>
 if (decide (a0<(s0.length:Int))) then ((idx s0 a0).bind fun a2=>(Ab a2).bind fun a1=>if a1 then (none) else (some (.inl (aH a0 1)))) else (some (.inr ()))
def eD (s0:(List cC)):Option (Int):=
 (aJ (iG s0) 0).bind fun a0=>some (-1)
def eA (s0:(List cC)):Option ((List cC)):=
 (eD s0).bind fun r2=>if (r2==(-1)) then (some s0) else (none)
def Cj (l:(List cC)):Option ((List cC)):=
 (eA l).bind fun r2=>some r2
def qO (o:bJ) (r1:aE) (y:Int):Option ((List cC)):=
 if (decide ((aH r1.Y y)<(aH o.aE.Y o.aE.H))) then (if (decide ((imax (imax 0 (aQ (aQ (aQ o.aE.Y r1.Y) y) r1.H)) (aQ (aQ (aH r1.Y y) o.aE.Y) o.aE.H)) ≥ o.gap)) then (none) else (if o.common then (none) else (if ((imax (imax 0 (aQ (aQ (aQ o.aE.Y r1.Y) y) r1.H)) (aQ (aQ (aH r1.Y y) o.aE.Y) o.aE.H))==0) then (if (o.gap==0) then (none) else ((Cj [(cC.mk (aQ (aQ (aQ o.aE.X r1.X) r1.W) o.gap) (aH (aQ (aH o.aE.X o.aE.W) r1.X) o.gap))]).bind fun r2=>some r2)) else (none)))) else (none)
def fT (a:Int) (b:Int):Unit→Option (Unit ⊕ Unit):=fun s1 =>
 if (decide ((aH a 1)<b)) then (none) else (some (.inr ()))
def cU (a:Int) (b:Int) (h0:(List cC)):Option (Unit):=
 (aJ (fT a b) ()).bind fun x2=>some ()
def hO (a:Int) (b:Int) (h0:(List cC)):Unit→Option (Unit ⊕ Unit):=fun s1 =>
 if (decide ((aQ b a)≤12)) then ((cU a b h0).bind fun r9=>some (.inr ())) else (none)
def dU (a:Int) (b:Int) (limit:Int) (h0:(List cC)):Option (Unit):=
 (aJ (hO a b h0) ()).bind fun a0=>some ()
def cV (h0:(List cC)):Option (Unit):=
 (Im (IntKind.wrap .u64 (h0.length:Int))).bind fun r3=>(dU 0 (h0.length:Int) r3 h0).bind fun r4=>some ()
def vE (s0:jR) (y:Int) (a3:bJ):Int×(List cC)→Option (Int×(List cC) ⊕ (List cC)):=fun a0 =>
 if (decide (a0.1<(s0.tE.length:Int))) then ((idx s0.tE a0.1).bind fun a4=>(qO a3 a4 y).bind fun a2=>(app a0.2 a2).bind fun a1=>some (.inl ((aH a0.1 1),a1))) else (some (.inr a0.2))
def vF (s0:jR) (y:Int):Int×(List cC)→Option (Int×(List cC) ⊕ (List cC)):=fun a0 =>
 if (decide (a0.1<(s0.dB.length:Int))) then ((idx s0.dB a0.1).bind fun a1=>(aJ (vE s0 y a1) (0,a0.2)).bind fun a2=>some (.inl ((aH a0.1 1),a2))) else (some (.inr a0.2))
def qQ (s0:jR) (y:Int):Option ((List cC)):=
 (aJ (vF s0 y) (0,[])).bind fun a0=>(cV a0).bind fun a1=>some a0
def rO (a1:Int×Bool×Int):(Int×Bool)→Option ((Int×Bool×Int) ⊕ (Int×Bool)):=fun a0 =>
 some (.inl (a0.1,a0.2,(aH a1.2.2 1)))
def Fc (l:(List cC)) (lo:Int) (hi:Int):(Int×Bool×Int)→Option ((Int×Bool×Int) ⊕ (Int×Bool)):=fun a0 =>
 if (decide (a0.2.2<(l.length:Int))) then ((idx l a0.2.2).bind fun a1=>if (decide (a1.lo<a0.1)) then (if (decide (a0.1<a1.hi)) then (rO a0 (a1.hi,true)) else (rO a0 (a0.1,a0.2.1))) else (none)) else (some (.inr (a0.1,a0.2.1)))
def Fe (l:(List cC)) (lo:Int) (hi:Int):(Int×Bool)→Option ((Int×Bool) ⊕ Int):=fun a1 =>
 if a1.2 then ((aJ (Fc l lo hi) (a1.1,false,0)).bind fun a0=>some (.inl (a0.1,a0.2))) else (some (.inr a1.1))
def Ch (l:(List cC)) (lo:Int) (hi:Int):Option (Int×Bool):=
 (aJ (Fe l lo hi) (lo,true)).bind fun a0=>some (a0,(decide (a0≤hi)))
def xS (s0:jR) (a0:(List Int)):Unit→Option (Unit ⊕ (Int×Int)):=fun a4 =>
 if (decide (0<(a0.length:Int))) then ((idx a0 0).bind fun a2=>(qQ s0 a2).bind fun a3=>(Ch a3 s0.eM.X (aQ (aH s0.eM.X s0.eM.W) s0.w)).bind fun a1=>if a1.2 then (some (.inr (a1.1,a2))) else (none)) else (none)
def sU (s0:jR):Option (Int×Int×Bool):=
 if (decide (s0.w>s0.eM.W)) then (none) else (if (decide (s0.h>s0.eM.H)) then (none) else ((qT s0).bind fun a1=>(aJ (xS s0 a1) ()).bind fun a0=>some (a0.1,a0.2,true)))
def uJ (a1:Bool×Int×Int×Int×Int):(Bool×Int×Int×Int)→Option ((Bool×Int×Int×Int×Int) ⊕ (Bool×Int×Int×Int)):=fun a0 =>
 some (.inl (a0.1,(aH a1.2.1 1),a0.2.1,a0.2.2.1,a0.2.2.2))
def Jo (a2:aL×Int×ByteArray×ByteArray×Int×Int):(Int×Int×Int)→Option ((Int×Int×Int) ⊕ (Int×Int)):=fun a0 =>
 if (decide (a0.1<(a2.1.aD.length:Int))) then ((idx a2.1.aD a0.1).bind fun a1=>some (.inl ((aH a0.1 1),(imax a0.2.1 (aH a1.X a1.W)),(imax a0.2.2 (aH a1.Y a1.H))))) else (some (.inr (a0.2.1,a0.2.2)))
def Jp (s0:aW) (x2:aL) (a6:aE×Bool) (a7:(List bJ)):(Bool×Int×Int×Int×Int)→Option ((Bool×Int×Int×Int×Int) ⊕ (Bool×Int×Int×Int)):=fun a0 =>
 if (decide (a0.2.1<4)) then ((nP x2 s0 a0.2.1).bind fun a5=>if (!a5) then (none) else ((uL x2 (aP.mk 0 0 0 0 a0.2.1)).bind fun a2=>if (a2.2.1 != 0) then (none) else ((aJ (Jo a2) (0,0,0)).bind fun a4=>(sU (jR.mk a2.1.aD a7 a6.1 a4.1 a4.2)).bind fun a1=>(if a1.2.2 then (if a0.1 then (if (decide (a1.2.1<a0.2.2.2.1)) then (some (true,true)) else (if (a1.2.1==a0.2.2.2.1) then (some (true,(decide (a1.1<a0.2.2.1)))) else (some (true,false)))) else (some (false,true))) else (none)).bind fun a3=>if a3.2 then (uJ a0 (true,a1.1,a1.2.1,a0.2.1)) else (uJ a0 (a3.1,a0.2.2.1,a0.2.2.2.1,a0.2.2.2.2))))) else (some (.inr (a0.1,a0.2.2.1,a0.2.2.2.1,a0.2.2.2.2)))
def Aw (s0:aW) (taken:(List (List aE))) (x2:aL) (set3:bE):Option (aP×Bool×Int×Int×Int×Int):=
 (bA s0).bind fun r4=>if (r4 != 0) then (none) else ((uM taken).bind fun r8=>if (r8 != 0) then (none) else ((aR x2).bind fun a2=>if (a2 != 0) then (none) else ((dY set3).bind fun a3=>if (!a3) then (none) else ((kY s0 set3.bN).bind fun a1=>if (!a1.2) then (none) else ((tD s0 taken set3).bind fun a4=>(aJ (Jp s0 x2 a1 a4) (false,0,0,0,0)).bind fun a0=>some ((aP.mk 0 0 a0.2.1 a0.2.2.1 a0.2.2.2),a0.1,0,a0.2.1,a0.2.2.1,a0.2.2.2))))))
def Gx (sheets:(List aW)) (set2:bE) (a1:Int×(List (List (List aE)))×(List aP)) (a2:aL):Unit→Option (Unit ⊕ ((List (List (List aE)))×(List aP))):=fun a9 =>
 if (decide (0<(sheets.length:Int))) then ((idx sheets 0).bind fun a6=>(idx a1.2.1 0).bind fun a7=>(Aw a6 a7 a2 set2).bind fun a0=>if (a0.2.2.1 != 0) then (none) else (if (!a0.2.1) then (none) else ((uL a2 (aP.mk a1.1 0 a0.1.X a0.1.Y a0.1.nA)).bind fun a5=>(idx a1.2.1 0).bind fun a8=>(app a8 [a5.1.aD]).bind fun a3=>(idx a1.2.1 0).bind fun b0=>(app a1.2.2 [(aP.mk a1.1 0 a0.1.X a0.1.Y a0.1.nA)]).bind fun a4=>some (.inr ((List.set a1.2.1 (Int.toNat 0) a3),a4))))) else (none)
def Gy (sheets:(List aW)) (pieces:(List aL)) (set2:bE):(Int×(List (List (List aE)))×(List aP))→Option ((Int×(List (List (List aE)))×(List aP)) ⊕ (List aP)):=fun a0 =>
 if (decide (a0.1<(pieces.length:Int))) then ((idx pieces a0.1).bind fun a2=>(aJ (Gx sheets set2 a0 a2) ()).bind fun a1=>some (.inl ((aH a0.1 1),a1.1,a1.2))) else (some (.inr a0.2.2))
def Ej (sheets:(List aW)) (pieces:(List aL)) (set2:bE):Option ((List aP)×(List Int)×Int):=
 (rP sheets pieces).bind fun r4=>if (r4 != 0) then (none) else ((dY set2).bind fun r8=>if (!r8) then (none) else ((mk (sheets.length:Int) []).bind fun a1=>(aJ (Gy sheets pieces set2) (0,a1,[])).bind fun a0=>some (a0,[],0)))
def nV (a:(List aP)) (b:(List aP)):Int→Option (Int ⊕ Unit):=fun a2 =>
 if (decide (a2<(a.length:Int))) then ((idx a a2).bind fun a0=>(idx b a2).bind fun a1=>if (!((a0.aL==a1.aL)&&((a0.aW==a1.aW)&&((a0.X==a1.X)&&((a0.Y==a1.Y)&&((a0.nA==a1.nA)&&true)))))) then (none) else (some (.inl (aH a2 1)))) else (some (.inr ()))
def kC (a:(List aP)) (b:(List aP)):Option (Bool):=
 if ((a.length:Int) != (b.length:Int)) then (none) else ((aJ (nV a b) 0).bind fun a0=>some true)
def iE:Option (Bool):=
 (Aw (aW.mk (ByteArray.mk #[115]) (ByteArray.mk #[115,116,101,101,108]) 10 0 1000 1000 [] []) [] (aL.mk (ByteArray.mk #[112]) (ByteArray.mk #[115,116,101,101,108]) 10 0 [(aE.mk 0 0 100 50)] [] []) (bE.mk 0 10 false)).bind fun r2=>(Ej [(aW.mk (ByteArray.mk #[115]) (ByteArray.mk #[115,116,101,101,108]) 10 0 1000 1000 [] [])] [(aL.mk (ByteArray.mk #[112]) (ByteArray.mk #[115,116,101,101,108]) 10 0 [(aE.mk 0 0 100 50)] [] []),(aL.mk (ByteArray.mk #[112]) (ByteArray.mk #[115,116,101,101,108]) 10 0 [(aE.mk 0 0 100 50)] [] [])] (bE.mk 5 10 false)).bind fun r4=>if (r2.2.2.1==0) then (if r2.2.1 then (if ((r2.1.aL==0)&&((r2.1.aW==0)&&((r2.1.X==10)&&((r2.1.Y==10)&&((r2.1.nA==0)&&true))))) then (if (r4.2.2==0) then (if ((r4.2.1.length:Int)==0) then ((kC r4.1 [(aP.mk 0 0 10 10 0),(aP.mk 1 0 115 10 0)]).bind fun r6=>some r6) else (none)) else (none)) else (none)) else (none)) else (none)
def jO (j0:lK) (l:(List aP)):Option (Bool):=
 (tL j0.kD j0.mL).bind fun r2=>(iZ j0.kD j0.mL).bind fun r4=>(if (r2.1==r4.1) then (some (r2.2 != r4.2)) else (some true)).bind fun j6=>if j6 then (some false) else ((if r2.1 then (some ((l.length:Int) != (j0.mL.length:Int))) else (some true)).bind fun a0=>if a0 then ((iE).bind fun a2=>some a2) else ((yL j0.kD j0.mL j0.Set l).bind fun a3=>(if (a3.2 != 0) then ((iE).bind fun a4=>some a4) else (some false)).bind fun a1=>some a1))
def fS (l:(List aE)) (s1:aW) (set2:bE):Int→Option (Int ⊕ (Unit ⊕ Unit)):=fun a0 =>
 if (decide (a0<(l.length:Int))) then (((idx l a0).bind fun a5=>(eQ a5 (aE.mk set2.bN set2.bN (aQ s1.cA (rM 2 set2.bN)) (aQ s1.bH (rM 2 set2.bN)))).bind fun a2=>if a2 then ((idx l a0).bind fun a6=>(eZ a6 s1.aZ).bind fun a3=>if a3 then (some true) else ((idx l a0).bind fun a7=>(eZ a7 s1.Used).bind fun a4=>some a4)) else (some true)).bind fun a1=>if a1 then (some (.inr (.inl ()))) else (some (.inl (aH a0 1)))) else (some (.inr (.inr (()))))
def nM (l:(List aE)) (s1:aW) (set2:bE):Option (Bool):=
 (aJ (fS l s1 set2) 0).bind fun a0=>match a0 with | .inl a1=>some false | .inr a2=>some true
def gE (l:(List aP)) (at4:aP):Int→Option (Int ⊕ (Unit ⊕ Unit)):=fun a0 =>
 if (decide (a0<(l.length:Int))) then ((idx l a0).bind fun a1=>if (a1.aL==at4.aL) then (some (.inr (.inl ()))) else (some (.inl (aH a0 1)))) else (some (.inr (.inr (()))))
def gF (pieces:(List aL)) (set2:bE) (l:(List aP)) (at4:aP) (r8:aL×Int×ByteArray×ByteArray×Int×Int):Int→Option (Int ⊕ (Unit ⊕ Unit)):=fun a0 =>
 if (decide (a0<(l.length:Int))) then ((idx l a0).bind fun a4=>(idx pieces a4.aL).bind fun a5=>(idx l a0).bind fun a6=>(gJ a5 a6).bind fun a2=>((idx l a0).bind fun a7=>if (a7.aW==at4.aW) then ((mS r8.1.aD a2.1.aD set2).bind fun a3=>some (!a3)) else (some false)).bind fun a1=>if a1 then (some (.inr (.inl ()))) else (some (.inl (aH a0 1)))) else (some (.inr (.inr (()))))
def nX (sheets:(List aW)) (pieces:(List aL)) (set2:bE) (l:(List aP)) (at4:aP):Option (Int):=
 (if (decide (at4.aL<0)) then (some true) else (if (decide (at4.aL ≥ (pieces.length:Int))) then (some true) else (if (decide (at4.aW<0)) then (some true) else (some (decide (at4.aW ≥ (sheets.length:Int))))))).bind fun j2=>if j2 then (some 1) else ((idx pieces at4.aL).bind fun x7=>(gJ x7 at4).bind fun r8=>if (r8.2.1 != 0) then (some 1) else ((aJ (gE l at4) 0).bind fun a7=>match a7 with | .inl a8=>some 12 | .inr a9=>(idx sheets at4.aW).bind fun a1=>((iX (aL.mk r8.1.Name r8.1.aU r8.1.bZ r8.1.bF r8.1.aD r8.1.bB r8.1.Forms) a1 at4.nA).bind fun a5=>if a5 then ((nM r8.1.aD a1 set2).bind fun a6=>some (!a6)) else (some true)).bind fun a4=>if a4 then (some 13) else ((aJ (gF pieces set2 l at4 r8) 0).bind fun a0=>match a0 with | .inl a2=>some 7 | .inr a3=>some 0)))
def eG (sheets:(List aW)) (pieces:(List aL)) (set2:bE) (l:(List aP)):Int→Option (Int ⊕ ((Int×Int) ⊕ Unit)):=fun a1 =>
 if (decide (a1<(l.length:Int))) then ((slc l 0 a1).bind fun a2=>(idx l a1).bind fun a3=>(nX sheets pieces set2 a2 a3).bind fun a0=>if (a0 != 0) then (some (.inr (.inl (a1,a0)))) else (some (.inl (aH a1 1)))) else (some (.inr (.inr (()))))
def rG (sheets:(List aW)) (pieces:(List aL)) (set2:bE) (l:(List aP)):Option (Int×Int):=
 (gY sheets pieces).bind fun r2=>if (r2 != 0) then (some (0,r2)) else ((iP set2).bind fun r6=>if (!r6) then (some (0,1)) else ((aJ (eG sheets pieces set2 l) 0).bind fun a1=>match a1 with | .inl a0=>some (a0.1,a0.2) | .inr a2=>some (0,0)))
theorem Ge {a b:List aE} (ha:a.length≤1000) (hb:b.length≤1000):oQ a b=some (a.any fun x=>b.any (gK x)):=by
 have inner:∀ x,aJ (lP b x) 0=some (if b.any (gK x) then .inl () else .inr ()):=by
  intro x
  refine dA b (lP b x) (fun k=>(k:Int)) _ _ _ rfl (fun k y hy=>?_) ?_
  ·have hk:=(List.getElem?_eq_some_iff.1 hy).1
   unfold lP
   have h1:decide ((k:Int)<(b.length:Int))=true:=by simp;omega
   simp only [h1,if_true,aX hy,Option.bind_some,tX]
   rw [aM (a:=(k:Int)) (by omega) (by omega)]
   rfl
  ·simp [lP]
 have key:aJ (lQ a b) 0=some (if (a.any fun x=>b.any (gK x)) then .inl () else .inr ()):=by
  refine dA a (lQ a b) (fun k=>(k:Int)) _ _ _ rfl (fun k x hx=>?_) ?_
  ·have hk:=(List.getElem?_eq_some_iff.1 hx).1
   unfold lQ
   have h1:decide ((k:Int)<(a.length:Int))=true:=by simp;omega
   simp only [h1,if_true,aX hx,Option.bind_some,inner]
   rw [aM (a:=(k:Int)) (by omega) (by omega)]
   cases b.any (gK x) <;> rfl
  ·simp [lQ]
 unfold oQ
 rw [key]
 cases (a.any fun x=>b.any (gK x)) <;> rfl
theorem Ps (sheets:List aW):lC sheets=fY sheets:=by
 funext s
 unfold lC fY
 cases idx sheets s with
 | none=>rfl
 | some x =>
   obtain ⟨b,h1,h2⟩:=Ie x
   simp only [Option.bind_some,h1,h2]
theorem Pd (pieces:List aL):lD pieces=fZ pieces:=by
 funext s
 unfold lD fZ
 cases idx pieces s with
 | none=>rfl
 | some x =>
   obtain ⟨b,h1,h2⟩:=Ib x
   simp only [Option.bind_some,h1,h2]
theorem Qg {s:aW} (h:bA s=some 0):s.aZ.length≤4∧s.Used.length≤48:=by
 obtain ⟨a,ha,_⟩:=kG s.Name
 obtain ⟨b,hb,_⟩:=kG s.aU
 unfold bA at h
 rw [ha,hb] at h
 cases a with
 | false=>exact absurd (Option.some.inj h) (by decide)
 | true =>
 cases b with
 | false=>exact absurd (Option.some.inj h) (by decide)
 | true =>
 simp only [Option.bind_some,uN,qE,if_true,Bool.not_true,Bool.false_eq_true,if_false] at h
 generalize decide ((1≤s.bZ∧s.bZ≤60)∧0≤s.bF∧s.bF≤2)=g1 at h
 generalize decide (1≤s.cA∧s.cA≤1048576)=g2 at h
 generalize decide (1≤s.bH∧s.bH≤1048576)=g3 at h
 by_cases h4:(s.aZ.length:Int)>4
 ·simp only [h4,decide_true,if_true,Option.bind_some] at h
  cases g1 <;> cases g2 <;> cases g3 <;> exact absurd (Option.some.inj h) (by decide)
 by_cases h5:(s.Used.length:Int)>48
 ·simp only [h4,h5,decide_false,decide_true,if_true,Bool.false_eq_true,if_false,Option.bind_some] at h
  cases g1 <;> cases g2 <;> cases g3 <;> exact absurd (Option.some.inj h) (by decide)
 omega
theorem Fq {α:Type} {l:List α} {k:Nat} (h:k≤l.length):slc l 0 (k:Int)=some (l.take k):=by
 unfold slc;rw [if_pos (by omega)];simp
theorem Jj (sheets:List aW) (pieces:List aL):∃ b,rP sheets pieces=some b∧gY sheets pieces=some b∧(b=0→sheets.length≤4∧pieces.length≤8∧(∀ s ∈ sheets,bA s=some 0)∧∀ x ∈ pieces,aR x=some 0):=by
 unfold rP gY
 rw [Ps,Pd]
 by_cases h1:(sheets.length:Int)>4
 ·exact ⟨4,by simp [h1],by simp [h1],fun h=>absurd h (by decide)⟩
 by_cases h2:(pieces.length:Int)>8
 ·exact ⟨4,by simp [h1,h2],by simp [h1,h2],fun h=>absurd h (by decide)⟩
 simp only [h1,h2,decide_false,Bool.false_eq_true,if_false,Option.bind_some]
 have k1 : (∃ c,aJ (fY sheets) 0=some (.inl c)∧c≠0)∨(aJ (fY sheets) 0=some (.inr ())∧∀ s ∈ sheets,bA s=some 0):=by
  have key:∀ (m k:Nat),k+m=sheets.length→(∀ s ∈ sheets.take k,bA s=some 0)→(∃ c,aJ (fY sheets) (k:Int)=some (.inl c)∧c≠0)∨(aJ (fY sheets) (k:Int)=some (.inr ())∧∀ s ∈ sheets,bA s=some 0):=by
   intro m
   induction m with
   | zero =>
     intro k h hb;obtain rfl:k=sheets.length:=by omega
     rw [List.take_length] at hb
     exact .inr ⟨dF (by simp [fY]),hb⟩
   | succ m ih =>
     intro k h hb
     have hx:sheets[k]?=some (sheets[k]'(by omega)):=by simp [show k<sheets.length by omega]
     obtain ⟨b,hv,_⟩:=Ie (sheets[k]'(by omega))
     have hd:decide ((k:Int)<(sheets.length:Int))=true:=by simp;omega
     by_cases hb0:b=0
     ·subst hb0
      rw [gA (s':=((k+1:Nat):Int))]
      ·refine ih (k+1) (by omega) fun s hs=>?_
       rw [List.take_add_one,hx] at hs
       rcases List.mem_append.1 hs with hs | hs
       ·exact hb s hs
       ·simp at hs;rw [hs];exact hv
      ·unfold fY
       simp only [hd,if_true,aX hx,Option.bind_some,hv,bne_self_eq_false,Bool.false_eq_true,if_false]
       rw [aM (by omega) (by omega)];rfl
     ·refine .inl ⟨b,dF ?_,hb0⟩
      have hb':(b != 0)=true:=by rw [bne_iff_ne];exact hb0
      unfold fY
      simp only [hd,if_true,aX hx,Option.bind_some,hv,hb']
  exact key sheets.length 0 (by omega) (by simp)
 have k2 : (∃ c,aJ (fZ pieces) 0=some (.inl c)∧c≠0)∨(aJ (fZ pieces) 0=some (.inr ())∧∀ s ∈ pieces,aR s=some 0):=by
  have key:∀ (m k:Nat),k+m=pieces.length→(∀ s ∈ pieces.take k,aR s=some 0)→(∃ c,aJ (fZ pieces) (k:Int)=some (.inl c)∧c≠0)∨(aJ (fZ pieces) (k:Int)=some (.inr ())∧∀ s ∈ pieces,aR s=some 0):=by
   intro m
   induction m with
   | zero =>
     intro k h hb;obtain rfl:k=pieces.length:=by omega
     rw [List.take_length] at hb
     exact .inr ⟨dF (by simp [fZ]),hb⟩
   | succ m ih =>
     intro k h hb
     have hx:pieces[k]?=some (pieces[k]'(by omega)):=by simp [show k<pieces.length by omega]
     obtain ⟨b,hv,_⟩:=Ib (pieces[k]'(by omega))
     have hd:decide ((k:Int)<(pieces.length:Int))=true:=by simp;omega
     by_cases hb0:b=0
     ·subst hb0
      rw [gA (s':=((k+1:Nat):Int))]
      ·refine ih (k+1) (by omega) fun s hs=>?_
       rw [List.take_add_one,hx] at hs
       rcases List.mem_append.1 hs with hs | hs
       ·exact hb s hs
       ·simp at hs;rw [hs];exact hv
      ·unfold fZ
       simp only [hd,if_true,aX hx,Option.bind_some,hv,bne_self_eq_false,Bool.false_eq_true,if_false]
       rw [aM (by omega) (by omega)];rfl
     ·refine .inl ⟨b,dF ?_,hb0⟩
      have hb':(b != 0)=true:=by rw [bne_iff_ne];exact hb0
      unfold fZ
      simp only [hd,if_true,aX hx,Option.bind_some,hv,hb']
  exact key pieces.length 0 (by omega) (by simp)
 rcases k1 with ⟨c,e1,hc⟩ | ⟨e1,g1⟩
 ·rw [e1];exact ⟨c,rfl,rfl,fun h=>absurd h hc⟩
 ·rw [e1]
  rcases k2 with ⟨c,e2,hc⟩ | ⟨e2,g2⟩
  ·simp only [Option.bind_some,e2];exact ⟨c,rfl,rfl,fun h=>absurd h hc⟩
  ·simp only [Option.bind_some,e2];exact ⟨0,rfl,rfl,fun _=>⟨by omega,by omega,g1,g2⟩⟩
def lies (l:List aE) (s:aW) (r:aE):Bool:=!(l.any fun x=>!(decide (lW x r)) || (s.aZ.any (gK x) || s.Used.any (gK x)))
def sS (s:aW) (m:Int):aE:=⟨m,m,aQ s.cA (rM 2 m),aQ s.bH (rM 2 m)⟩
theorem BO {l:List aE} {s:aW} (t:bE) (hl:l.length≤1000) (h1:s.aZ.length≤1000) (h2:s.Used.length≤1000):nM l s t=some (lies l s (sS s t.bN)):=by
 have key:aJ (fS l s t) 0=some (if (l.any fun x=>!(decide (lW x (sS s t.bN))) || (s.aZ.any (gK x) || s.Used.any (gK x))) then .inl () else .inr ()):=by
  refine dA l (fS l s t) (fun k=>(k:Int)) _ _ _ rfl (fun k x hx=>?_) ?_
  ·have hk:=(List.getElem?_eq_some_iff.1 hx).1
   unfold fS
   have hd:decide ((k:Int)<(l.length:Int))=true:=by simp;omega
   have e:eQ x ⟨t.bN,t.bN,aQ s.cA (rM 2 t.bN),aQ s.bH (rM 2 t.bN)⟩=some (decide (lW x (sS s t.bN))):=Kz _ _
   simp only [hd,if_true,aX hx,Option.bind_some,e,Ia x _ h1,Ia x _ h2]
   rw [aM (a:=(k:Int)) (by omega) (by omega)]
   cases decide (lW x (sS s t.bN)) <;> cases s.aZ.any (gK x) <;> cases s.Used.any (gK x) <;> rfl
  ·simp [fS]
 unfold nM
 rw [key]
 unfold lies
 cases (l.any fun x=>!(decide (lW x (sS s t.bN))) || (s.aZ.any (gK x) || s.Used.any (gK x))) <;> rfl
theorem Ov {x:aL} {s:aW} (t:bE) (turn:Int) {al:Bool} (hal:nP x s turn=some al) (hl:x.aD.length≤1000) (h0:0<x.aD.length) (h1:s.aZ.length≤1000) (h2:s.Used.length≤1000):oM x s t turn=some (al&&lies x.aD s (sS s t.bN)):=by
 have hi:kY s t.bN=some (sS s t.bN,decide (vR (sS s t.bN))):=by
  unfold kY sS
  rw [kK];rfl
 have key:aJ (lO x (sS s t.bN,decide (vR (sS s t.bN)))) 0=some (if (x.aD.any fun y=>!(decide (lW y (sS s t.bN)))) then .inl () else .inr ()):=by
  refine dA x.aD (lO x (sS s t.bN,decide (vR (sS s t.bN)))) (fun k=>(k:Int)) _ _ _ rfl (fun k y hx=>?_) ?_
  ·have hk:=(List.getElem?_eq_some_iff.1 hx).1
   unfold lO
   have hd:decide ((k:Int)<(x.aD.length:Int))=true:=by simp;omega
   simp only [hd,if_true,aX hx,Option.bind_some,Ky]
   rw [aM (a:=(k:Int)) (by omega) (by omega)]
   rfl
  ·simp [lO]
 unfold oM
 simp only [hi,Option.bind_some,hal,key,Ge hl h1,Ge hl h2]
 have hz:lies x.aD s (sS s t.bN)=(!(x.aD.any fun y=>!(decide (lW y (sS s t.bN))))&&(!(x.aD.any fun y=>s.aZ.any (gK y))&&!(x.aD.any fun y=>s.Used.any (gK y)))):=by
  unfold lies
  rw [Bool.eq_iff_iff]
  simp only [Bool.not_eq_true',Bool.and_eq_true,List.any_eq_false,Bool.or_eq_true,not_or]
  constructor
  ·intro h;exact ⟨fun y hy=>(h y hy).1,fun y hy=>(h y hy).2.1,fun y hy=>(h y hy).2.2⟩
  ·rintro ⟨a,b,c⟩ y hy;exact ⟨a y hy,b y hy,c y hy⟩
 by_cases hv:vR (sS s t.bN)
 ·simp only [hv,decide_true,if_true,Option.bind_some,hz]
  cases al
  ·rfl
  ·cases (x.aD.any fun y=>!(decide (lW y (sS s t.bN)))) <;> cases (x.aD.any fun y=>s.aZ.any (gK y)) <;> cases (x.aD.any fun y=>s.Used.any (gK y)) <;> rfl
 ·have:(x.aD.any fun y=>!(decide (lW y (sS s t.bN))))=true:=by
   rw [List.any_eq_true]
   refine ⟨x.aD[0],List.getElem_mem h0, ?_⟩
   have:¬ lW x.aD[0] (sS s t.bN):=fun q=>hv q.2.1
   simp [this]
  rw [hz,this]
  simp only [hv,decide_false,Bool.false_eq_true,if_false,Option.bind_some,if_true,Bool.not_true,Bool.false_and,Bool.and_false]
def Fb (pieces:List aL) (p:aP) (q:aL):Prop:=∃ x c n m g h,idx pieces p.aL=some x∧lN x p=some (q,c,n,m,g,h)∧gJ x p=some (q,c,n,m,g,h)∧q.aD.length≤12
def dup (l:List aP) (p:aP):Bool:=l.any fun q=>q.aL==p.aL
theorem Wo (l:List aP) (p:aP) (hl:l.length≤1000):aJ (oH p l) 0=some (if dup l p then .inl () else .inr ()):=by
 refine dA l (oH p l) (fun k=>(k:Int)) _ _ _ rfl (fun k x hx=>?_) ?_
 ·have hk:=(List.getElem?_eq_some_iff.1 hx).1
  unfold oH
  have h1:decide ((k:Int)<(l.length:Int))=true:=by simp;omega
  simp only [h1,if_true,aX hx,Option.bind_some]
  rw [aM (a:=(k:Int)) (by omega) (by omega)]
  rfl
 ·simp [oH]
theorem Vb (l:List aP) (p:aP) (hl:l.length≤1000):aJ (gE l p) 0=some (if dup l p then .inl () else .inr ()):=by
 refine dA l (gE l p) (fun k=>(k:Int)) _ _ _ rfl (fun k x hx=>?_) ?_
 ·have hk:=(List.getElem?_eq_some_iff.1 hx).1
  unfold gE
  have h1:decide ((k:Int)<(l.length:Int))=true:=by simp;omega
  simp only [h1,if_true,aX hx,Option.bind_some]
  rw [aM (a:=(k:Int)) (by omega) (by omega)]
  rfl
 ·simp [gE]
def Jn (t:bE) (l:List aP) (placed:List aL) (p:aP) (q:aL) (k:Nat):Bool:=match l[k]?,placed[k]? with
 | some a,some b=>(a.aW==p.aW)&&!(clr t q.aD b.aD)
 | _,_=>false
theorem Ut {pieces:List aL} (t:bE) {l:List aP} {placed:List aL} (p:aP) (q:aL×Int×ByteArray×ByteArray×Int×Int) (i:Int) (hl:l.length≤1000) (hp:placed.length=l.length) (hq:q.1.aD.length≤12) (inv:∀ (j:Nat) a b,l[j]?=some a→placed[j]?=some b→Fb pieces a b) :
  aJ (oJ t (i,placed) p q l) 0=some (if (List.range l.length).any (Jn t l placed p q.1) then .inl () else .inr ()):=by
 refine mD l.length (oJ t (i,placed) p q l) (fun k=>(k:Int)) _ _ _ rfl (fun k hk=>?_) ?_
 ·have hx:l[k]?=some l[k]:=by simp
  have hy:placed[k]?=some (placed[k]'(by omega)):=by simp [hp,hk]
  obtain ⟨x,c,n,m,g,h,e1,e2,e3,e4⟩:=inv k _ _ hx hy
  unfold oJ Jn
  have h1:decide ((k:Int)<(l.length:Int))=true:=by simp;omega
  simp only [h1,if_true,aX hx,aX hy,hx,hy,Option.bind_some,Vu _ _ t (show q.1.aD.length≤_ by omega) (show (placed[k]'(by omega)).aD.length≤_ by omega)]
  rw [aM (a:=(k:Int)) (by omega) (by omega)]
  cases (l[k].aW==p.aW) <;> simp
 ·simp [oJ]
theorem Rj {pieces:List aL} (t:bE) {l:List aP} {placed:List aL} (p:aP) (q:aL×Int×ByteArray×ByteArray×Int×Int) (hl:l.length≤1000) (hp:placed.length=l.length) (hq:q.1.aD.length≤12) (inv:∀ (j:Nat) a b,l[j]?=some a→placed[j]?=some b→Fb pieces a b) :
  aJ (gF pieces t l p q) 0=some (if (List.range l.length).any (Jn t l placed p q.1) then .inl () else .inr ()):=by
 refine mD l.length (gF pieces t l p q) (fun k=>(k:Int)) _ _ _ rfl (fun k hk=>?_) ?_
 ·have hx:l[k]?=some l[k]:=by simp
  have hy:placed[k]?=some (placed[k]'(by omega)):=by simp [hp,hk]
  obtain ⟨x,c,n,m,g,h,e1,e2,e3,e4⟩:=inv k _ _ hx hy
  unfold gF Jn
  have h1:decide ((k:Int)<(l.length:Int))=true:=by simp;omega
  simp only [h1,if_true,aX hx,hx,hy,Option.bind_some,e1,e3,Va _ _ t (show q.1.aD.length≤_ by omega) (show (placed[k]'(by omega)).aD.length≤_ by omega)]
  rw [aM (a:=(k:Int)) (by omega) (by omega)]
  cases (l[k].aW==p.aW) <;> simp
 ·simp [gF]
def OKp (sheets:List aW) (pieces:List aL) (t:bE) (l:List aP) (k:Nat) (placed:List aL) (p:aP) (q:aL):Prop:=∃ x n m g h s,idx pieces p.aL=some x∧lN x p=some (q,0,n,m,g,h)∧gJ x p=some (q,0,n,m,g,h)∧idx sheets p.aW=some s∧dup (l.take k) p=false∧lies q.aD s (sS s t.bN)=true∧(List.range (l.take k).length).any (Jn t (l.take k) placed p q)=false
theorem Xw {sheets:List aW} {pieces:List aL} (t:bE) {l:List aP} (hl:l.length≤40) (hs:sheets.length≤4) (hp:pieces.length≤8) (gs:∀ s ∈ sheets,bA s=some 0) {k:Nat} {p:aP} (hk:l[k]?=some p) {placed:List aL} (hpl:placed.length=k) (inv:∀ (j:Nat) a b,(l.take k)[j]?=some a→placed[j]?=some b→Fb pieces a b) :
  ∃ e:Int,nX sheets pieces t (l.take k) p=some e∧((e≠0∧kW sheets pieces t l ((k:Int),placed)=some (.inr (.inl ((k:Int),e))))∨(e=0∧∃ q,Fb pieces p q∧OKp sheets pieces t l k placed p q∧kW sheets pieces t l ((k:Int),placed)=some (.inl (((k+1:Nat):Int),placed++[q])))):=by
 have hkl:=(List.getElem?_eq_some_iff.1 hk).1
 have hd:decide ((k:Int)<(l.length:Int))=true:=by simp;omega
 have e0:aQ (pieces.length:Int) 1=(pieces.length:Int)-1:=bP (by omega) (by omega)
 have e1:aQ (sheets.length:Int) 1=(sheets.length:Int)-1:=bP (by omega) (by omega)
 unfold nX kW
 simp only [hd,if_true,aX hk,Option.bind_some,qE,e0,e1]
 by_cases a1:p.aL<0
 ·exact ⟨1,by simp [a1],.inl ⟨by decide,by simp [show ¬ (0≤p.aL∧p.aL≤(pieces.length:Int)-1) by omega]⟩⟩
 by_cases a2:p.aL ≥ (pieces.length:Int)
 ·exact ⟨1,by simp [a1,a2],.inl ⟨by decide,by simp [show ¬ (0≤p.aL∧p.aL≤(pieces.length:Int)-1) by omega]⟩⟩
 by_cases a3:p.aW<0
 ·exact ⟨1,by simp [a1,a2,a3],.inl ⟨by decide,by simp [show (0≤p.aL∧p.aL≤(pieces.length:Int)-1) by omega,show ¬ (0≤p.aW∧p.aW≤(sheets.length:Int)-1) by omega]⟩⟩
 by_cases a4:p.aW ≥ (sheets.length:Int)
 ·exact ⟨1,by simp [a1,a2,a3,a4],.inl ⟨by decide,by simp [show (0≤p.aL∧p.aL≤(pieces.length:Int)-1) by omega,show ¬ (0≤p.aW∧p.aW≤(sheets.length:Int)-1) by omega]⟩⟩
 have b1:(0≤p.aL∧p.aL≤(pieces.length:Int)-1):=by omega
 have b2:(0≤p.aW∧p.aW≤(sheets.length:Int)-1):=by omega
 have hx:idx pieces p.aL=some (pieces[p.aL.toNat]'(by omega)):=by
  unfold idx;rw [if_pos b1.1];simp [show p.aL.toNat<pieces.length by omega]
 have hy:idx sheets p.aW=some (sheets[p.aW.toNat]'(by omega)):=by
  unfold idx;rw [if_pos b2.1];simp [show p.aW.toNat<sheets.length by omega]
 have gy:=Qg (gs _ (List.getElem_mem (show p.aW.toNat<sheets.length by omega)))
 generalize pieces[p.aL.toNat]'(by omega)=x at hx
 generalize sheets[p.aW.toNat]'(by omega)=s at hy gy
 obtain ⟨q,c,n,m,g,h,p1,p2,q1,q2,q3,q4⟩:=Vw x p
 have hlaid:Fb pieces p q:=⟨x,c,n,m,g,h,hx,p1,p2,q1⟩
 simp only [a1,a2,a3,a4,b1,b2,and_self,decide_true,decide_false,if_true,Bool.false_eq_true,if_false,Bool.not_true,Option.bind_some,hx,p1,p2]
 by_cases hc:c=0
 ·subst hc
  have q5:=q4 rfl
  have hlt:(l.take k).length=k:=by rw [List.length_take];omega
  obtain ⟨al,al1,al2⟩:=Lz q s p.nA
  have hw:=BO (l:=q.aD) (s:=s) t (by omega) (by omega) (by omega)
  have hlw:=Ov (x:=q) (s:=s) t p.nA al1 (by omega) q5 (by omega) (by omega)
  have al2':iX (aL.mk q.Name q.aU q.bZ q.bF q.aD q.bB q.Forms) s p.nA=some al:=al2
  have hlw':oM (aL.mk q.Name q.aU q.bZ q.bF q.aD q.bB q.Forms) s t p.nA=some (al&&lies q.aD s (sS s t.bN)):=hlw
  have n1:=Ut (pieces:=pieces) t (l:=l.take k) (placed:=placed) p (q,0,n,m,g,h) (k:Int) (by omega) (by omega) q1 inv
  have n2:=Rj (pieces:=pieces) t (l:=l.take k) (placed:=placed) p (q,0,n,m,g,h) (by omega) (by omega) q1 inv
  simp only [bne_self_eq_false,Bool.false_eq_true,if_false,Wo (l.take k) p (by omega),Vb (l.take k) p (by omega),Fq (Nat.le_of_lt hkl),Option.bind_some]
  cases hdup:dup (l.take k) p with
  | true=>exact ⟨12,rfl,.inl ⟨by decide,rfl⟩⟩
  | false =>
  simp only [Bool.false_eq_true,if_false,hy,Option.bind_some,al2',hlw',hw]
  cases al with
  | false=>exact ⟨13,rfl,.inl ⟨by decide,rfl⟩⟩
  | true =>
  simp only [if_true,Option.bind_some,Bool.true_and]
  cases hlies:lies q.aD s (sS s t.bN) with
  | false=>exact ⟨13,rfl,.inl ⟨by decide,rfl⟩⟩
  | true =>
  simp only [Bool.not_true,Bool.false_eq_true,if_false,n1,n2,Option.bind_some]
  cases hnear:(List.range (l.take k).length).any (Jn t (l.take k) placed p (q,(0:Int),n,m,g,h).1) with
  | true=>exact ⟨7,rfl,.inl ⟨by decide,rfl⟩⟩
  | false =>
    refine ⟨0,rfl,.inr ⟨rfl,q,hlaid,⟨x,n,m,g,h,s,hx,p1,p2,hy,hdup,hlies,hnear⟩, ?_⟩⟩
    simp only [Bool.false_eq_true,if_false]
    rw [pM (by unfold LIM;simp;omega),aM (by omega) (by omega)]
    rfl
 ·have hc':(c != 0)=true:=by rw [bne_iff_ne];exact hc
  exact ⟨1,by simp [hc'],.inl ⟨by decide,by simp [hc']⟩⟩
theorem Qi {sheets:List aW} {pieces:List aL} (t:bE) {l:List aP} (hl:l.length≤40) (hs:sheets.length≤4) (hp:pieces.length≤8) (gs:∀ s ∈ sheets,bA s=some 0) :
  ∃ r,aJ (kW sheets pieces t l) (0,[])=some r∧aJ (eG sheets pieces t l) 0=some r∧(∀ j,r=.inl j→j.2≠0)∧(r=.inr ()→∃ placed:List aL,placed.length=l.length∧∀ (j:Nat) a b,l[j]?=some a→placed[j]?=some b→OKp sheets pieces t l j (placed.take j) a b):=by
 have key:∀ (m k:Nat) (placed:List aL),k+m=l.length→placed.length=k→(∀ (j:Nat) a b,(l.take k)[j]?=some a→placed[j]?=some b→Fb pieces a b)→(∀ (j:Nat) a b,(l.take k)[j]?=some a→placed[j]?=some b→OKp sheets pieces t l j (placed.take j) a b) →
   ∃ r,aJ (kW sheets pieces t l) ((k:Int),placed)=some r∧aJ (eG sheets pieces t l) (k:Int)=some r∧(∀ j,r=.inl j→j.2≠0)∧(r=.inr ()→∃ placed:List aL,placed.length=l.length∧∀ (j:Nat) a b,l[j]?=some a→placed[j]?=some b→OKp sheets pieces t l j (placed.take j) a b):=by
  intro m
  induction m with
  | zero =>
    intro k placed h hpl inv inv2
    obtain rfl:k=l.length:=by omega
    rw [List.take_length] at inv2
    exact ⟨.inr (),dF (by simp [kW]),dF (by simp [eG]),fun j hj=>(by cases hj),fun _=>⟨placed,hpl,inv2⟩⟩
  | succ m ih =>
    intro k placed h hpl inv inv2
    have hk:l[k]?=some (l[k]'(by omega)):=by simp [show k<l.length by omega]
    have hd:decide ((k:Int)<(l.length:Int))=true:=by simp;omega
    obtain ⟨e,h1,h2⟩:=Xw t hl hs hp gs hk hpl inv
    rcases h2 with ⟨he,h2⟩ | ⟨he,q,hq,hok,h2⟩
    ·refine ⟨.inl ((k:Int),e),dF h2,dF ?_,fun j hj=>(by injection hj with hj;rw [← hj];exact he),fun hj=>(by cases hj)⟩
     have he':(e != 0)=true:=by rw [bne_iff_ne];exact he
     unfold eG
     simp only [hd,if_true,Fq (show k≤l.length by omega),aX hk,Option.bind_some,h1,he']
    ·subst he
     have hlt:(l.take k).length=k:=by rw [List.length_take];omega
     obtain ⟨r,r1,r2,r3⟩:=ih (k+1) (placed++[q]) (by omega) (by simp;omega) (fun j a b ha hb=>by
      rw [List.take_add_one,hk] at ha
      have hlt:(l.take k).length=k:=by rw [List.length_take];omega
      by_cases hj:j<k
      ·rw [List.getElem?_append_left (by omega)] at ha hb
       exact inv j a b ha hb
      ·rw [List.getElem?_append_right (by omega)] at ha hb
       rw [hlt] at ha;rw [hpl] at hb
       by_cases hj0:j-k=0
       ·rw [hj0] at ha hb
        simp at ha hb
        rw [← ha,← hb];exact hq
       ·have:1≤j-k:=by omega
        rw [List.getElem?_eq_none (by simp;omega)] at hb
        cases hb) (fun j a b ha hb=>by
      rw [List.take_add_one,hk] at ha
      by_cases hj:j<k
      ·rw [List.getElem?_append_left (by omega)] at ha hb
       rw [List.take_append_of_le_length (by omega)]
       exact inv2 j a b ha hb
      ·rw [List.getElem?_append_right (by omega)] at ha hb
       rw [hlt] at ha;rw [hpl] at hb
       by_cases hj0:j-k=0
       ·obtain rfl:j=k:=by omega
        rw [hj0] at ha hb
        simp at ha hb
        rw [← ha,← hb,List.take_append_of_le_length (by omega),List.take_of_length_le (by omega)];exact hok
       ·have:1≤j-k:=by omega
        rw [List.getElem?_eq_none (by simp;omega)] at hb
        cases hb)
     refine ⟨r,by rw [gA h2];exact r1, ?_,r3⟩
     rw [gA (s':=((k+1:Nat):Int))]
     ·exact r2
     ·unfold eG
      simp only [hd,if_true,Fq (show k≤l.length by omega),aX hk,Option.bind_some,h1,bne_self_eq_false,Bool.false_eq_true,if_false]
      rw [aM (by omega) (by omega)];rfl
 exact key l.length 0 [] (by omega) rfl (fun j a b _ hb=>by simp at hb) (fun j a b _ hb=>by simp at hb)
theorem Qa (sheets:List aW) (pieces:List aL) (t:bE) (l:List aP) (hl:l.length≤40):∃ r,yL sheets pieces t l=some r∧rG sheets pieces t l=some r∧(r.2=0→sheets.length≤4∧pieces.length≤8∧(∀ s ∈ sheets,bA s=some 0)∧(∀ x ∈ pieces,aR x=some 0)∧dY t=some true∧∃ placed:List aL,placed.length=l.length∧∀ (j:Nat) a b,l[j]?=some a→placed[j]?=some b→OKp sheets pieces t l j (placed.take j) a b):=by
 obtain ⟨b,b1,b2,b3⟩:=Jj sheets pieces
 obtain ⟨c,c1,c2⟩:=Kk t
 unfold yL rG
 rw [b1,b2,c1,c2]
 simp only [Option.bind_some]
 by_cases hb:b=0
 ·obtain ⟨g1,g2,g3,g4⟩:=b3 hb
  subst hb
  simp only [bne_self_eq_false,Bool.false_eq_true,if_false]
  cases c with
  | false=>exact ⟨_,rfl,rfl,fun h=>absurd h (by decide)⟩
  | true =>
    obtain ⟨r,r1,r2,r3,r4⟩:=Qi t hl g1 g2 g3
    simp only [Bool.not_true,Bool.false_eq_true,if_false,r1,r2,Option.bind_some]
    cases r with
    | inl j=>exact ⟨_,rfl,rfl,fun h=>absurd h (r3 j rfl)⟩
    | inr j=>exact ⟨_,rfl,rfl,fun _=>⟨g1,g2,g3,g4,trivial,r4 rfl⟩⟩
 ·have hb':(b != 0)=true:=by rw [bne_iff_ne];exact hb
  simp only [hb',if_true]
  exact ⟨_,rfl,rfl,fun h=>absurd h hb⟩
theorem Fy {x:aL} (hx:aR x=some 0) (n:Nat) (hn:n≤3):pY ⟨x.aD,x.bB,x.Forms,[]⟩ (n:Int)=some (⟨trn n x.aD x.aD,trn n x.aD x.bB,trn n x.aD x.Forms,[]⟩,0)∧∃ a b,Good a b (trn n x.aD x.aD)∧Good a b (trn n x.aD x.bB)∧Good a b (trn n x.aD x.Forms):=by
 obtain ⟨z,hz,_,hv⟩:=pP x
 have h:=hv (Option.some.inj (hz.symm.trans hx))
 have g1:Good 0 0 x.aD:=⟨h.n1,h.v1⟩
 have g2:Good 0 0 x.bB:=⟨h.n2,h.v2⟩
 have g3:Good 0 0 x.Forms:=⟨h.n3,h.v3⟩
 obtain ⟨r,t,hc⟩:∃ r t,tq n x.aD=r::t:=by
  cases e:tq n x.aD with
  | nil=>exact absurd e (Zc n h.n0)
  | cons r t=>exact ⟨r,t,rfl⟩
 obtain ⟨⟨lx1,lx2,lx3,lx4⟩,ly1,ly2,ly3,ly4⟩:=Mo (g1.tq n) hc
 have k1:=kH (g1.tq n) ⟨lx1,lx2⟩ ⟨ly1,ly2⟩ ⟨lx3,lx4⟩ ⟨ly3,ly4⟩
 have k2:=kH (g2.tq n) ⟨lx1,lx2⟩ ⟨ly1,ly2⟩ ⟨lx3,lx4⟩ ⟨ly3,ly4⟩
 have k3:=kH (g3.tq n) ⟨lx1,lx2⟩ ⟨ly1,ly2⟩ ⟨lx3,lx4⟩ ⟨ly3,ly4⟩
 have hlo:lo (tq n x.aD)=(lI (tq n x.aD) r.X,lJ (tq n x.aD) r.Y):=by
  rw [show lo (tq n x.aD)=lo (r::t) by rw [hc],lo,hc]
 have hQ:=Cq h n hn hc
 rw [Ad (g1.tq n) ⟨lx3,lx4⟩ ⟨ly3,ly4⟩,Ad (g2.tq n) ⟨lx3,lx4⟩ ⟨ly3,ly4⟩,Ad (g3.tq n) ⟨lx3,lx4⟩ ⟨ly3,ly4⟩] at hQ
 rw [Ad (g1.tq n) ⟨lx3,lx4⟩ ⟨ly3,ly4⟩] at k1
 rw [Ad (g2.tq n) ⟨lx3,lx4⟩ ⟨ly3,ly4⟩] at k2
 rw [Ad (g3.tq n) ⟨lx3,lx4⟩ ⟨ly3,ly4⟩] at k3
 have e1:trn n x.aD x.aD=(tq n x.aD).map (trR (-(lI (tq n x.aD) r.X)) (-(lJ (tq n x.aD) r.Y))):=by unfold trn nrm;rw [hlo]
 have e2:trn n x.aD x.bB=(tq n x.bB).map (trR (-(lI (tq n x.aD) r.X)) (-(lJ (tq n x.aD) r.Y))):=by unfold trn nrm;rw [hlo]
 have e3:trn n x.aD x.Forms=(tq n x.Forms).map (trR (-(lI (tq n x.aD) r.X)) (-(lJ (tq n x.aD) r.Y))):=by unfold trn nrm;rw [hlo]
 rw [← e1,← e2,← e3] at hQ
 rw [← e1] at k1
 rw [← e2] at k2
 rw [← e3] at k3
 exact ⟨hQ,_,_,k1,k2,k3⟩
theorem Vv {x:aL} {p:aP} {q:aL} {n m g h} (hx:aR x=some 0) (hp:lN x p=some (q,0,n,m,g,h)) :
  ∃ k:Nat,k≤3∧(-1048576≤p.X∧p.X≤1048576)∧(-1048576≤p.Y∧p.Y≤1048576)∧q=⟨x.Name,x.aU,x.bZ,x.bF,(trn k x.aD x.aD).map (mvR p.X p.Y),(trn k x.aD x.bB).map (mvR p.X p.Y),(trn k x.aD x.Forms).map (mvR p.X p.Y)⟩∧(∀ r ∈ q.aD,vR r):=by
 obtain ⟨_,t1,t2⟩:=Zi hp rfl
 obtain ⟨k,hk⟩:∃ k:Nat,p.nA=k:=⟨p.nA.toNat,by omega⟩
 have hk3:k≤3:=by omega
 obtain ⟨hQ,a,b,g1,g2,g3⟩:=Fy hx k hk3
 unfold lN at hp
 simp only [hx,Option.bind_some,bne_self_eq_false,Bool.false_eq_true,if_false,qE,show (0≤p.nA∧p.nA≤3) by omega,and_self,decide_true,Bool.not_true] at hp
 by_cases q3 : -1048576≤p.X∧p.X≤1048576
 ·by_cases q4 : -1048576≤p.Y∧p.Y≤1048576
  ·unfold uL at hp
   have n1:=g1.1;have n2:=g2.1;have n3:=g3.1
   simp only [q3,q4,and_self,decide_true,if_true,Bool.not_true,Option.bind_some,Bool.false_eq_true,if_false,hk,hQ,bne_self_eq_false,qJ g1.1,qJ g2.1,qJ g3.1,eE _ (show ((trn k x.aD x.aD).map (mvR p.X p.Y)).length≤9223372036854775806 by rw [List.length_map];omega),eE _ (show ((trn k x.aD x.bB).map (mvR p.X p.Y)).length≤9223372036854775806 by rw [List.length_map];omega),eE _ (show ((trn k x.aD x.Forms).map (mvR p.X p.Y)).length≤9223372036854775806 by rw [List.length_map];omega)] at hp
   refine ⟨k,hk3,q3,q4, ?_⟩
   cases c1:((trn k x.aD x.aD).map (mvR p.X p.Y)).any fun x=>!decide (vR x)
   ·cases c2:((trn k x.aD x.bB).map (mvR p.X p.Y)).any fun x=>!decide (vR x)
    ·cases c3:((trn k x.aD x.Forms).map (mvR p.X p.Y)).any fun x=>!decide (vR x)
     ·simp only [c1,c2,c3,Bool.not_false,Bool.not_true,if_true,Option.bind_some,Bool.false_eq_true,if_false] at hp
      injection hp with hp
      injection hp with hp _
      subst hp
      refine ⟨rfl,fun r hr=>?_⟩
      have:=List.any_eq_false.1 c1 r hr
      simpa using this
     ·simp only [c1,c2,c3,Bool.not_false,Bool.not_true,if_true,Option.bind_some,Bool.false_eq_true,if_false] at hp
      have:=congrArg (fun o=>(o.getD (q,0,n,m,g,h)).2.1) hp
      exact absurd this (show ¬ ((4:Int)=0) by decide)
    ·simp only [c1,c2,Bool.not_false,Bool.not_true,if_true,Option.bind_some,Bool.false_eq_true,if_false] at hp
     have:=congrArg (fun o=>(o.getD (q,0,n,m,g,h)).2.1) hp
     exact absurd this (show ¬ ((4:Int)=0) by decide)
   ·simp only [c1,Bool.not_false,Bool.not_true,if_true,Option.bind_some,Bool.false_eq_true,if_false] at hp
    have:=congrArg (fun o=>(o.getD (q,0,n,m,g,h)).2.1) hp
    exact absurd this (show ¬ ((4:Int)=0) by decide)
  ·simp only [q3,q4,and_self,decide_true,decide_false,if_true,Bool.not_false,Option.bind_some] at hp
   have:=congrArg (fun o=>(o.getD (q,0,n,m,g,h)).2.1) hp
   exact absurd this (show ¬ ((4:Int)=0) by decide)
 ·simp only [q3,decide_false,Bool.false_eq_true,if_false,Option.bind_some,if_true] at hp
  have:=congrArg (fun o=>(o.getD (q,0,n,m,g,h)).2.1) hp
  exact absurd this (show ¬ ((4:Int)=0) by decide)
end Go.SM
namespace Go.SM
open Go Go.VI Go.Cells
def wh:List aE→Int
 | []=>0
 | r::l=>r.W*r.H+wh l
theorem Wl (r:aE) (l:List aE) (x y:Int):cov (r::l) x y=(inC r x y || cov l x y):=rfl
theorem Ty {r:aE} {l:List aE} (hr:vR r) (hl:sK l) (h:∀ s ∈ l,¬ ovR r s):eM MM (cov (r::l))=r.W*r.H+eM MM (cov l):=by
 rw [← Ot hr]
 refine Tz (fun x y=>Wl r l x y) fun x y h1 h2=>?_
 obtain ⟨s,hs,h3⟩:=Sh.1 h2
 exact h s hs ((Pa hr (hl s hs)).2 ⟨x,y,h1,h3⟩)
theorem Ct:∀ (a:List aE) {b:List aE},sK a→sK b→a.Pairwise (fun r s=>¬ ovR r s)→(∀ r ∈ a,∀ s ∈ b,¬ ovR r s)→eM MM (cov (a++b))=wh a+eM MM (cov b)
 | [],b,_,_,_,_=>by show eM MM (cov b)=0+_;omega
 | r::a,b,ha,hb,hp,h=>by
   rw [List.pairwise_cons] at hp
   have ha':sK a:=fun s hs=>ha s (List.mem_cons_of_mem _ hs)
   have:=Ct a ha' hb hp.2 fun r hr=>h r (List.mem_cons_of_mem _ hr)
   rw [List.cons_append,Ty (ha r List.mem_cons_self) (fun s hs=>?_) fun s hs=>?_,this,wh]
   ·omega
   ·rcases List.mem_append.1 hs with hs | hs
    ·exact ha' s hs
    ·exact hb s hs
   ·rcases List.mem_append.1 hs with hs | hs
    ·exact hp.1 s hs
    ·exact h r List.mem_cons_self s hs
theorem Sb {a:List aE} (ha:sK a) (hp:a.Pairwise fun r s=>¬ ovR r s):eM MM (cov a)=wh a:=by
 have:=Ct a (b:=[]) ha (fun s hs=>by cases hs) hp fun r _ s hs=>by cases hs
 rw [List.append_nil,Bh (p:=cov []) fun _ _=>rfl] at this
 omega
theorem Wb {l:List aE} {W H:Int} (hW:0≤W∧W≤1048576) (hH:0≤H∧H≤1048576) (h:∀ r ∈ l,0≤r.X∧r.X+r.W≤W∧0≤r.Y∧r.Y+r.H≤H):eM MM (cov l)≤W*H:=by
 have e:=Ld (M:=MM) (a:=0) (b:=W) (c:=0) (d:=H) (by unfold MM;omega) hW.1 (by unfold MM;omega) (by unfold MM;omega) hH.1 (by unfold MM;omega)
 have:=Zn (M:=MM) (p:=cov l) (q:=inR 0 W 0 H) fun x y hc=>by
  obtain ⟨r,hr,hc⟩:=Sh.1 hc
  rw [pG] at hc
  have:=h r hr
  unfold inR
  simp only [Bool.and_eq_true,decide_eq_true_eq]
  omega
 rw [e] at this
 simpa using this
theorem Py {f g:Nat→Int} {d:Int} {s:Nat} (hs:g s=f s+d) (hn:∀ k,k≠s→g k=f k):∀ n,s<n→eX g n=eX f n+d
 | 0,h=>by omega
 | n+1,h=>by
   simp only [eX]
   by_cases q:s<n
   ·rw [Py hs hn n q,hn n (by omega)];omega
   ·have:s=n:=by omega
    subst this
    rw [sD (g:=f) fun k hk=>hn k (by omega),hs];omega
theorem Tp {f g:Nat→Int}:∀ n,(∀ k,k<n→f k≤g k)→eX f n≤eX g n
 | 0,_=>Int.le_refl _
 | n+1,h=>by
   have:=Tp n fun k hk=>h k (by omega)
   have:=h n (by omega)
   simp only [eX];omega
theorem Px (f g:Nat→Int):∀ n,eX (fun k=>f k-g k) n=eX f n-eX g n
 | 0=>by simp [eX]
 | n+1=>by simp only [eX];rw [Px f g n];omega
def lay (base:Nat→List aE) (items:List (Nat×List aE)) (k:Nat):List aE:=items.flatMap (fun it=>if it.1=k then it.2 else [])++base k
def whs (items:List (Nat×List aE)):Int:=match items with
 | []=>0
 | it::t=>wh it.2+whs t
theorem Sr {n:Nat} {base:Nat→List aE} (hb:∀ k,k<n→sK (base k)):∀ (items:List (Nat×List aE)),(∀ it ∈ items,it.1<n∧sK it.2∧it.2.Pairwise (fun r s=>¬ ovR r s)∧∀ r ∈ it.2,∀ s ∈ base it.1,¬ ovR r s) →
  items.Pairwise (fun a b=>a.1=b.1→∀ r ∈ a.2,∀ s ∈ b.2,¬ ovR r s)→eX (fun k=>eM MM (cov (lay base items k))) n=eX (fun k=>eM MM (cov (base k))) n+whs items
 | [],_,_=>by
   show eX (fun k=>eM MM (cov (lay base [] k))) n=_+0
   rw [Int.add_zero];rfl
 | it::t,h,hp=>by
   rw [List.pairwise_cons] at hp
   have ih:=Sr hb t (fun i hi=>h i (List.mem_cons_of_mem _ hi)) hp.2
   obtain ⟨h1,h2,h3,h4⟩:=h it List.mem_cons_self
   rw [Py (f:=fun k=>eM MM (cov (lay base t k))) (d:=wh it.2) (s:=it.1) ?_ ?_ n h1,ih,whs]
   ·omega
   ·show eM MM (cov (lay base (it::t) it.1))=eM MM (cov (lay base t it.1))+wh it.2
    unfold lay
    rw [List.flatMap_cons,if_pos rfl,List.append_assoc,Ct it.2 h2 (fun s hs=>?_) h3 fun r hr s hs=>?_]
    ·omega
    ·rcases List.mem_append.1 hs with hs | hs
     ·obtain ⟨i,hi,hs⟩:=List.mem_flatMap.1 hs
      split at hs
      ·exact (h i (List.mem_cons_of_mem _ hi)).2.1 s hs
      ·cases hs
     ·exact hb _ h1 s hs
    ·rcases List.mem_append.1 hs with hs | hs
     ·obtain ⟨i,hi,hs⟩:=List.mem_flatMap.1 hs
      split at hs
      ·rename_i e;exact hp.1 i hi e.symm r hr s hs
      ·cases hs
     ·exact h4 r hr s hs
   ·intro k hk
    show eM MM (cov (lay base (it::t) k))=eM MM (cov (lay base t k))
    unfold lay
    rw [List.flatMap_cons,if_neg fun e=>hk e.symm,List.nil_append]
theorem pack {n:Nat} {base:Nat→List aE} {W H:Nat→Int} (hW:∀ k,k<n→(0≤W k∧W k≤1048576)∧0≤H k∧H k≤1048576) (hb:∀ k,k<n→sK (base k)) (hbi:∀ k,k<n→∀ r ∈ base k,0≤r.X∧r.X+r.W≤W k∧0≤r.Y∧r.Y+r.H≤H k)
  {items:List (Nat×List aE)} (h:∀ it ∈ items,it.1<n∧sK it.2∧it.2.Pairwise (fun r s=>¬ ovR r s)∧∀ r ∈ it.2,∀ s ∈ base it.1,¬ ovR r s) (hi:∀ it ∈ items,∀ r ∈ it.2,0≤r.X∧r.X+r.W≤W it.1∧0≤r.Y∧r.Y+r.H≤H it.1)
  (hp:items.Pairwise fun a b=>a.1=b.1→∀ r ∈ a.2,∀ s ∈ b.2,¬ ovR r s):whs items≤eX (fun k=>W k*H k-eM MM (cov (base k))) n:=by
 have h1:=Sr hb items h hp
 have h2:eX (fun k=>eM MM (cov (lay base items k))) n≤eX (fun k=>W k*H k) n:=Tp n fun k hk=>Wb (hW k hk).1 (hW k hk).2 fun r hr=>by
  unfold lay at hr
  rcases List.mem_append.1 hr with hr | hr
  ·obtain ⟨i,hi',hr⟩:=List.mem_flatMap.1 hr
   split at hr
   ·rename_i e;rw [← e];exact hi i hi' r hr
   ·cases hr
  ·exact hbi k hk r hr
 rw [Px]
 omega
theorem Js {α:Type} [BEq α] [LawfulBEq α]:∀ {g l:List α},g.Nodup→(∀ x ∈ g,x ∈ l)→g.length≤l.length
 | [],_,_,_=>by simp
 | x::g,l,hn,h=>by
   rw [List.nodup_cons] at hn
   have:=Js (g:=g) (l:=l.erase x) hn.2 fun y hy=>(List.mem_erase_of_ne (fun e=>hn.1 (by rw [← e];exact hy))).2 (h y (List.mem_cons_of_mem _ hy))
   rw [List.length_erase_of_mem (h x List.mem_cons_self)] at this
   have hp:=List.length_pos_of_mem (h x List.mem_cons_self)
   simp only [List.length_cons];omega
def Pv (f:Nat→Int):List Nat→Int
 | []=>0
 | a::l=>f a+Pv f l
theorem Ke (f:Nat→Int) {a:Nat}:∀ {l:List Nat},a ∈ l→Pv f l=f a+Pv f (l.erase a)
 | b::l,h=>by
   by_cases e:b=a
   ·subst e;rw [List.erase_cons_head];rfl
   ·have hm:a ∈ l:=by rcases List.mem_cons.1 h with h | h;exact absurd h.symm e;exact h
    rw [List.erase_cons_tail (by simpa using e),Pv,Pv,Ke f hm];omega
theorem Pw (f:Nat→Int):∀ (n:Nat) {I:List Nat},I.Nodup→(∀ i ∈ I,i<n)→I.length=n→Pv f I=eX f n
 | 0,I,_,_,h=>by rw [List.eq_nil_of_length_eq_zero h];rfl
 | n+1,I,hn,hl,h=>by
   have hm:n ∈ I:=by
    rcases Classical.em (n ∈ I) with q | q
    ·exact q
    ·exfalso
     have:=Js (l:=List.range n) hn fun i hi=>by
      rw [List.mem_range]
      have:=hl i hi
      have:i≠n:=fun e=>q (e ▸ hi)
      omega
     rw [List.length_range] at this;omega
   have ih:=Pw f n (I:=I.erase n) (hn.erase n) (fun i hi=>by
    have h1:=List.mem_of_mem_erase hi
    have:i≠n:=fun e=>by subst e;exact (List.Nodup.mem_erase_iff hn).1 hi |>.1 rfl
    have:=hl i h1
    omega) (by rw [List.length_erase_of_mem hm];omega)
   rw [Ke f hm,ih,eX];omega
def pw (pieces:List aL) (i:Nat):Int:=match pieces[i]? with
 | some x=>wh x.aD
 | none=>0
def Il (sheets:List aW) (k:Nat):List aE:=match sheets[k]? with
 | some s=>s.aZ++s.Used
 | none=>[]
def Ki (sheets:List aW) (k:Nat):Int:=match sheets[k]? with
 | some s=>s.cA
 | none=>0
def Jd (sheets:List aW) (k:Nat):Int:=match sheets[k]? with
 | some s=>s.bH
 | none=>0
theorem xL {α:Type} {l:List α} {i:Int} {x:α} (h:idx l i=some x):0≤i∧l[i.toNat]?=some x∧i.toNat<l.length:=by
 unfold idx at h
 split at h
 ·exact ⟨by assumption,h,(List.getElem?_eq_some_iff.1 h).1⟩
 ·cases h
theorem Nr {R:List aE} (h:∀ k,k<R.length→oW gK R k=false):R.Pairwise fun r s=>¬ ovR r s:=by
 rw [List.pairwise_iff_getElem]
 intro i j hi hj hij hov
 have:=h j hj
 unfold oW at this
 rw [List.getElem?_eq_getElem hj] at this
 have h2:((R.take j).any (gK R[j]))=false:=this
 rw [List.any_eq_false] at h2
 refine h2 R[i] ?_ ?_
 ·rw [List.mem_take_iff_getElem]
  exact ⟨i,by omega,rfl⟩
 ·unfold gK
  rw [decide_eq_true_eq]
  exact (Oz _ _).1 hov
theorem Nd {g:aE→aE} (h:∀ r,(g r).W*(g r).H=r.W*r.H):∀ l:List aE,wh (l.map g)=wh l
 | []=>rfl
 | r::l=>by rw [List.map_cons,wh,wh,h,Nd h l]
theorem CI (l:List aE):∀ n,wh (tq n l)=wh l
 | 0=>rfl
 | n+1=>by rw [tq,Nd (fun r=>Int.mul_comm _ _),CI l n]
theorem DQ (n:Nat) (R l:List aE):wh (trn n R l)=wh l:=by
 unfold trn nrm
 have e:=Nd (g:=trR (-(lo (tq n R)).1) (-(lo (tq n R)).2)) (fun r=>rfl) (tq n l)
 rw [e,CI]
theorem Re {x:aL} {p:aP} {q:aL} {n m g h} (hx:aR x=some 0) (hp:lN x p=some (q,0,n,m,g,h)):wh q.aD=wh x.aD∧sK q.aD∧q.aD.Pairwise fun r s=>¬ ovR r s:=by
 obtain ⟨k,hk,hX,hY,rfl,hv⟩:=Vv hx hp
 obtain ⟨_,pv⟩:=Zh hx k hk
 obtain ⟨_,_,_,vg⟩:=Jt pv
 obtain ⟨_,a,b,g1,_,_⟩:=Fy hx k hk
 refine ⟨?_,hv, ?_⟩
 ·have e:=Nd (g:=mvR p.X p.Y) (fun r=>rfl) (trn k x.aD x.aD)
  show wh ((trn k x.aD x.aD).map (mvR p.X p.Y))=_
  rw [e,DQ]
 refine Nr fun j hj=>?_
 rw [Ju fun a ha b hb=>?_]
 ·exact vg.ov j (by rw [List.length_map] at hj;exact hj)
 ·unfold gK
  refine decide_eq_decide.2 ?_
  have p1:=(g1.2 a ha).1;have p2:=(g1.2 b hb).1
  have p3:=hv _ (List.mem_map_of_mem ha);have p4:=hv _ (List.mem_map_of_mem hb)
  unfold ovR
  simp only [p1,p2,p3,p4,true_and]
  unfold vR at p1 p2
  unfold mvR
  simp only
  rw [aM (by omega) (by omega),aM (by omega) (by omega),aM (by omega) (by omega),aM (by omega) (by omega)]
  omega
theorem Gf {x:aL} (hx:aR x=some 0):sK x.aD∧x.aD.Pairwise fun r s=>¬ ovR r s:=by
 obtain ⟨_,_,_,vg⟩:=Jt hx
 exact ⟨fun r hr=>vg.v r (List.mem_append.2 (.inl hr)),Nr vg.ov⟩
structure VS (s:aW):Prop where
 w:1≤s.cA∧s.cA≤1048576
 h:1≤s.bH∧s.bH≤1048576
 v:sK (s.aZ++s.Used)
 i:∀ r ∈ s.aZ++s.Used,0≤r.X∧r.X+r.W≤s.cA∧0≤r.Y∧r.Y+r.H≤s.bH
 n1:s.aZ.length≤4
 n2:s.Used.length≤48
theorem Tr {pieces:List aL}:∀ {z:List (aP×aL)},(∀ p ∈ z,wh p.2.aD=pw pieces p.1.aL.toNat)→whs (z.map fun p=>(p.1.aW.toNat,p.2.aD))=Pv (pw pieces) (z.map fun p=>p.1.aL.toNat)
 | [],_=>rfl
 | p::z,h=>by
   show wh p.2.aD+whs (z.map _)=pw pieces p.1.aL.toNat+Pv _ (z.map _)
   rw [h p List.mem_cons_self,Tr fun q hq=>h q (List.mem_cons_of_mem _ hq)]
theorem Uw {sheets:List aW} {pieces:List aL} {t:bE} {l:List aP} {placed:List aL} (hpl:placed.length=l.length) (hn:l.length=pieces.length) (gs:∀ s ∈ sheets,VS s) (gp:∀ x ∈ pieces,aR x=some 0) (tm:0≤t.bN∧t.bN≤1048576)
  (h:∀ (j:Nat) a b,l[j]?=some a→placed[j]?=some b→OKp sheets pieces t l j (placed.take j) a b) :
  eX (pw pieces) pieces.length≤eX (fun k=>Ki sheets k*Jd sheets k-eM MM (cov (Il sheets k))) sheets.length:=by
 have hz:∀ p ∈ l.zip placed,∃ j,l[j]?=some p.1∧placed[j]?=some p.2:=fun p hp=>by
  obtain ⟨j,hj⟩:=List.mem_iff_getElem?.1 hp
  rw [List.getElem?_zip_eq_some] at hj
  exact ⟨j,hj⟩
 have hS:∀ k,k<sheets.length→∃ s,sheets[k]?=some s∧VS s:=fun k hk=>⟨_,List.getElem?_eq_getElem hk,gs _ (List.getElem_mem hk)⟩
 have facts:∀ p ∈ l.zip placed,wh p.2.aD=pw pieces p.1.aL.toNat∧p.1.aL.toNat<pieces.length∧∃ s,sheets[p.1.aW.toNat]?=some s∧VS s∧sK p.2.aD∧(p.2.aD.Pairwise fun r s=>¬ ovR r s)∧lies p.2.aD s (sS s t.bN)=true:=fun p hp=>by
  obtain ⟨j,h1,h2⟩:=hz p hp
  obtain ⟨x,n,m,g,hh,s,e1,e2,_,e3,_,e5,_⟩:=h j _ _ h1 h2
  obtain ⟨i1,i2,i3⟩:=xL e1
  obtain ⟨s1,s2,s3⟩:=xL e3
  obtain ⟨w1,w2,w3⟩:=Re (gp x (List.mem_of_getElem? i2)) e2
  exact ⟨by unfold pw;rw [i2];exact w1,i3,s,s2,gs s (List.mem_of_getElem? s2),w2,w3,e5⟩
 have lz:(l.zip placed).length=pieces.length:=by rw [List.length_zip];omega
 have key:=pack (n:=sheets.length) (base:=Il sheets) (W:=Ki sheets) (H:=Jd sheets) (fun k hk=>by
   obtain ⟨s,e,v⟩:=hS k hk
   unfold Ki Jd
   rw [e]
   have:=v.w;have:=v.h
   simp only;omega) (fun k hk=>by
   obtain ⟨s,e,v⟩:=hS k hk
   unfold Il;rw [e];exact v.v) (fun k hk r hr=>by
   obtain ⟨s,e,v⟩:=hS k hk
   unfold Il at hr;unfold Ki Jd;rw [e] at hr ⊢;exact v.i r hr)
  (items:=(l.zip placed).map fun p=>(p.1.aW.toNat,p.2.aD)) (fun it hit=>by
   obtain ⟨p,hp,rfl⟩:=List.mem_map.1 hit
   obtain ⟨_,_,s,f1,f2,f3,f4,f5⟩:=facts p hp
   refine ⟨(List.getElem?_eq_some_iff.1 f1).1,f3,f4,fun r hr b hb=>?_⟩
   unfold Il at hb
   rw [f1] at hb
   unfold lies at f5
   rw [Bool.not_eq_true',List.any_eq_false] at f5
   have:=f5 r hr
   simp only [Bool.or_eq_true,not_or] at this
   intro hov
   rcases List.mem_append.1 hb with hb | hb
   ·exact this.2.1 (List.any_eq_true.2 ⟨b,hb,by unfold gK;rw [decide_eq_true_eq];exact hov⟩)
   ·exact this.2.2 (List.any_eq_true.2 ⟨b,hb,by unfold gK;rw [decide_eq_true_eq];exact hov⟩)) (fun it hit r hr=>by
   obtain ⟨p,hp,rfl⟩:=List.mem_map.1 hit
   obtain ⟨_,_,s,f1,f2,f3,f4,f5⟩:=facts p hp
   have hr':r ∈ p.2.aD:=hr
   unfold lies at f5
   rw [Bool.not_eq_true',List.any_eq_false] at f5
   have:=f5 r hr'
   simp only [Bool.or_eq_true,not_or] at this
   have hin:lW r (sS s t.bN):=by have:=this.1;simpa using this
   unfold Ki Jd
   rw [f1]
   obtain ⟨_,_,q1,q2,q3,q4⟩:=hin
   have:=f2.w;have:=f2.h
   unfold sS at q1 q2 q3 q4
   simp only at q1 q2 q3 q4 ⊢
   have e2:rM 2 t.bN=2*t.bN:=wF (by omega) (by omega)
   rw [e2,bP (by omega) (by omega)] at q2 q4
   omega) (by
   rw [List.pairwise_map,List.pairwise_iff_getElem]
   intro i j hi hj hij hs r hr s hs'
   have gi:(l.zip placed)[i]?=some (l.zip placed)[i]:=List.getElem?_eq_getElem hi
   have gj:(l.zip placed)[j]?=some (l.zip placed)[j]:=List.getElem?_eq_getElem hj
   generalize (l.zip placed)[i]=a at *
   generalize (l.zip placed)[j]=b at *
   rw [List.getElem?_zip_eq_some] at gi gj
   obtain ⟨x,n,m,g,hh,sh,e1,e2,_,e3,e4,e5,e6⟩:=h j _ _ gj.1 gj.2
   obtain ⟨x',n',m',g',hh',sh',e1',e2',_,e3',e4',e5',e6'⟩:=h i _ _ gi.1 gi.2
   have nn:=(xL e3).1
   have nn':=(xL e3').1
   have hsh:a.1.aW=b.1.aW:=by have:a.1.aW.toNat=b.1.aW.toNat:=hs;omega
   have jl:j<l.length:=(List.getElem?_eq_some_iff.1 gj.1).1
   rw [List.any_eq_false] at e6
   have:=e6 i (List.mem_range.2 (by rw [List.length_take];omega))
   unfold Jn at this
   rw [List.getElem?_take,if_pos hij,List.getElem?_take,if_pos hij,gi.1,gi.2] at this
   simp only [hsh,beq_self_eq_true,Bool.true_and,Bool.not_eq_true',Bool.not_eq_false] at this
   unfold clr at this
   rw [Bool.not_eq_true',List.any_eq_false] at this
   have h1:=this s hs'
   rw [Bool.not_eq_true,List.any_eq_false] at h1
   have h2:=h1 r hr
   intro hov
   apply h2
   unfold blk
   rw [Bool.or_eq_true]
   left
   rw [decide_eq_true_eq]
   exact (Oz _ _).1 hov)
 rw [Tr fun p hp=>(facts p hp).1] at key
 rw [Pw (pw pieces) pieces.length ?_ ?_ ?_] at key
 ·exact key
 ·show List.Pairwise _ _
  rw [List.pairwise_map,List.pairwise_iff_getElem]
  intro i j hi hj hij e
  have gi:(l.zip placed)[i]?=some (l.zip placed)[i]:=List.getElem?_eq_getElem hi
  have gj:(l.zip placed)[j]?=some (l.zip placed)[j]:=List.getElem?_eq_getElem hj
  generalize (l.zip placed)[i]=a at *
  generalize (l.zip placed)[j]=b at *
  rw [List.getElem?_zip_eq_some] at gi gj
  obtain ⟨x,n,m,g,hh,sh,e1,e2,_,e3,e4,e5,e6⟩:=h j _ _ gj.1 gj.2
  obtain ⟨x',n',m',g',hh',sh',e1',e2',_,e3',e4',e5',e6'⟩:=h i _ _ gi.1 gi.2
  have nn:=(xL e1).1
  have nn':=(xL e1').1
  unfold dup at e4
  rw [List.any_eq_false] at e4
  refine e4 a.1 ?_ ?_
  ·refine List.mem_iff_getElem?.2 ⟨i, ?_⟩
   rw [List.getElem?_take,if_pos hij];exact gi.1
  ·have:a.1.aL=b.1.aL:=by omega
   rw [this];simp
 ·intro i hi
  obtain ⟨p,hp,rfl⟩:=List.mem_map.1 hi
  exact (facts p hp).2.1
 ·rw [List.length_map,lz]
end Go.SM
namespace Go.SM
open Go Go.VI
theorem Fa:iE=some true:=by kernel_rfl
end Go.SM
namespace Go.SM
open Go Go.VI Go.Cells
theorem EU {s:aW} (h2:1≤s.cA∧s.cA≤1048576) (h3:1≤s.bH∧s.bH≤1048576) (n1:s.aZ.length≤4) (n2:s.Used.length≤48) (v1:(s.aZ.any fun x=>!decide (vR x))=false) (v2:(s.Used.any fun x=>!decide (vR x))=false) (o1:outs ⟨0,0,s.cA,s.bH⟩ s.aZ=false) (o2:outs ⟨0,0,s.cA,s.bH⟩ s.Used=false):VS s:=by
 have hv:∀ {l:List aE},(l.any fun x=>!decide (vR x))=false→sK l:=fun {l} h r hr=>by
  have:=List.any_eq_false.1 h r hr
  simpa using this
 have hi:∀ {l:List aE},outs ⟨0,0,s.cA,s.bH⟩ l=false→∀ r ∈ l,0≤r.X∧r.X+r.W≤s.cA∧0≤r.Y∧r.Y+r.H≤s.bH:=fun {l} h r hr=>by
  have:=List.any_eq_false.1 h r hr
  have h2:lW r ⟨0,0,s.cA,s.bH⟩:=by simpa using this
  obtain ⟨_,_,a,b,c,d⟩:=h2
  simp only at a b c d
  omega
 refine ⟨h2,h3,fun r hr=>?_,fun r hr=>?_,n1,n2⟩
 ·rcases List.mem_append.1 hr with h | h
  ·exact hv v1 r h
  ·exact hv v2 r h
 ·rcases List.mem_append.1 hr with h | h
  ·exact hi o1 r h
  ·exact hi o2 r h
theorem Nl (s:aW):∃ b,bA s=some b∧cD s=some b∧(b=0→VS s):=by
 obtain ⟨a,ha,ha'⟩:=kG s.Name
 obtain ⟨b,hb,hb'⟩:=kG s.aU
 unfold bA cD
 rw [ha,hb,Et ha' hb']
 cases a with
 | false=>exact ⟨2,rfl,rfl,fun h=>absurd h (by decide)⟩
 | true =>
 cases b with
 | false=>exact ⟨2,rfl,rfl,fun h=>absurd h (by decide)⟩
 | true =>
 simp only [Option.bind_some,uN,qE,Bool.and_self,if_true,Bool.not_true,Bool.false_eq_true,if_false]
 by_cases h1:(1≤s.bZ∧s.bZ≤60)∧0≤s.bF∧s.bF≤2
 ·simp only [h1,and_self,decide_true,if_true,Option.bind_some]
  by_cases h2:1≤s.cA∧s.cA≤1048576
  ·by_cases h3:1≤s.bH∧s.bH≤1048576
   ·have q1:¬ s.cA<1:=by omega
    have q2:¬ s.cA>1048576:=by omega
    have q3:¬ s.bH<1:=by omega
    have q4:¬ s.bH>1048576:=by omega
    simp only [h2,h3,q1,q2,q3,q4,and_self,decide_true,decide_false,if_true,Option.bind_some,Bool.not_true,Bool.false_eq_true,if_false,bne_self_eq_false]
    by_cases h4:(s.aZ.length:Int)>4
    ·exact ⟨4,by simp [h4],by simp [h4],fun h=>absurd h (by decide)⟩
    by_cases h5:(s.Used.length:Int)>48
    ·exact ⟨4,by simp [h5],by simp [h5],fun h=>absurd h (by decide)⟩
    simp only [h4,h5,decide_false,Bool.false_eq_true,if_false,Option.bind_some,eE s.aZ (by omega),eE s.Used (by omega),jS s.aZ (by omega),jS s.Used (by omega),Bs s s.aZ (by omega),Bs s s.Used (by omega)]
    cases v1:(s.aZ.any fun x=>!decide (vR x)) with
    | true=>exact ⟨1,rfl,rfl,fun h=>absurd h (by decide)⟩
    | false =>
    cases v2:(s.Used.any fun x=>!decide (vR x)) with
    | true=>exact ⟨1,rfl,rfl,fun h=>absurd h (by decide)⟩
    | false =>
    have hi:kY s 0=some (⟨0,0,s.cA,s.bH⟩,decide (vR ⟨0,0,s.cA,s.bH⟩)):=by
     unfold kY
     rw [kK]
     have e0:rM 2 0=0:=by rw [wF (by omega) (by omega)];rfl
     rw [e0,bP (by omega) (by omega),bP (by omega) (by omega),Int.sub_zero,Int.sub_zero]
     rfl
    simp only [hi,Option.bind_some,Oq s _ (show s.aZ.length≤_ by omega) (show s.Used.length≤_ by omega),Bool.not_false,if_true,Bool.not_true,Bool.false_eq_true,if_false]
    cases o1:outs ⟨0,0,s.cA,s.bH⟩ s.aZ with
    | true=>exact ⟨13,rfl,rfl,fun h=>absurd h (by decide)⟩
    | false =>
    cases o2:outs ⟨0,0,s.cA,s.bH⟩ s.Used with
    | true=>exact ⟨13,rfl,rfl,fun h=>absurd h (by decide)⟩
    | false=>exact ⟨0,rfl,rfl,fun _=>EU h2 h3 (by omega) (by omega) v1 v2 o1 o2⟩
   ·refine ⟨1,by simp [h2,h3], ?_,fun h=>absurd h (by decide)⟩
    by_cases q3:s.bH<1
    ·simp [q3]
    ·have q4:s.bH>1048576:=by omega
     simp [q3,q4]
  ·refine ⟨1,by simp [h2], ?_,fun h=>absurd h (by decide)⟩
   by_cases q3:s.cA<1
   ·simp [q3]
   ·have q4:s.cA>1048576:=by omega
    simp [q3,q4]
 ·exact ⟨1,by simp only [h1,decide_false];rfl,by simp only [h1,if_false];rfl,fun h=>absurd h (by decide)⟩
def wr (a:Int):Int:=IntKind.i64.wrap a
theorem Rw (a b:Int):wr (wr a+b)=wr (a+b):=by
 unfold wr
 simp only [IntKind.wrap,IntKind.signed,IntKind.bits,IntKind.min,IntKind.max]
 first | omega | (simp only [Int.reducePow,if_true];omega) | (simp;omega)
theorem Zf (a:Int):wr (wr a)=wr a:=by have:=Rw a 0;simpa using this
theorem Ts:wr 0=0:=by unfold wr;exact Cb 0 (by omega) (by omega)
theorem xP {n:Nat} (g:Nat→Int) (body:Int×Int→Option (Int×Int ⊕ Int)) (step:∀ (k:Nat) (acc:Int),k<n→wr acc=acc→body (acc,(k:Int))=some (.inl (wr (acc+g k),((k+1:Nat):Int)))) (fin:∀ acc,body (acc,(n:Int))=some (.inr acc)) {acc:Int} (ha:wr acc=acc) :
  aJ body (acc,0)=some (wr (acc+eX g n)):=by
 have key:=mI (List.range n) body (fun k=>(wr (acc+eX g k),(k:Int))) (wr (acc+eX g n)) (fun k x hx=>?_) ?_
 ·have e0:wr (acc+eX g 0)=acc:=by rw [show acc+eX g 0=acc from by simp [eX]];exact ha
  rw [e0] at key
  exact key
 ·have hk:k<n:=by have:=pR hx;simpa using this
  rw [step k _ hk (Zf _),Rw,Int.add_assoc]
  rfl
 ·rw [List.length_range,fin]
def Iy (s:aW):Int:=s.cA*s.bH-eM MM (cov (s.aZ++s.Used))
theorem Lp {s:aW} (h:bA s=some 0):VS s∧xQ s=some (Iy s,0)∧iQ s=some (Iy s):=by
 obtain ⟨b,b1,_,b3⟩:=Nl s
 rw [h] at b1
 have v:=b3 (Option.some.inj b1).symm
 have n1:=v.n1
 have n2:=v.n2
 have ap1:app [] s.aZ=some s.aZ:=by rw [pM (by unfold LIM;simp;omega)];rfl
 have ap2:app s.aZ s.Used=some (s.aZ++s.Used):=pM (by unfold LIM;omega)
 have hl:(s.aZ++s.Used).length≤100:=by simp;omega
 have c1:=sN (M:=MM) (cov (s.aZ++s.Used));have c2:=sM (cov (s.aZ++s.Used))
 have w:=v.w;have hh:=v.h
 have m1:s.cA*s.bH≤1048576*1048576:=Int.mul_le_mul w.2 hh.2 (by omega) (by omega)
 have m0:0≤s.cA*s.bH:=Int.mul_nonneg (by omega) (by omega)
 refine ⟨v, ?_, ?_⟩
 ·unfold xQ
  rw [h]
  simp only [Option.bind_some,bne_self_eq_false,Bool.false_eq_true,if_false,ap1,ap2,Zo (show _≤900 by omega) v.v]
  rw [wF (a:=s.cA) (b:=s.bH) (by omega) (by omega),bP (a:=s.cA*s.bH) (by omega) (by omega)]
  rfl
 ·unfold iQ
  simp only [ap1,ap2,Option.bind_some,Pj v.v (show _≤400 by omega)]
  rw [wF (a:=s.cA) (b:=s.bH) (by omega) (by omega),bP (a:=s.cA*s.bH) (by omega) (by omega)]
  rfl
def fr (sheets:List aW) (k:Nat):Int:=match sheets[k]? with
 | some s=>Iy s
 | none=>0
theorem DP:∀ (l:List aE),eX (fun j=>match l[j]? with | some r=>r.W*r.H | none=>0) l.length=wh l:=by
 have key:∀ (l:List aE) (k:Nat),k≤l.length→eX (fun j=>match l[j]? with | some r=>r.W*r.H | none=>0) k=wh (l.take k):=fun l k=>by
  induction k with
  | zero=>intro _;rfl
  | succ k ih =>
    intro hk
    have hx:l[k]?=some l[k]:=List.getElem?_eq_getElem (by omega)
    have wa:∀ (a:List aE) (r:aE),wh (a++[r])=wh a+r.W*r.H:=fun a r=>by
     induction a with
     | nil=>simp [wh]
     | cons b a ih=>rw [List.cons_append,wh,wh,ih];omega
    rw [List.take_add_one,hx]
    show eX _ k+_=wh (l.take k++[l[k]])
    rw [wa,ih (by omega)]
    simp only [hx]
 intro l
 rw [key l l.length (Nat.le_refl _),List.take_length]
def total (sheets:List aW) (pieces:List aL):Int:=eX (pw pieces) pieces.length+eX (fun k=>- fr sheets k) sheets.length
theorem Ma (sheets:List aW) (pieces:List aL):∃ a e,tL sheets pieces=some (a,e)∧iZ sheets pieces=some (a,e)∧(a=true→a=decide (wr (total sheets pieces)>0)∧sheets.length≤4∧pieces.length≤8∧(∀ s ∈ sheets,bA s=some 0)∧∀ x ∈ pieces,aR x=some 0):=by
 obtain ⟨b,b1,b2,b3⟩:=Jj sheets pieces
 unfold tL iZ
 rw [b1,b2]
 simp only [Option.bind_some]
 by_cases hb:b=0
 case neg =>
  have hb':(b != 0)=true:=by rw [bne_iff_ne];exact hb
  simp only [hb',if_true]
  exact ⟨false,b,rfl,rfl,fun h=>by cases h⟩
 subst hb
 obtain ⟨h1,h2,h3,h4⟩:=b3 rfl
 have pl:∀ k x,pieces[k]?=some x→sK x.aD∧x.aD.length≤12∧pw pieces k=wh x.aD∧eM MM (cov x.aD)=wh x.aD:=fun k x hx=>by
  have hm:=List.mem_of_getElem? hx
  obtain ⟨p1,p2⟩:=Gf (h4 x hm)
  obtain ⟨z,hz,_,hv⟩:=pP x
  have v:=hv (Option.some.inj (hz.symm.trans (h4 x hm)))
  exact ⟨p1,v.n1,by unfold pw;rw [hx],Sb p1 p2⟩
 have q1:aJ (pI pieces) (0,0)=some (wr (0+eX (pw pieces) pieces.length)):=by
  refine xP _ _ (fun k acc hk ha=>?_) (fun acc=>by simp [pI]) Ts
  have hx:pieces[k]?=some pieces[k]:=List.getElem?_eq_getElem hk
  obtain ⟨p1,p2,p3,_⟩:=pl k _ hx
  generalize pieces[k]=x at hx p1 p2 p3
  have hin:aJ (pH x) (acc,0)=some (wr (acc+eX (fun j=>match x.aD[j]? with | some r=>r.W*r.H | none=>0) x.aD.length)):=by
   refine xP _ _ (fun j a hj _=>?_) (fun a=>by simp [pH]) ha
   have hr:x.aD[j]?=some x.aD[j]:=List.getElem?_eq_getElem hj
   have hv:=p1 _ (List.getElem_mem hj)
   unfold vR at hv
   have m1:x.aD[j].W*x.aD[j].H≤2097152*2097152:=Int.mul_le_mul (by omega) (by omega) (by omega) (by omega)
   have m0:0≤x.aD[j].W*x.aD[j].H:=Int.mul_nonneg (by omega) (by omega)
   unfold pH
   have hd:decide ((j:Int)<(x.aD.length:Int))=true:=by simp [hj]
   simp only [hd,if_true,aX hr,hr,Option.bind_some,fB j (show (j:Int)<9223372036854775807 by omega),wF (a:=x.aD[j].W) (b:=x.aD[j].H) (by omega) (by omega)]
   rfl
  rw [DP,← p3] at hin
  unfold pI
  have hd:decide ((k:Int)<(pieces.length:Int))=true:=by simp [hk]
  simp only [hd,if_true,aX hx,Option.bind_some,hin,fB k (show (k:Int)<9223372036854775807 by omega)]
 have q2:aJ (gB pieces) (0,0)=some (wr (0+eX (pw pieces) pieces.length)):=by
  refine xP _ _ (fun k acc hk ha=>?_) (fun acc=>by simp [gB]) Ts
  have hx:pieces[k]?=some pieces[k]:=List.getElem?_eq_getElem hk
  obtain ⟨p1,p2,p3,p4⟩:=pl k _ hx
  generalize pieces[k]=x at hx p1 p2 p3 p4
  unfold gB
  have hd:decide ((k:Int)<(pieces.length:Int))=true:=by simp [hk]
  simp only [hd,if_true,aX hx,Option.bind_some,Pj p1 (show _≤400 by omega),p4,p3,fB k (show (k:Int)<9223372036854775807 by omega)]
  rfl
 have fs:∀ k s,sheets[k]?=some s→xQ s=some (Iy s,0)∧iQ s=some (Iy s)∧fr sheets k=Iy s:=fun k s hs=>by
  obtain ⟨_,f1,f2⟩:=Lp (h3 s (List.mem_of_getElem? hs))
  exact ⟨f1,f2,by unfold fr;rw [hs]⟩
 have q3:∀ acc,wr acc=acc→aJ (pJ sheets) (acc,0)=some (wr (acc+eX (fun k=>- fr sheets k) sheets.length)):=fun acc ha=>by
  refine xP _ _ (fun k a hk _=>?_) (fun a=>by simp [pJ]) ha
  have hx:sheets[k]?=some sheets[k]:=List.getElem?_eq_getElem hk
  obtain ⟨f1,_,f3⟩:=fs k _ hx
  unfold pJ
  have hd:decide ((k:Int)<(sheets.length:Int))=true:=by simp [hk]
  simp only [hd,if_true,aX hx,Option.bind_some,f1,f3,fB k (show (k:Int)<9223372036854775807 by omega)]
  rfl
 have q4:∀ acc,wr acc=acc→aJ (gC sheets) (acc,0)=some (wr (acc+eX (fun k=>- fr sheets k) sheets.length)):=fun acc ha=>by
  refine xP _ _ (fun k a hk _=>?_) (fun a=>by simp [gC]) ha
  have hx:sheets[k]?=some sheets[k]:=List.getElem?_eq_getElem hk
  obtain ⟨_,f2,f3⟩:=fs k _ hx
  unfold gC
  have hd:decide ((k:Int)<(sheets.length:Int))=true:=by simp [hk]
  simp only [hd,if_true,aX hx,Option.bind_some,f2,f3,fB k (show (k:Int)<9223372036854775807 by omega)]
  rfl
 simp only [bne_self_eq_false,Bool.false_eq_true,if_false,q1,q2,Option.bind_some,q3 _ (Zf _),q4 _ (Zf _),Rw,Int.zero_add]
 exact ⟨_,0,rfl,rfl,fun _=>⟨rfl,h1,h2,h3,h4⟩⟩
theorem Kg (f:Nat→Int):∀ n,eX (fun k=>- f k) n=- eX f n
 | 0=>rfl
 | n+1=>by simp only [eX];rw [Kg f n];omega
theorem Nb {f:Nat→Int} {c:Int}:∀ n:Nat,(∀ k,k<n→-c≤f k∧f k≤c)→-(n*c)≤eX f n∧eX f n≤n*c
 | 0,_=>by simp [eX]
 | n+1,h=>by
   have a:=Nb n fun k hk=>h k (by omega)
   have b:=h n (by omega)
   have e:((n+1:Nat):Int)*c=n*c+c:=by rw [Int.natCast_add,Int.add_mul];simp
   rw [e]
   simp only [eX];omega
theorem Ro {t:bE} (h:dY t=some true):0≤t.bN∧t.bN≤1048576:=by
 unfold dY at h
 simp only [qE,Option.bind_some] at h
 by_cases q:0≤t.bN∧t.bN≤14400
 ·omega
 ·exfalso
  revert h
  by_cases q2:0≤t.Gap∧t.Gap≤14400
  ·simp only [q2,and_self,decide_true,if_true,q,decide_false]
   intro h;cases h
  ·simp only [q2,decide_false,Bool.false_eq_true,if_false]
   intro h;cases h
theorem EE {pieces:List aL} (g:∀ x ∈ pieces,aR x=some 0):∀ k,k<pieces.length→-8796093022208≤pw pieces k∧pw pieces k≤8796093022208:=fun k hk=>by
 have hx:pieces[k]?=some pieces[k]:=List.getElem?_eq_getElem hk
 obtain ⟨p1,p2⟩:=Gf (g _ (List.getElem_mem hk))
 generalize pieces[k]=x at hx p1 p2
 have e:=Sb p1 p2
 have c1:=sN (M:=MM) (cov x.aD);have c2:=sM (cov x.aD)
 have hp:pw pieces k=wh x.aD:=by unfold pw;rw [hx]
 rw [hp]
 generalize eM MM (cov x.aD)=A at e c1 c2
 omega
theorem DX {sheets:List aW} (g:∀ s ∈ sheets,VS s):∀ k,k<sheets.length→-8796093022208≤fr sheets k∧fr sheets k≤8796093022208:=fun k hk=>by
 have hx:sheets[k]?=some sheets[k]:=List.getElem?_eq_getElem hk
 have v:=g _ (List.getElem_mem hk)
 generalize sheets[k]=s at hx v
 have w:=v.w;have hh:=v.h
 have m1:s.cA*s.bH≤1048576*1048576:=Int.mul_le_mul w.2 hh.2 (by omega) (by omega)
 have m0:0≤s.cA*s.bH:=Int.mul_nonneg (by omega) (by omega)
 have c1:=sN (M:=MM) (cov (s.aZ++s.Used));have c2:=sM (cov (s.aZ++s.Used))
 have hp:fr sheets k=s.cA*s.bH-eM MM (cov (s.aZ++s.Used)):=by unfold fr;rw [hx];rfl
 rw [hp]
 generalize eM MM (cov (s.aZ++s.Used))=A at c1 c2
 generalize s.cA*s.bH=B at m1 m0
 omega
theorem Gv (j:lK) (l:List aP):jO j l=some true:=by
 obtain ⟨a,e,x1,x2,x3⟩:=Ma j.kD j.mL
 unfold jO
 rw [x1,x2]
 simp only [Option.bind_some,beq_self_eq_true,if_true,bne_self_eq_false,Bool.false_eq_true,if_false]
 cases a with
 | false=>simp only [Bool.false_eq_true,if_false,Option.bind_some,if_true,Fa]
 | true =>
   obtain ⟨g0,g1,g2,g3,g4⟩:=x3 rfl
   simp only [if_true,Option.bind_some]
   by_cases hn:l.length=j.mL.length
   case neg =>
    have hn':((l.length:Int) != (j.mL.length:Int))=true:=by rw [bne_iff_ne];omega
    simp only [hn',if_true,Fa,Option.bind_some]
   have hn':((l.length:Int) != (j.mL.length:Int))=false:=by rw [hn];simp
   obtain ⟨r,r1,_,r3⟩:=Qa j.kD j.mL j.Set l (by omega)
   simp only [hn',Bool.false_eq_true,if_false,r1,Option.bind_some]
   by_cases hr:r.2=0
   ·exfalso
    obtain ⟨_,_,_,_,ht,placed,hpl,hok⟩:=r3 hr
    have gs:∀ s ∈ j.kD,VS s:=fun s hs=>(Lp (g3 s hs)).1
    have key:=Uw hpl hn gs g4 (Ro ht) hok
    have e1:eX (fun k=>Ki j.kD k*Jd j.kD k-eM MM (cov (Il j.kD k))) j.kD.length=eX (fr j.kD) j.kD.length:=by
     refine sD fun k hk=>?_
     have hx:j.kD[k]?=some j.kD[k]:=List.getElem?_eq_getElem hk
     unfold Ki Jd Il fr Iy
     simp only [hx]
    rw [e1] at key
    have ht0:total j.kD j.mL≤0:=by unfold total;rw [Kg];omega
    have b1:=Nb (f:=pw j.mL) (c:=8796093022208) j.mL.length (EE g4)
    have b2:=Nb (f:=fr j.kD) (c:=8796093022208) j.kD.length (DX gs)
    have hw:wr (total j.kD j.mL)=total j.kD j.mL:=by
     unfold wr
     refine Cb _ ?_ ?_
     ·unfold total;rw [Kg];omega
     ·omega
    rw [hw] at g0
    have:¬ total j.kD j.mL>0:=by omega
    simp [this] at g0
   ·have hr':(r.2 != 0)=true:=by rw [bne_iff_ne];exact hr
    simp only [hr',if_true,Fa,Option.bind_some]
end Go.SM
end
