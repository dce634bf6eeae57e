/- What the functions compute, part 4. -/
import Derived.Test.YtgbiimcgilaklaaGreatPl3
set_option linter.unusedVariables false
set_option linter.unusedSimpArgs false
set_option linter.unusedSectionVars false
open Bool renaming and_eq_true→o8,false_eq_true→j9,not_eq_false'→O6,not_false→E0,not_true→u5,or_eq_true→F6,true_and→R7
open Classical renaming choose_spec→K1
open Int renaming toNat_natCast→y9
open List renaming all_eq_true→p7,any_eq_false→s7,any_eq_true→E2,drop_drop→O5,ext_getElem?→G0,getD_eq_getElem?_getD→m8,getElem?_drop→E8,getElem?_eq_getElem→l8,getElem?_eq_none→s5,getElem?_eq_none_iff→Q7,getElem?_eq_some_iff→m9,getElem?_inj→P1,getElem?_map→p8,getElem?_range→G8,getElem?_replicate→L4,getElem?_set→G6,getElem?_take→D9,getElem_mem→F9,length_append→E5,length_erase_of_mem→R8,length_map→p9,length_pos_of_mem→S3,length_set→v8,length_take→x7,length_zip→V5,map_append→H3,map_congr_left→G1,mem_append→q9,mem_cons_of_mem→F7,mem_filter→O1,mem_flatMap→F3,mem_iff_getElem?→u6,mem_map→E3,mem_of_getElem?→m5,mem_range→F5,mem_singleton→J4,nodup_cons→V4,pairwise_iff_getElem→N3,range→s9,range_succ→Q1,range_zero→V6,replicate→q8,take_add_one→G5,take_append_of_le_length→M7,take_length→E7
open Nat renaming add_zero→K3,le_refl→v7
open Option renaming bind_some→i9,isSome_some→O4,map_some→s8
open Option.some renaming inj→w7
namespace Go.SM
open Go Go.VI Go.Cells
theorem DE {x:aS} {p:bK} {q:aS} {n m g h} (hx:bM x=some 0) (hp:nV x p=some (q,0,n,m,g,h)) :
  ∃ k:Nat,k≤3∧(-1048576≤p.X∧p.X≤1048576)∧(-1048576≤p.Y∧p.Y≤1048576)∧q=⟨x.Name,x.bH,x.cX,x.cU,(trn k x.aD x.aD).map (mvR p.X p.Y),(trn k x.aD x.bQ).map (mvR p.X p.Y),(trn k x.aD x.Forms).map (mvR p.X p.Y)⟩∧(∀ r ∈ q.aD,vR r)∧(∀ r ∈ q.bQ,vR r)∧∀ r ∈ q.Forms,vR r:=by
 obtain ⟨_,t1,t2⟩:=UG hp rfl
 obtain ⟨k,hk⟩:∃ k:Nat,p.Kq=k:=⟨p.Kq.toNat,by omega⟩
 have hk3:k≤3:=by omega
 obtain ⟨hQ,a,b,g1,g2,g3⟩:=Hn hx k hk3
 unfold nV at hp
 simp only [hx,i9,bne_self_eq_false,j9,if_false,Fj,show (0≤p.Kq∧p.Kq≤3) by omega,and_self,decide_true,u5] at hp
 by_cases q3 : -1048576≤p.X∧p.X≤1048576
 ·by_cases q4 : -1048576≤p.Y∧p.Y≤1048576
  ·unfold yN at hp
   have n1:=g1.1;have n2:=g2.1;have n3:=g3.1
   simp only [q3,q4,and_self,decide_true,if_true,u5,i9,j9,if_false,hk,hQ,bne_self_eq_false,Bo g1.1,Bo g2.1,Bo g3.1,lV _ (show ((trn k x.aD x.aD).map (mvR p.X p.Y)).length≤9223372036854775806 by rw [p9];omega),lV _ (show ((trn k x.aD x.bQ).map (mvR p.X p.Y)).length≤9223372036854775806 by rw [p9];omega),lV _ (show ((trn k x.aD x.Forms).map (mvR p.X p.Y)).length≤9223372036854775806 by rw [p9];omega)] at hp
   refine ⟨k,hk3,q3,q4, ?_⟩
   cases c1:((trn k x.aD x.aD).map (mvR p.X p.Y)).any fun x=>!decide (vR x)
   ·cases c2:((trn k x.aD x.bQ).map (mvR p.X p.Y)).any fun x=>!decide (vR x)
    ·cases c3:((trn k x.aD x.Forms).map (mvR p.X p.Y)).any fun x=>!decide (vR x)
     ·simp only [c1,c2,c3,E0,u5,if_true,i9,j9,if_false] at hp
      injection hp with hp
      injection hp with hp _
      subst hp
      have vv:∀ l:List aF,(l.any fun x=>!decide (vR x))=false→∀ r ∈ l,vR r:=fun l c r hr=>by
       have:=s7.1 c r hr
       simpa using this
      exact ⟨rfl,vv _ c1,vv _ c2,vv _ c3⟩
     ·simp only [c1,c2,c3,E0,u5,if_true,i9,j9,if_false] at hp
      have:=congrArg (fun o=>(o.getD (q,0,n,m,g,h)).2.1) hp
      exact absurd this (show ¬ ((4:Int)=0) by decide)
    ·simp only [c1,c2,E0,u5,if_true,i9,j9,if_false] at hp
     have:=congrArg (fun o=>(o.getD (q,0,n,m,g,h)).2.1) hp
     exact absurd this (show ¬ ((4:Int)=0) by decide)
   ·simp only [c1,E0,u5,if_true,i9,j9,if_false] at hp
    have:=congrArg (fun o=>(o.getD (q,0,n,m,g,h)).2.1) hp
    exact absurd this (show ¬ ((4:Int)=0) by decide)
  ·simp only [q3,q4,and_self,decide_true,decide_false,if_true,E0,i9] at hp
   have:=congrArg (fun o=>(o.getD (q,0,n,m,g,h)).2.1) hp
   exact absurd this (show ¬ ((4:Int)=0) by decide)
 ·simp only [q3,decide_false,j9,if_false,i9,if_true] at hp
  have:=congrArg (fun o=>(o.getD (q,0,n,m,g,h)).2.1) hp
  exact absurd this (show ¬ ((4:Int)=0) by decide)
theorem ZU {X Y:Int} (hX : -1048576≤X∧X≤1048576) (hY : -1048576≤Y∧Y≤1048576) {r:aF} (hr:vR r):bkR X Y (mvR X Y r)=r:=by
 unfold vR at hr
 unfold mvR bkR
 rw [bA (by omega) (by omega),bA (by omega) (by omega)]
 rw [if_neg (by simp only;omega)]
 simp only
 rw [bP (by omega) (by omega),bP (by omega) (by omega)]
 cases r
 simp only [aF.mk.injEq,and_true]
 omega
theorem CT {x:aS} {p:bK} {q:aS} {n m g h} (hx:bM x=some 0) (hp:nV x p=some (q,0,n,m,g,h)):pQ q=some 0:=by
 obtain ⟨k,hk,hX,hY,rfl,hv,_⟩:=DE hx hp
 obtain ⟨_,a,b,g1,g2,g3⟩:=Hn hx k hk
 obtain ⟨_,pv⟩:=JD hx k hk
 obtain ⟨z,hz,_,hvp⟩:=tZ x
 have vp:=hvp (w7 (hz.symm.trans hx))
 have hne:0<(trn k x.aD x.aD).length:=by unfold trn nrm;rw [p9,BG];exact vp.n0
 have hl0:lo (trn k x.aD x.aD)=(0,0):=HJ (GD k vp.n0:tq k x.aD≠[])
 generalize trn k x.aD x.aD=A at *
 generalize trn k x.aD x.bQ=B at *
 generalize trn k x.aD x.Forms=C at *
 have n1:=g1.1;have n2:=g2.1;have n3:=g3.1
 have mt:A.map (mvR p.X p.Y)=A.map (trR p.X p.Y):=G1 fun r hr=>by
  have:=(g1.2 r hr).1
  unfold vR at this
  unfold mvR trR
  rw [bA (by omega) (by omega),bA (by omega) (by omega)]
 have bk:∀ {l:List aF},Good a b l→(l.map (mvR p.X p.Y)).map (bkR p.X p.Y)=l:=fun {l} gl=>by
  rw [List.map_map]
  conv=>rhs;rw [← List.map_id l]
  exact G1 fun r hr=>ZU hX hY (gl.2 r hr).1
 have hlo:lo (A.map (mvR p.X p.Y))=(p.X,p.Y):=by
  rw [mt,XM (by intro e;rw [e] at hne;simp at hne),hl0]
  refine Prod.ext ?_ ?_ <;> simp
 have lA:(A.map (mvR p.X p.Y)).length≤1048576:=by rw [p9];omega
 have lB:(B.map (mvR p.X p.Y)).length≤1048576:=by rw [p9];omega
 have lC:(C.map (mvR p.X p.Y)).length≤1048576:=by rw [p9];omega
 have hlen:0<(A.map (mvR p.X p.Y)).length:=by rw [p9];exact hne
 obtain ⟨r,t,hA⟩:∃ r t,A.map (mvR p.X p.Y)=r::t:=by
  cases e:A.map (mvR p.X p.Y) with
  | nil=>rw [e] at hlen;simp at hlen
  | cons r t=>exact ⟨r,t,rfl⟩
 have hr:(A.map (mvR p.X p.Y))[0]?=some r:=by rw [hA];rfl
 have i0:idx (A.map (mvR p.X p.Y)) 0=some r:=aW (k:=0) hr
 have lx:uJ (A.map (mvR p.X p.Y)) r.X=p.X∧uK (A.map (mvR p.X p.Y)) r.Y=p.Y:=by
  have:lo (A.map (mvR p.X p.Y))=(uJ (A.map (mvR p.X p.Y)) r.X,uK (A.map (mvR p.X p.Y)) r.Y):=by rw [hA];rfl
  rw [this] at hlo
  exact ⟨congrArg Prod.fst hlo,congrArg Prod.snd hlo⟩
 have k1:aM (gI ⟨x.Name,x.bH,x.cX,x.cU,A.map (mvR p.X p.Y),B.map (mvR p.X p.Y),C.map (mvR p.X p.Y)⟩) 0=some (.inr ()):=by
  have:=gD (A.map (mvR p.X p.Y)) (gI ⟨x.Name,x.bH,x.cX,x.cU,A.map (mvR p.X p.Y),B.map (mvR p.X p.Y),C.map (mvR p.X p.Y)⟩) (fun k=>(k:Int)) (fun x=>!decide (vR x)) (.inr ()) (.inl ()) rfl (fun k y hy=>?_) ?_
  ·refine this.trans ?_
   have:((A.map (mvR p.X p.Y)).any fun x=>!decide (vR x))=false:=by
    rw [s7];intro y hy;simp [hv y hy]
   rw [this];rfl
  ·have hk:=(m9.1 hy).1
   unfold gI
   have h1:decide ((k:Int)<((A.map (mvR p.X p.Y)).length:Int))=true:=by rw [decide_eq_true_eq];omega
   simp only [h1,if_true,aW hy,i9,iT]
   rw [bA (a:=(k:Int)) (by omega) (by omega)]
   rfl
  ·simp [gI]
 have bl:=Zs ⟨x.Name,x.bH,x.cX,x.cU,A.map (mvR p.X p.Y),B.map (mvR p.X p.Y),C.map (mvR p.X p.Y)⟩ lA r.X r.Y
 have h0:(((A.map (mvR p.X p.Y)).length:Int)==0)=false:=by rw [beq_eq_false_iff_ne];omega
 unfold pQ
 simp only [k1,i9,h0,j9,if_false,i0,bl,lx.1,lx.2,back_eq lA,back_eq lB,back_eq lC,bk g1,bk g2,bk g3,pv]
theorem NI {x:aS} {p:bK} {q:aS} {n m g h} (hx:bM x=some 0) (hp:nV x p=some (q,0,n,m,g,h)):Sm q:=by
 obtain ⟨k,hk,hX,hY,rfl,h1,h2,h3⟩:=DE hx hp
 obtain ⟨_,a,b,g1,g2,g3⟩:=Hn hx k hk
 have r:∀ r:aF,vR r→Vt r:=fun r hr=>by unfold vR at hr;unfold Vt R64;omega
 exact ⟨⟨by have:=g1.1;simp only [p9];omega,fun y hy=>r y (h1 y hy)⟩,⟨by have:=g2.1;simp only [p9];omega,fun y hy=>r y (h2 y hy)⟩,⟨by have:=g3.1;simp only [p9];omega,fun y hy=>r y (h3 y hy)⟩⟩
def onS (sheet:Int) (a:bK×aS):Bool:=a.1.aT==sheet
def lay (sheet:Int) (z:List (bK×aS)):List aS:=(z.filter (onS sheet)).map (·.2)
theorem RE (sheet:Int) {z:List (bK×aS)} {k:Nat} {a:bK×aS} (h:z[k]?=some a):lay sheet (z.take (k+1))=if a.1.aT==sheet then lay sheet (z.take k)++[a.2] else lay sheet (z.take k):=by
 unfold lay
 rw [G5,h]
 simp only [Option.toList_some,List.filter_append,H3]
 by_cases hs:(a.1.aT==sheet)=true
 ·have:onS sheet a=true:=hs
  rw [if_pos hs,List.filter_cons_of_pos this];rfl
 ·have:¬ onS sheet a=true:=hs
  rw [if_neg hs,List.filter_cons_of_neg this];simp
theorem KJ (sheet:Int) (z:List (bK×aS)):(lay sheet z).length≤z.length:=by
 unfold lay;rw [p9];exact List.length_filter_le _ _
theorem Vo {l:List bK} {placed:List aS} {k:Nat} {a:bK×aS} (h:(l.zip placed)[k]?=some a):l[k]?=some a.1∧placed[k]?=some a.2:=by
 rw [List.getElem?_zip_eq_some] at h;exact h
section
variable {sheets:List aT} {pieces:List aS} {t:dJ} {l:List bK} {placed:List aS}
theorem RD (hl:l.length≤40) (hp:placed.length=l.length) (ok:∀ (j:Nat) a b,l[j]?=some a→placed[j]?=some b→OKp sheets pieces t (l.take j) (placed.take j) a b) (sheet:Int):aM (uO pieces l sheet) (0,[])=some (.inr (lay sheet (l.zip placed))):=by
 have hz:(l.zip placed).length=l.length:=by rw [V5];omega
 refine gN (l.zip placed) (uO pieces l sheet) (fun k=>((k:Int),lay sheet ((l.zip placed).take k))) _ (fun k a ha=>?_) ?_
 ·obtain ⟨h1,h2⟩:=Vo ha
  have hk:=(m9.1 h1).1
  obtain ⟨x,n,m,g,h,s,e1,e2,_⟩:=ok k _ _ h1 h2
  have hd:decide ((k:Int)<(l.length:Int))=true:=by simp;omega
  have hll:=KJ sheet ((l.zip placed).take k)
  rw [x7] at hll
  unfold uO yX
  rw [RE sheet ha]
  simp only [hd,if_true,aW h1,i9]
  rw [bA (a:=(k:Int)) (by omega) (by omega)]
  by_cases hs:(a.1.aT==sheet)=true
  ·simp only [hs,if_true,e1,e2,i9,bne_self_eq_false,j9,if_false]
   rw [iF (by unfold LIM;simp;omega)]
   rfl
  ·simp only [hs,j9,if_false]
   rfl
 ·rw [hz]
  have:(l.zip placed).take l.length=l.zip placed:=by rw [← hz,E7]
  simp [uO,this]
theorem MT (h8:l.length≤8) (gs:∀ s ∈ sheets,eB s=some 0) (gp:∀ x ∈ pieces,bM x=some 0) (hmar:0≤t.cH∧t.cH≤14400) (hp:placed.length=l.length) (ok:∀ (j:Nat) a b,l[j]?=some a→placed[j]?=some b→OKp sheets pieces t (l.take j) (placed.take j) a b) (sheet:Int) {s:aT} (hsh:idx sheets sheet=some s) (vs:VS s) :
  mG ⟨s,lay sheet (l.zip placed)⟩=some 0∧LB ⟨s,lay sheet (l.zip placed)⟩:=by
 have hz:(l.zip placed).length=l.length:=by rw [V5];omega
 have mem:∀ {α:Type} {l:List α} {i:Int} {x:α},idx l i=some x→x ∈ l:=fun {α l i x} e=>by
  unfold idx at e
  split at e
  ·exact m5 e
  ·cases e
 have sv:=gs s (mem hsh)
 have sl1:=vs.n1;have sl2:=vs.n2
 have hlen:(lay sheet (l.zip placed)).length≤8:=by
  have h1:=KJ sheet (l.zip placed)
  omega
 have hq:∀ q ∈ lay sheet (l.zip placed),∃ (k:Nat) (p:bK),l[k]?=some p∧placed[k]?=some q∧p.aT=sheet:=fun q hq=>by
  obtain ⟨a,ha,rfl⟩:=E3.1 hq
  obtain ⟨ha,hs⟩:=O1.1 ha
  obtain ⟨k,hk⟩:=u6.1 ha
  obtain ⟨h1,h2⟩:=Vo hk
  exact ⟨k,a.1,h1,h2,by unfold onS at hs;simpa using hs⟩
 have hn:∀ x ∈ lay sheet (l.zip placed),x.aD.length≤12:=fun q hqm=>by
  obtain ⟨k,p,h1,h2,_⟩:=hq q hqm
  obtain ⟨_,_,_,_,_,_,_,_,_,_,_,_,_,_,h⟩:=ok k p q h1 h2
  exact h
 refine ⟨?_,show (lay sheet (l.zip placed)).length≤1048576 by omega,fun q hqm=>by
  obtain ⟨k,p,h1,h2,_⟩:=hq q hqm
  obtain ⟨x,n,m,g,h,s',e1,e2,_⟩:=ok k p q h1 h2
  exact NI (gp x (mem e1)) e2⟩
 have v1:aM (kV ⟨s,lay sheet (l.zip placed)⟩) 0=some (.inr ()):=by
  have:=gD (lay sheet (l.zip placed)) (kV ⟨s,lay sheet (l.zip placed)⟩) (fun k=>(k:Int)) (fun _=>false) (.inr ()) (.inl 0) rfl (fun k q hk=>?_) ?_
  ·refine this.trans ?_;simp
  ·have hkl:=(m9.1 hk).1
   obtain ⟨k',p,h1,h2,_⟩:=hq q (m5 hk)
   obtain ⟨x,n,m,g,h,s',e1,e2,_⟩:=ok k' p q h1 h2
   have pr:=CT (gp x (mem e1)) e2
   unfold kV
   have hd:decide ((k:Int)<((lay sheet (l.zip placed)).length:Int))=true:=by rw [decide_eq_true_eq];omega
   simp only [hd,if_true,aW hk,i9,pr,bne_self_eq_false,j9,if_false]
   rw [bA (a:=(k:Int)) (by omega) (by omega)]
   rfl
  ·simp [kV]
 have v2:(lay sheet (l.zip placed)).any (fun x=>x.aD.any (CP s))=false:=by
  rw [s7]
  intro q hqm
  obtain ⟨k,p,h1,h2,hps⟩:=hq q hqm
  obtain ⟨x,n,m,g,h,s',e1,e2,e4,_,e6,_⟩:=ok k p q h1 h2
  rw [hps,hsh] at e4
  obtain rfl:=w7 e4
  have:q.aD.any (CP s)=false:=by
   rw [s7]
   intro r hr
   unfold lies at e6
   have e7:(q.aD.any fun x=>!(decide (pS x (Hk s t.cH))) || (s.bO.any (iQ x) || s.Used.any (iQ x)))=false:=by simpa using e6
   have e8:=s7.1 e7 r hr
   simp only [F6,not_or] at e8
   obtain ⟨a1,a2,a3⟩:=e8
   have a1':pS r (Hk s t.cH):=by simpa using a1
   have hin:pS r ⟨0,0,s.dQ,s.cE⟩:=by
    obtain ⟨b1,b2,b3,b4,b5,b6⟩:=a1'
    have c:=b2
    unfold vR Hk at c
    unfold Hk at b3 b4 b5 b6
    simp only at c b3 b4 b5 b6
    have hi:gZ 2 t.cH=2*t.cH:=Fl (by omega) (by omega)
    rw [hi] at c b4 b6
    have wv:=vs.w;have wh:=vs.h
    rw [bP (by omega) (by omega)] at c b4
    rw [bP (a:=s.cE) (by omega) (by omega)] at c b6
    refine ⟨b1, ?_, ?_⟩
    ·unfold vR;simp only;omega
    ·simp only;omega
   unfold CP
   simp only [hin,decide_true,u5,Bool.false_or,F6,not_or]
   exact ⟨a2,a3⟩
  simp [this]
 have v3:(s9 (lay sheet (l.zip placed)).length).any (HB (lay sheet (l.zip placed)))=false:=by
  have pw:(l.zip placed).Pairwise (fun a b=>(a.1.aT==sheet)=true→(b.1.aT==sheet)=true→Yz b.2 a.2=false):=by
   rw [N3]
   intro i j hi hj hij sa sb
   have gi:=Vo (l8 hi)
   have gj:=Vo (l8 hj)
   obtain ⟨x,n,m,g,h,s',e1,e2,e4,_,e6,e7,_⟩:=ok j _ _ gj.1 gj.2
   have hlj:j<l.length:=by rw [hz] at hj;exact hj
   have:=s7.1 e7 i (F5.2 (by rw [x7];omega))
   unfold FA at this
   have t1:(l.take j)[i]?=some (l.zip placed)[i].1:=by rw [D9];simp only [hij,if_true];exact gi.1
   have t2:(placed.take j)[i]?=some (l.zip placed)[i].2:=by rw [D9];simp only [hij,if_true];exact gi.2
   rw [t1,t2] at this
   have same:((l.zip placed)[i].1.aT==(l.zip placed)[j].1.aT)=true:=by
    have q1:(l.zip placed)[i].1.aT=sheet:=by simpa using sa
    have q2:(l.zip placed)[j].1.aT=sheet:=by simpa using sb
    rw [q1,q2];simp
   simp only [same,R7,Bool.not_eq_true,O6] at this
   have hc:clr t (l.zip placed)[j].2.aD (l.zip placed)[i].2.aD=true:=by simpa using this
   unfold clr at hc
   unfold Yz
   rw [s7]
   intro r hr
   have:((l.zip placed)[i].2.aD.any fun y=>blk t r y)=false:=by
    have q:((l.zip placed)[j].2.aD.any fun x=>(l.zip placed)[i].2.aD.any fun y=>blk t x y)=false:=by simpa using hc
    have:=s7.1 q r hr
    simpa using this
   have:((l.zip placed)[i].2.aD.any (iQ r))=false:=by
    rw [s7]
    intro y hy
    have q:=s7.1 this y hy
    unfold blk at q
    simp only [F6,not_or] at q
    exact q.1
   rw [this];exact Bool.false_ne_true
  have pl:(lay sheet (l.zip placed)).Pairwise (fun a b=>Yz b a=false):=by
   unfold lay
   rw [List.pairwise_map,List.pairwise_filter]
   exact pw.imp fun h ha hb=>h ha hb
  rw [s7]
  intro k hk
  have hkl:=F5.1 hk
  unfold HB
  have he:(lay sheet (l.zip placed))[k]?=some (lay sheet (l.zip placed))[k]:=by simp
  rw [he]
  have:((lay sheet (l.zip placed)).take k).any (Yz (lay sheet (l.zip placed))[k])=false:=by
   rw [s7]
   intro y hy
   obtain ⟨i,hi,rfl⟩:=List.mem_take_iff_getElem.1 hy
   have:=(N3.1 pl) i k (by omega) hkl (by omega)
   simp [this]
  simp [this]
 have h8:decide (((lay sheet (l.zip placed)).length:Int)>8)=false:=by simp;omega
 unfold mG
 simp only [sv,i9,bne_self_eq_false,j9,if_false,h8,v1,XJ ⟨s,lay sheet (l.zip placed)⟩ hlen hn sl1 sl2,v2,XK ⟨s,lay sheet (l.zip placed)⟩ hlen hn,v3]
end
theorem copy_eq (s:aT) (h1:s.bO.length≤4) (h2:s.Used.length≤48):De s=some s:=by
 unfold De eD
 rw [iF (by unfold LIM;simp;omega),iF (by unfold LIM;simp;omega)]
 rfl
theorem MU {sheets:List aT} {pieces:List aS} {t:dJ} {O:List bK} {Q:List aS} (h8:O.length≤8) (gs:∀ s ∈ sheets,eB s=some 0) (gp:∀ x ∈ pieces,bM x=some 0) (hm:0≤t.cH∧t.cH≤14400) (hp:Q.length=O.length) (ok:∀ (j:Nat) a b,O[j]?=some a→Q[j]?=some b→OKp sheets pieces t (O.take j) (Q.take j) a b) (hc:Gs sheets pieces t O=some (0,0)) {k:Nat} (hk:k<sheets.length) :
  ∃ (s:aT) (L:List aS) (a b:ByteArray) (c d e f:Int),Bb sheets pieces t O (k:Int)=some (⟨s,L⟩,0,a,b,c,d,e,f)∧mG ⟨s,L⟩=some 0∧LB ⟨s,L⟩:=by
 have hs:sheets[k]?=some sheets[k]:=l8 hk
 obtain ⟨z,z1,z3⟩:=Hq sheets[k]
 have vs:=z3 (w7 (z1.symm.trans (gs _ (m5 hs))))
 generalize sheets[k]=s at hs vs
 refine ⟨s,lay k (O.zip Q),s.Name,s.bH,s.cX,s.cU,s.dQ,s.cE, ?_,MT h8 gs gp hm hp ok k (aW hs) vs⟩
 unfold Bb
 have c1:¬ (k:Int)<0:=by omega
 have c2:¬ (k:Int) ≥ (sheets.length:Int):=by omega
 simp only [hc,i9,bne_self_eq_false,j9,if_false,c1,c2,decide_false,aW hs,copy_eq s vs.n1 vs.n2,RD (show O.length≤40 by omega) hp ok k]
def EOk (n:Nat) (e:bC):Prop:=0≤e.A∧e.A<(n:Int)∧-1≤e.B∧e.B<(n:Int)
theorem YY {s:eE} {a b:Option Int} {n:Nat} (ha:∀ i,a=some i→0≤i∧i<(n:Int)) (hb:∀ i,b=some i→0≤i∧i<(n:Int)) (hne:a≠b):EOk n (mkE s a b):=by
 unfold EOk mkE
 cases a with
 | none =>
   cases b with
   | none=>exact absurd rfl hne
   | some j =>
     have:=hb j rfl
     simp only
     rw [if_pos (.inl (by omega))]
     simp only;omega
 | some i =>
   have:=ha i rfl
   cases b with
   | none =>
     simp only
     rw [if_neg (by omega)]
     simp only;omega
   | some j =>
     have:=hb j rfl
     simp only
     by_cases q:j<i
     ·rw [if_pos (by omega)];simp only;omega
     ·rw [if_neg (by omega)];simp only;omega
theorem Zx {R:List (List aF)} {xs ys:List Int} (hL:Lay R xs ys):∀ e ∈ Ju R xs ys,EOk R.length e:=by
 have key:∀ {s:Int→Int} {A B:Int→Option Int} (ln:Int→Int→eE) (_:s=fun z=>cod (A z) (B z)) (_:∀ z,SmO (A z)) (_:∀ z,SmO (B z)) (_:∀ z i,A z=some i→0≤i∧i<(R.length:Int)) (_:∀ z i,B z=some i→0≤i∧i<(R.length:Int)),∀ e ∈ (xE s).map (fun p=>mkE (ln p.1 p.2) (A p.1) (B p.1)),EOk R.length e:=fun {s A B} ln hs ha hb hA hB e he=>by
  obtain ⟨p,hp,rfl⟩:=E3.1 he
  have hr:s p.1≠0:=by
   unfold xE at hp
   split at hp
   ·rename_i hx
    exact (((K1 hx).2 p.1 p.2).1 hp).2.1
   ·cases hp
  have hne:A p.1≠B p.1:=fun q=>hr (by rw [hs];simp only;rw [(Jj (ha _) (hb _)).2 q])
  exact YY (hA _) (hB _) hne
 intro e he
 unfold Ju at he
 rw [q9,F3,F3] at he
 rcases he with ⟨y,_,h⟩ | ⟨x,_,h⟩
 ·exact key (fun a b=>⟨a,y,b,y⟩) (A:=fun z=>iA R z y) (B:=fun z=>iA R z (y-1)) rfl (fun z=>lG hL.m _ _) (fun z=>lG hL.m _ _) (fun z i h=>Im h) (fun z i h=>Im h) e h
 ·exact key (fun a b=>⟨x,a,x,b⟩) (A:=fun z=>iA R x z) (B:=fun z=>iA R (x-1) z) rfl (fun z=>lG hL.m _ _) (fun z=>lG hL.m _ _) (fun z i h=>Im h) (fun z i h=>Im h) e h
def Yy (taken:List Bool) (i:Nat) (e:bC):Bool:=ofB e (i:Int)&&(decide (e.B<0) || taken.getD (e.A+e.B-(i:Int)).toNat false)
def BZ (es:List bC) (taken:List Bool) (i:Nat):Bool:=es.any (Yy taken i)
theorem SG {n:Nat} (hn:n≤8) {e:bC} (he:EOk n e) {taken:List Bool} (ht:taken.length=n) {i:Nat} (hi:i<n):Ky e (i:Int) taken=some (Yy taken i e):=by
 obtain ⟨h1,h2,h3,h4⟩:=he
 unfold Ky Yy
 rw [of_eq]
 simp only [i9]
 cases ho:ofB e (i:Int) with
 | false=>rfl
 | true =>
   simp only [if_true,R7]
   by_cases hb:e.B<0
   ·simp [hb]
   ·have hs:0≤e.A+e.B-(i:Int)∧e.A+e.B-(i:Int)<(n:Int):=by
     unfold ofB at ho
     rw [F6,beq_iff_eq,beq_iff_eq] at ho
     omega
    obtain ⟨m,hm⟩:∃ m:Nat,e.A+e.B-(i:Int)=(m:Int):=⟨(e.A+e.B-(i:Int)).toNat,by omega⟩
    have hx:aK (aQ e.A e.B) (i:Int)=(m:Int):=by
     rw [bA (a:=e.A) (b:=e.B) (by omega) (by omega),bP (a:=e.A+e.B) (b:=(i:Int)) (by omega) (by omega),hm]
    have hg:taken[m]?=some (taken[m]'(by omega)):=l8 (by omega)
    simp only [hb,decide_false,j9,if_false,hx,aW hg,i9,hm,y9,nF hg,Bool.false_or]
theorem JZ {n:Nat} (hn:n≤8) {es:List bC} (hes:es.length≤1000000) (he:∀ e ∈ es,EOk n e) {taken:List Bool} (ht:taken.length=n) {i:Nat} (hi:i<n):dA es (i:Int) taken=some (BZ es taken i):=by
 have key:aM (dB es (i:Int) taken) 0=some (match es.findIdx? (Yy taken i) with | some j=>(.inl (j:Int):Int ⊕ Unit) | none=>.inr ()):=by
  refine Su es _ (Yy taken i) (fun j=>(.inl (j:Int):Int ⊕ Unit)) (.inr ()) (fun k e hk=>?_) ?_
  ·have hkl:=aX hk
   unfold dB
   have hd:decide ((k:Int)<(es.length:Int))=true:=by simp [hkl]
   simp only [hd,if_true,aW hk,i9,SG hn (he e (m5 hk)) ht hi,bG k (show (k:Int)<9223372036854775807 by omega)]
  ·simp [dB]
 unfold dA eY BZ
 rw [key]
 simp only [i9]
 cases hf:es.findIdx? (Yy taken i) with
 | some j =>
   obtain ⟨hj,h1,_⟩:=List.findIdx?_eq_some_iff_getElem.1 hf
   have:es.any (Yy taken i)=true:=E2.2 ⟨_,F9 hj,h1⟩
   rw [this]
   simp
 | none =>
   have:es.any (Yy taken i)=false:=by
    rw [s7]
    intro e he
    have:=List.findIdx?_eq_none_iff.1 hf e he
    simp [this]
   rw [this]
   simp
theorem Xu {n:Nat} (hn:n≤8) {es:List bC} (hes:es.length≤1000000) (he:∀ e ∈ es,EOk n e) {taken:List Bool} (ht:taken.length=n) {T:List Int} (hT:T.length≤1000):∀ m:Nat,m≤n→(∃ j,j<m∧taken.getD j false=false∧BZ es taken j=true) →
  ∃ j,j<m∧taken.getD j false=false∧BZ es taken j=true∧aM (Dz es) (false,T,taken,(m:Int)-1)=some (true,T++[(j:Int)],taken.set j true)
 | 0,_,⟨j,h,_⟩=>by omega
 | m+1,hm,hj=>by
   have hg:taken[m]?=some (taken[m]'(by omega)):=l8 (by omega)
   have e1:((m+1:Nat):Int)-1=(m:Int):=by omega
   rw [e1]
   have hge:decide ((m:Int) ≥ 0)=true:=by simp
   have hsub:aK (m:Int) 1=(m:Int)-1:=bP (a:=(m:Int)) (b:=1) (by omega) (by omega)
   by_cases hgood:taken.getD m false=false∧BZ es taken m=true
   ·refine ⟨m,by omega,hgood.1,hgood.2, ?_⟩
    have h1:=hgood.1
    rw [nF hg] at h1
    have hap:app T [(m:Int)]=some (T++[(m:Int)]):=iF (by unfold LIM;simp;omega)
    rw [iY (s':=(true,T++[(m:Int)],taken.set m true,(m:Int)-1))]
    ·refine dK ?_
     unfold Dz
     by_cases q:(m:Int)-1 ≥ 0
     ·simp [q]
     ·simp [q]
    ·unfold Dz
     simp only [hge,if_true,i9,E0,aW hg,h1,j9,if_false,JZ hn hes he ht (show m<n by omega),hgood.2,hap,Ak,y9,hsub]
   ·obtain ⟨j,j1,j2,j3⟩:=hj
    have hjm:j<m:=by
     by_cases q:j=m
     ·subst q;exact absurd ⟨j2,j3⟩ hgood
     ·omega
    obtain ⟨i,i1,i2,i3,i4⟩:=Xu hn hes he ht hT m (by omega) ⟨j,hjm,j2,j3⟩
    refine ⟨i,by omega,i2,i3, ?_⟩
    rw [iY (s':=(false,T,taken,(m:Int)-1))]
    ·exact i4
    ·unfold Dz
     simp only [hge,if_true,i9,E0,aW hg,JZ hn hes he ht (show m<n by omega)]
     rw [nF hg] at hgood
     generalize taken[m]'(by omega)=b at hgood
     cases b with
     | true=>simp only [if_true,i9,j9,if_false,Ak,hsub]
     | false =>
       have:BZ es taken m=false:=by
        cases q:BZ es taken m with
        | false=>rfl
        | true=>exact absurd ⟨rfl,q⟩ hgood
       simp only [this,j9,if_false,i9,Ak,hsub]
def wF (n:Nat) (T:List Nat):List Bool:=(s9 n).map fun i=>decide (i ∈ T)
theorem Uh (n:Nat) (T:List Nat):(wF n T).length=n:=by simp [wF]
theorem Ip {n:Nat} (T:List Nat) {i:Nat} (hi:i<n):(wF n T).getD i false=decide (i ∈ T):=by
 refine nF ?_
 unfold wF;rw [p8,G8 hi];rfl
theorem GB {n:Nat} (T:List Nat) {j:Nat} (hj:j<n):(wF n T).set j true=wF n (T++[j]):=by
 refine G0 fun i=>?_
 rw [G6]
 by_cases e:j=i
 ·subst e
  rw [if_pos rfl,if_pos (by rw [Uh];exact hj)]
  unfold wF
  rw [p8,G8 hj]
  simp
 ·rw [if_neg e]
  unfold wF
  rw [p8,p8]
  by_cases hi:i<n
  ·rw [G8 hi]
   have:i≠j:=fun h=>e h.symm
   simp [this]
  ·rw [s5 (by simp;omega)];rfl
structure DC (n:Nat) (es:List bC) (T:List Nat):Prop where
 nd:T.Nodup
 lt:∀ i ∈ T,i<n
 ex:∀ (k i:Nat),T[k]?=some i→∃ e ∈ es,ofB e (i:Int)=true∧(e.B<0∨∃ j ∈ T.take k,e.A+e.B-(i:Int)=(j:Int)∧0≤e.B)
def ints (T:List Nat):List Int:=T.map fun i:Nat=>(i:Int)
theorem YX {n:Nat}:∀ {T:List Nat},T.Nodup→(∀ i ∈ T,i<n)→T.length≤n:=by
 induction n with
 | zero =>
   intro T _ h
   cases T with
   | nil=>simp
   | cons a t=>have:=h a (by simp);omega
 | succ n ih =>
   intro T hn h
   by_cases hm:n ∈ T
   ·have h1:(T.erase n).Nodup:=hn.erase n
    have h2:∀ i ∈ T.erase n,i<n:=fun i hi=>by
     have h3:=(hn.mem_erase_iff).1 hi
     have:=h i h3.2
     omega
    have:=ih h1 h2
    rw [R8 hm] at this
    have:=S3 hm
    omega
   ·have:=ih hn fun i hi=>by
     have:=h i hi
     by_cases q:i=n
     ·subst q;exact absurd hi hm
     ·omega
    omega
theorem YF {n:Nat} {T:List Nat} (hn:T.Nodup) (h:∀ i ∈ T,i<n) (hl:T.length=n):∀ i,i<n→i ∈ T:=fun i hi=>by
 by_cases q:i ∈ T
 ·exact q
 ·have:(i::T).length≤n:=YX (V4.2 ⟨q,hn⟩) fun j hj=>by
   cases hj with
   | head=>exact hi
   | tail _ hj=>exact h j hj
  simp at this
  omega
section
variable {l:aV} (hl:LV l) (hs:∀ x ∈ l.aB,Sm x) {xs ys:List Int} (hL:Lay (gA l) xs ys) {es:List bC} (hes:es=Ju (gA l) xs ys)
include hl hs hL hes
theorem NH {T:List Nat} (hI:DC l.aB.length es T) (hlt:T.length<l.aB.length):∃ j,j<l.aB.length∧(wF l.aB.length T).getD j false=false∧BZ es (wF l.aB.length T) j=true:=by
 obtain ⟨p,hp,hpT⟩:∃ p,p<l.aB.length∧p ∉ T:=by
  by_cases q:∃ p,p<l.aB.length∧p ∉ T
  ·exact q
  ·exfalso
   have hall:∀ p,p<l.aB.length→p ∈ T:=fun p hp=>by
    by_cases m:p ∈ T
    ·exact m
    ·exact absurd ⟨p,hp,m⟩ q
   have h1 : (s9 l.aB.length).length≤T.length:=by
    have:∀ {A:List Nat},A.Nodup→∀ {B:List Nat},(∀ i ∈ A,i ∈ B)→A.length≤B.length:=by
     intro A
     induction A with
     | nil=>intro _ B _;simp
     | cons a A ih =>
       intro hn B hB
       have hn':=V4.1 hn
       have:=ih hn'.2 (B:=B.erase a) fun i hi=>by
        have hia:i≠a:=fun e=>hn'.1 (e ▸ hi)
        exact (List.mem_erase_of_ne hia).2 (hB i (F7 _ hi))
       have hm:=hB a (by simp)
       rw [R8 hm] at this
       have:=S3 hm
       simp only [List.length_cons]
       omega
    exact this List.nodup_range fun i hi=>hall i (F5.1 hi)
   rw [List.length_range] at h1
   omega
 have hy:l.aB[p]?=some l.aB[p]:=l8 hp
 obtain ⟨n0,_,_⟩:=hl.pe _ (m5 hy)
 have hr:l.aB[p].aD[0]?=some (l.aB[p].aD[0]'n0):=l8 n0
 generalize l.aB[p].aD[0]'n0=r at hr
 have hrm:=m5 hr
 have hv:=hl.hv _ (m5 hy) r hrm
 have hlab:nM (gA l) r.X r.Y=some p:=KH hl hy (Qf.2 ⟨r,hrm,by
  obtain ⟨_,_,a,b,_⟩:=hv
  unfold inC
  simp only [o8,decide_eq_true_eq]
  omega⟩)
 have hxm:r.X ∈ xs:=(hL.x.2 _).2 (Ym (List.mem_flatten.2 ⟨_,E3.2 ⟨_,m5 hy,rfl⟩,hrm⟩)).1
 obtain ⟨k,hk⟩:=u6.1 hxm
 obtain ⟨e,he,i,hU,hi,ho,hc⟩:=GS hL (fun i=>decide (i<l.aB.length∧i ∉ T)) hk hlab (by rw [decide_eq_true_eq];exact ⟨hp,hpT⟩)
 rw [decide_eq_true_eq] at hU
 refine ⟨i,hU.1,by rw [Ip T hU.1,decide_eq_false_iff_not];exact hU.2,E2.2 ⟨e,hes ▸ he, ?_⟩⟩
 unfold Yy
 rw [ho,R7,F6,decide_eq_true_eq]
 rcases hc with ⟨_,hb⟩ | ⟨j,hj,hUj,_,hd,_⟩
 ·exact .inl (by omega)
 ·right
  have hjl:j<l.aB.length:=by simpa [gA] using hj
  rw [hd,y9,Ip T hjl,decide_eq_true_eq]
  rw [decide_eq_false_iff_not] at hUj
  by_cases m:j ∈ T
  ·exact m
  ·exact absurd ⟨hjl,m⟩ hUj
theorem AW (hn:es.length≤1000000):∀ (d:Nat) (T:List Nat),T.length+d=l.aB.length→DC l.aB.length es T→∃ T',DC l.aB.length es T'∧T'.length=l.aB.length∧aM (Ea (l.aB.length:Int) es) (ints T,wF l.aB.length T)=some (.inr (ints T'))
 | 0,T,hd,hI=>by
   refine ⟨T,hI,by omega,dK ?_⟩
   unfold Ea
   have:decide (((ints T).length:Int)<(l.aB.length:Int))=false:=by simp [ints];omega
   simp only [this,j9,if_false]
 | d+1,T,hd,hI=>by
   have h8:=hl.n
   have he:∀ e ∈ es,EOk l.aB.length e:=fun e h=>by
    have:=Zx hL e (hes ▸ h)
    rwa [show (gA l).length=l.aB.length by simp [gA]] at this
   obtain ⟨j,j1,j2,j3,j4⟩:=Xu h8 hn he (Uh l.aB.length T) (T:=ints T) (by simp [ints];omega) l.aB.length (v7 _) (NH hl hs hL hes hI (by omega))
   rw [Ip T j1,decide_eq_false_iff_not] at j2
   have hsub:aK (l.aB.length:Int) 1=(l.aB.length:Int)-1:=bP (a:=(l.aB.length:Int)) (b:=1) (by omega) (by omega)
   have hI':DC l.aB.length es (T++[j]):=by
    refine ⟨?_,fun i hi=>?_,fun k i hk=>?_⟩
    ·rw [List.nodup_append]
     refine ⟨hI.nd,by simp,fun a ha b hb=>?_⟩
     rw [J4.1 hb]
     exact fun e=>j2 (e ▸ ha)
    ·rcases q9.1 hi with h | h
     ·exact hI.lt i h
     ·rw [J4.1 h];exact j1
    ·by_cases hkl:k<T.length
     ·rw [List.getElem?_append_left hkl] at hk
      obtain ⟨e,h1,h2,h3⟩:=hI.ex k i hk
      refine ⟨e,h1,h2, ?_⟩
      rw [M7 (by omega)]
      exact h3
     ·have hk':=aX hk
      simp at hk'
      have hkk:k=T.length:=by omega
      subst hkk
      rw [List.getElem?_append_right (v7 _)] at hk
      have hij:i=j:=by simpa using hk.symm
      subst hij
      unfold BZ at j3
      obtain ⟨e,h1,h2⟩:=E2.1 j3
      unfold Yy at h2
      rw [o8,F6,decide_eq_true_eq] at h2
      refine ⟨e,h1,h2.1, ?_⟩
      obtain ⟨a1,a2,a3,a4⟩:=he e h1
      by_cases hb:e.B<0
      ·exact .inl hb
      ·right
       have h3:=h2.2.resolve_left hb
       have ho:=h2.1
       unfold ofB at ho
       rw [F6,beq_iff_eq,beq_iff_eq] at ho
       have hs:(e.A+e.B-(i:Int)).toNat<l.aB.length:=by omega
       rw [Ip T hs,decide_eq_true_eq] at h3
       refine ⟨(e.A+e.B-(i:Int)).toNat, ?_,by omega,by omega⟩
       ·rw [M7 (v7 _),E7];exact h3
   obtain ⟨T',t1,t2,t3⟩:=AW hn d (T++[j]) (by simp;omega) hI'
   refine ⟨T',t1,t2, ?_⟩
   rw [iY (s':=(ints (T++[j]),wF l.aB.length (T++[j])))]
   ·exact t3
   ·unfold Ea
    have hd':decide (((ints T).length:Int)<(l.aB.length:Int))=true:=by simp [ints];omega
    simp only [hd',if_true,hsub,j4,i9,u5,j9,if_false,GB T j1]
    simp [ints]
end
def Ri (l:List Int) (i:Nat):List Int:=(s9 l.length).map fun k=>if k<i∨l.length-1-k<i then l.getD (l.length-1-k) 0 else l.getD k 0
theorem Kf (l:List Int) (i:Nat):(Ri l i).length=l.length:=by simp [Ri]
theorem Ke (l:List Int) (i:Nat) {k:Nat} (hk:k<l.length):(Ri l i)[k]?=some (if k<i∨l.length-1-k<i then l.getD (l.length-1-k) 0 else l.getD k 0):=by
 unfold Ri;rw [p8,G8 hk];rfl
theorem SV {l:List Int} (hl:l.length≤1000):∀ (d i:Nat),2*i≤l.length→l.length-2*i≤d→aM fL ((i:Int),(l.length:Int)-1-i,Ri l i)=some l.reverse:=by
 have out:∀ i:Nat,2*i≤l.length→¬ 2*i+1<l.length→aM fL ((i:Int),(l.length:Int)-1-i,Ri l i)=some l.reverse:=fun i hi hd=>by
  refine (dK (r:=Ri l i) ?_).trans ?_
  ·unfold fL
   have:decide ((i:Int)<(l.length:Int)-1-i)=false:=by rw [decide_eq_false_iff_not];omega
   simp only [this,j9,if_false]
  ·congr 1
   refine G0 fun k=>?_
   by_cases hk:k<l.length
   ·rw [Ke l i hk,List.getElem?_reverse hk]
    have e:l[l.length-1-k]?=some (l.getD (l.length-1-k) 0):=by
     rw [m8,l8 (show l.length-1-k<l.length by omega)];rfl
    rw [e]
    split
    ·rfl
    ·rename_i hn
     rw [show l.length-1-k=k by omega]
   ·rw [s5 (by rw [Kf];omega),s5 (by simp;omega)]
 intro d
 induction d with
 | zero=>intro i h1 h2;exact out i h1 (by omega)
 | succ d ih =>
   intro i h1 h2
   by_cases hd:2*i+1<l.length
   ·obtain ⟨j,hj⟩:∃ j:Nat,j=l.length-1-i:=⟨_,rfl⟩
    have hjl:j<l.length:=by omega
    have hji:((l.length:Int)-1-i)=(j:Int):=by omega
    have gi:(Ri l i)[i]?=some (l.getD i 0):=by
     rw [Ke l i (by omega),if_neg (by omega)]
    have gj:(Ri l i)[j]?=some (l.getD j 0):=by
     rw [Ke l i hjl,if_neg (by omega)]
    have gj2:((Ri l i).set i (l.getD j 0))[j]?=some (l.getD j 0):=by
     rw [G6,if_neg (by omega)];exact gj
    have e:((Ri l i).set i (l.getD j 0)).set j (l.getD i 0)=Ri l (i+1):=by
     refine G0 fun k=>?_
     rw [G6,G6]
     by_cases hk:k<l.length
     ·rw [Ke l (i+1) hk]
      by_cases k1:j=k
      ·subst k1
       rw [if_pos rfl,if_pos (by rw [v8,Kf];exact hjl),if_pos (by omega),show l.length-1-j=i by omega]
      ·rw [if_neg k1]
       by_cases k2:i=k
       ·subst k2
        rw [if_pos rfl,if_pos (by rw [Kf];omega),if_pos (by omega),← hj]
       ·rw [if_neg k2,Ke l i hk]
        by_cases c:k<i∨l.length-1-k<i
        ·rw [if_pos c,if_pos (by omega)]
        ·rw [if_neg c,if_neg (by omega)]
     ·rw [if_neg (by omega),if_neg (by omega),s5 (by rw [Kf];omega),s5 (by rw [Kf];omega)]
    rw [hji,iY (s':=(((i+1:Nat):Int),(l.length:Int)-1-((i+1:Nat):Int),Ri l (i+1)))]
    ·exact ih (i+1) (by omega) (by omega)
    ·unfold fL
     have hd':decide ((i:Int)<(j:Int))=true:=by rw [decide_eq_true_eq];omega
     have hs:aK (j:Int) 1=(l.length:Int)-1-((i+1:Nat):Int):=by
      rw [bP (a:=(j:Int)) (b:=1) (by omega) (by omega)];omega
     simp only [hd',if_true,aW gj,aW gi,i9,y9,aW gj2,bG i (show (i:Int)<9223372036854775807 by omega),hs,e]
   ·exact out i h1 hd
theorem ID {l:List Int} (hl:l.length≤1000):nJ l=some l.reverse:=by
 unfold nJ
 have h0:Ri l 0=l:=by
  refine G0 fun k=>?_
  by_cases hk:k<l.length
  ·rw [Ke l 0 hk,if_neg (by omega),m8,l8 hk];rfl
  ·rw [s5 (by rw [Kf];omega),s5 (by omega)]
 have:=SV hl l.length 0 (by omega) (by omega)
 rw [h0] at this
 have hs:aK (l.length:Int) 1=(l.length:Int)-1-((0:Nat):Int):=by
  rw [bP (a:=(l.length:Int)) (b:=1) (by omega) (by omega)];omega
 rw [hs]
 have this':aM fL (0,(l.length:Int)-1-((0:Nat):Int),l)=some l.reverse:=this
 rw [this'];rfl
def Xd (x:aS) (p h:Nat):cF:=match x.bQ[h]? with
 | some c=>⟨(p:Int),(h:Int),0,⟨aQ c.X (uI c.W 2),aQ c.Y (uI c.H 2)⟩⟩
 | none=>⟨(p:Int),(h:Int),0,⟨0,0⟩⟩
def Bl (x:aS) (p k:Nat):List cF:=(s9 k).map (Xd x p)
def Sq (l:aV) (p:Nat):List cF:=match l.aB[p]? with
 | some x=>Bl x p x.bQ.length
 | none=>[]
def nL (l:aV) (n:Nat):List cF:=(s9 n).flatMap (Sq l)
theorem Mo (l:aV) (n:Nat):nL l (n+1)=nL l n++Sq l n:=by
 unfold nL;rw [Q1,List.flatMap_append];simp
theorem Tw (x:aS) (p k:Nat):Bl x p (k+1)=Bl x p k++[Xd x p k]:=by
 unfold Bl;rw [Q1,H3];rfl
section
variable {l:aV} (n8:l.aB.length≤8) (c12:∀ x ∈ l.aB,x.bQ.length≤12)
include n8 c12
theorem HC (p:Nat):(Sq l p).length≤12:=by
 unfold Sq
 cases h:l.aB[p]? with
 | none=>simp
 | some x=>have:=c12 x (m5 h);simp [Bl];omega
theorem Ps:∀ n:Nat,(nL l n).length≤12*n
 | 0=>by simp [nL]
 | n+1=>by
   rw [Mo,E5]
   have:=Ps n
   have:=HC n8 c12 n
   omega
theorem HW:aM (Dv l) (0,[])=some (nL l l.aB.length):=by
 have key:=gN l.aB (Dv l) (fun p=>((p:Int),nL l p)) (nL l l.aB.length) (fun p x hx=>?_) (by simp [Dv])
 ·exact key
 ·have hp:=aX hx
  have hc:=c12 x (m5 hx)
  have hal:=Ps n8 c12 p
  have inner:aM (Du ((p:Int),nL l p) x) (0,nL l p)=some (nL l (p+1)):=by
   have:=gN x.bQ (Du ((p:Int),nL l p) x) (fun h=>((h:Int),nL l p++Bl x p h)) (nL l (p+1)) (fun h c hc=>?_) ?_
   ·have e0:nL l p++Bl x p 0=nL l p:=by simp [Bl]
    rw [e0] at this
    exact this
   ·have hh:=aX hc
    unfold Du
    have hd:decide ((h:Int)<(x.bQ.length:Int))=true:=by simp [hh]
    have hap:∀ y:cF,app (nL l p++Bl x p h) [y]=some (nL l p++Bl x p h++[y]):=fun y=>iF (by
     unfold LIM
     simp [Bl]
     omega)
    simp only [hd,if_true,aW hc,i9,hap,bG h (show (h:Int)<9223372036854775807 by omega)]
    rw [Tw,show Xd x p h=⟨(p:Int),(h:Int),0,⟨aQ c.X (uI c.W 2),aQ c.Y (uI c.H 2)⟩⟩ by unfold Xd;rw [hc],List.append_assoc]
   ·have e1:nL l (p+1)=nL l p++Bl x p x.bQ.length:=by
     rw [Mo]
     unfold Sq;rw [hx]
    rw [e1]
    unfold Du
    simp
  unfold Dv
  have hd:decide ((p:Int)<(l.aB.length:Int))=true:=by simp [hp]
  simp only [hd,if_true,aW hx,i9,inner,bG p (show (p:Int)<9223372036854775807 by omega)]
end
def unB (es:List bC) (c:List Bool) (p:Int) (i:Nat):Bool:=El es p i&&!c.getD i false
def tE (es:List bC) (c:List Bool) (p:Int) (k:Nat):Option Nat:=(s9 k).find? (unB es c p)
def Da (es:List bC):Option Nat→Is
 | some i=>match es[i]? with
   | some e=>⟨e.Line.X1,e.Line.Y1⟩
   | none=>⟨0,0⟩
 | none=>⟨0,0⟩
theorem EJ (es:List bC) (c:List Bool) (p:Int) (k:Nat):tE es c p (k+1)=match tE es c p k with
  | some i=>some i
  | none=>if unB es c p k then some k else none:=by
 unfold tE
 rw [Q1,List.find?_append]
 cases (s9 k).find? (unB es c p) with
 | some i=>rfl
 | none =>
   simp only [Option.none_or,List.find?_cons,List.find?_nil]
   cases unB es c p k <;> rfl
theorem VW {es:List bC} {c:List Bool} (p:Int):mark es.length (unB es c p) c=mark es.length (El es p) c:=by
 unfold mark
 refine G1 fun i _=>?_
 unfold unB
 cases El es p i <;> cases c.getD i false <;> rfl
theorem AJ {es:List bC} (hes:es.length≤1000000) {c:List Bool} (hc:c.length=es.length) (b:Int) (p:Nat):aM (Dw (es,b) (p:Int)) (false,0,c,0,0)=some (mark es.length (El es (p:Int)) c,(Da es (tE es c (p:Int) es.length)).X,(Da es (tE es c (p:Int) es.length)).Y):=by
 have key:=gN es (Dw (es,b) (p:Int)) (fun k=>((tE es c (p:Int) k).isSome,(k:Int),mark es.length (fun i=>decide (i<k)&&unB es c (p:Int) i) c,(Da es (tE es c (p:Int) k)).X,(Da es (tE es c (p:Int) k)).Y))
  (mark es.length (El es (p:Int)) c,(Da es (tE es c (p:Int) es.length)).X,(Da es (tE es c (p:Int) es.length)).Y) (fun k e he=>?_) ?_
 ·have e0:mark es.length (fun i=>decide (i<0)&&unB es c (p:Int) i) c=c:=by
   rw [show (fun i=>decide (i<0)&&unB es c (p:Int) i)=fun _=>false from funext fun i=>by simp]
   exact Sw hc
  rw [e0] at key
  exact key
 ·have hk:=aX he
  have hm:(mark es.length (fun i=>decide (i<k)&&unB es c (p:Int) i) c)[k]?=some (c.getD k false):=by
   rw [Ee _ hk]
   simp
  unfold Dw
  have hd:decide ((k:Int)<(es.length:Int))=true:=by simp [hk]
  have hq:El es (p:Int) k=ofB e (p:Int):=by unfold El;rw [he]
  have hu:unB es c (p:Int) k=(ofB e (p:Int)&&!c.getD k false):=by unfold unB;rw [hq]
  have hsp:Da es (some k)=⟨e.Line.X1,e.Line.Y1⟩:=by unfold Da;simp only [he]
  simp only [hd,if_true,aW he,i9,of_eq,aW hm,Hw,Hx,bG k (show (k:Int)<9223372036854775807 by omega),y9,Sv,EJ,hu]
  cases ofB e (p:Int) with
  | false =>
    simp only [j9,if_false,i9,Bool.false_and]
    cases tE es c (p:Int) k <;> rfl
  | true =>
    cases hck:c.getD k false with
    | true =>
      simp only [if_true,i9,u5,j9,if_false,Bool.and_false]
      cases tE es c (p:Int) k <;> rfl
    | false =>
      simp only [if_true,i9,E0,Bool.and_true]
      cases hf:tE es c (p:Int) k with
      | some i=>simp only [O4,u5,j9,if_false]
      | none=>simp only [Option.isSome_none,E0,if_true,hsp,O4]
 ·unfold Dw
  have hd:decide ((es.length:Int)<(es.length:Int))=false:=by simp
  simp only [hd,j9,if_false]
  have:mark es.length (fun i=>decide (i<es.length)&&unB es c (p:Int) i) c=mark es.length (El es (p:Int)) c:=by
   rw [← VW]
   unfold mark
   refine G1 fun i hi=>?_
   have:=F5.1 hi
   simp [this]
  rw [this]
noncomputable def Zi (l:aV) (es:List bC) (c:List Bool) (p:Nat):cF:=⟨(p:Int),-1,match l.aB[p]? with | some x=>if Ae x then 1 else 0 | none=>0,Da es (tE es c (p:Int) es.length)⟩
noncomputable def Ja (l:aV) (es:List bC):List Nat→List Bool→List cF
 | [],_=>[]
 | p::O,c=>Zi l es c p::Ja l es O (mark es.length (El es (p:Int)) c)
theorem Xi (l:aV) (es:List bC):∀ (O:List Nat) (c:List Bool),(Ja l es O c).length=O.length
 | [],_=>rfl
 | p::O,c=>by simp [Ja,Xi l es O]
theorem Xy {l:aV} (hl:LV l) {es:List bC} (hes:es.length≤1000000) (b:Int) {O:List Nat} (hO:O.length≤8) (hlt:∀ p ∈ O,p<l.aB.length):∀ (rest:List Nat) (k:Nat) (acc:List cF) (c:List Bool),O.drop k=rest→c.length=es.length→acc.length≤96+k →
  aM (Dx l (es,b) (ints O)) ((k:Int),acc,c)=some (acc++Ja l es rest c)
 | [],k,acc,c,hd,_,_=>by
   have hk:O.length≤k:=by
    have:=congrArg List.length hd
    simp at this;omega
   refine (dK (r:=acc) ?_).trans (by simp [Ja])
   unfold Dx
   have:decide ((k:Int)<((ints O).length:Int))=false:=by simp [ints];omega
   simp only [this,j9,if_false]
 | p::rest,k,acc,c,hd,hc,ha=>by
   have hx:O[k]?=some p:=by
    have:(O.drop k)[0]?=some p:=by rw [hd];rfl
    rwa [E8,K3] at this
   have hk:=aX hx
   have hxi:(ints O)[k]?=some (p:Int):=by unfold ints;rw [p8,hx];rfl
   have hd':O.drop (k+1)=rest:=by
    have:(O.drop k).drop 1=rest:=by rw [hd];rfl
    rwa [O5] at this
   have hp:=hlt p (m5 hx)
   have hy:l.aB[p]?=some l.aB[p]:=l8 hp
   have hr:=hl.r12 _ (m5 hy)
   have hsm:vE l.aB[p]=some (Ae l.aB[p]):=Vu _ (by omega)
   have hap:app acc [Zi l es c p]=some (acc++[Zi l es c p]):=iF (by unfold LIM;simp;omega)
   rw [iY (s':=(((k+1:Nat):Int),acc++[Zi l es c p],mark es.length (El es (p:Int)) c))]
   ·rw [Xy hl hes b hO hlt rest (k+1) _ _ hd' (pT _ _ _) (by simp;omega)]
    simp [Ja]
   ·have ho:∀ j:Int,(if Ae l.aB[p] then (1:Int) else 0)=j→Zi l es c p=⟨(p:Int),-1,j,⟨(Da es (tE es c (p:Int) es.length)).X,(Da es (tE es c (p:Int) es.length)).Y⟩⟩:=fun j hj=>by
     unfold Zi;rw [hy];simp only;rw [hj]
    unfold Dx
    have hdd:decide ((k:Int)<((ints O).length:Int))=true:=by simp [ints,hk]
    simp only [hdd,if_true,aW hxi,aW hy,i9,hsm]
    cases hb:Ae l.aB[p] with
    | true =>
      rw [ho 1 (by rw [hb];rfl)] at hap ⊢
      simp only [if_true,Dt,AJ hes hc,i9,hap,bG k (show (k:Int)<9223372036854775807 by omega)]
    | false =>
      rw [ho 0 (by rw [hb];rfl)] at hap ⊢
      simp only [j9,if_false,Dt,AJ hes hc,i9,hap,bG k (show (k:Int)<9223372036854775807 by omega)]
def Reach (l:aV) (es:List bC) (s:RS) (xs:List cF) (t:RS):Prop:=∃ ss,Steps l es s xs ss∧jA s ss=t
theorem Reach.nil {l:aV} {es:List bC} (s:RS):Reach l es s [] s:=⟨[],.nil s,rfl⟩
theorem Rv {l:aV} {es:List bC} {s:RS} {xs:List cF} {ss:List RS} (h:Steps l es s xs ss) {ys:List cF} {ts:List RS}:Steps l es (jA s ss) ys ts→Steps l es s (xs++ys) (ss++ts)∧jA s (ss++ts)=jA (jA s ss) ts:=by
 induction h with
 | nil s=>exact fun g=>⟨g,rfl⟩
 | cons h _ ih=>exact fun g=>⟨.cons h (ih g).1,(ih g).2⟩
theorem Reach.append {l:aV} {es:List bC} {s t u:RS} {xs ys:List cF} (h:Reach l es s xs t) (g:Reach l es t ys u):Reach l es s (xs++ys) u:=by
 obtain ⟨ss,h1,rfl⟩:=h
 obtain ⟨ts,g1,rfl⟩:=g
 exact ⟨ss++ts,(Rv h1 g1).1,(Rv h1 g1).2⟩
theorem Reach.one {l:aV} {es:List bC} {s t:RS} {x:cF} (h:Step l es s x t):Reach l es s [x] t:=⟨[t],.cons h (.nil t),rfl⟩
section
variable {l:aV} (hl:LV l) (hs:∀ x ∈ l.aB,Sm x) {es:List bC} (hes:es.length≤200000)
include hl hs hes
omit hes in
theorem PL:∀ x ∈ l.aB,x.bQ.length≤12:=fun x hx=>(hl.pe x hx).2.1
theorem SLf {s:RS} (hf:Fit l es.length s):SL1 s:=GX hl.n (fun x hx=>by have:=PL hl hs x hx;omega) hes hf
theorem MN {s:RS} (hf:Fit l es.length s) {p h:Nat} {y:aS} {t:List Bool} (hy:l.aB[p]?=some y) (hfl:s.bE[p]?=some false) (ht:s.bJ[p]?=some t) (hb:t[h]?=some false):Step l es s (Xd y p h) (EO l.aB.length es s p h t):=by
 have htl:=hf.hh p t y ht hy
 have hhl:=aX hb
 have hc:y.bQ[h]?=some (y.bQ[h]'(by omega)):=l8 (by omega)
 obtain ⟨_,_,hcut,_⟩:=hl.pe y (m5 hy)
 have hcm:=hcut _ (m5 hc)
 generalize y.bQ[h]'(by omega)=c at hc hcm
 have hx:Xd y p h=⟨(p:Int),(h:Int),0,⟨aQ c.X (uI c.W 2),aQ c.Y (uI c.H 2)⟩⟩:=by unfold Xd;simp only [hc]
 have q2:∀ w:Int,2≤w→w≤2097152→uI w 2=w / 2:=fun w w1 w2=>by
  unfold uI
  rw [Int.tdiv_eq_ediv_of_nonneg (by omega)]
  exact zX _ (by omega) (by omega)
 obtain ⟨⟨x1,x2,x3,x4⟩,⟨w1,w2⟩,w3,w4⟩:=hcm
 rw [q2 c.W w1 w2,q2 c.H w3 w4,bA (a:=c.X) (b:=c.W / 2) (by omega) (by omega),bA (a:=c.Y) (b:=c.H / 2) (by omega) (by omega)] at hx
 rw [hx]
 refine ⟨.hole rfl rfl rfl hy hfl ht hb,JV hl (by omega) (SLf hl hs hes hf) hf rfl rfl rfl hy hfl ht hb ?_⟩
 unfold gQ
 have g1:c.X+c.W / 2>c.X:=by omega
 have g2:c.X+c.W / 2<c.X+c.W:=by omega
 have g3:c.Y+c.H / 2>c.Y:=by omega
 have g4:c.Y+c.H / 2<c.Y+c.H:=by omega
 simp only [show ((h:Nat):Int) ≥ 0 by omega,decide_true,if_true,aW hy,aW hc,i9,bA (a:=c.X) (b:=c.W) (by omega) (by omega),bA (a:=c.Y) (b:=c.H) (by omega) (by omega),g1,g2,g3,g4]
end
def vO (l:aV) (p k:Nat):List (List Bool):=(s9 l.aB.length).map fun q=>match l.aB[q]? with
 | some x=>(s9 x.bQ.length).map fun h=>decide (q<p∨(q=p∧h<k))
 | none=>[]
def hSt (l:aV) (n:Nat) (p k:Nat):RS:=⟨q8 n false,vO l p k,q8 l.aB.length false,q8 l.aB.length 0,q8 l.aB.length false⟩
theorem wU (l:aV) (p k:Nat) {q:Nat} {x:aS} (hx:l.aB[q]?=some x):(vO l p k)[q]?=some ((s9 x.bQ.length).map fun h=>decide (q<p∨(q=p∧h<k))):=by
 have hq:=aX hx
 unfold vO
 rw [p8,G8 hq]
 simp only [s8,hx]
theorem KC (l:aV) (n p k:Nat):Fit l n (hSt l n p k):=by
 refine ⟨by simp [hSt],by simp [hSt,vO],by simp [hSt],by simp [hSt],by simp [hSt],fun q t x h1 h2=>?_⟩
 have:=wU l p k h2
 have h1':(vO l p k)[q]?=some t:=h1
 rw [this] at h1'
 rw [← w7 h1'];simp
theorem QL (l:aV) (n:Nat):hSt l n 0 0=st0 l n:=by
 unfold hSt st0
 congr 1
 refine G0 fun q=>?_
 rw [p8]
 cases hx:l.aB[q]? with
 | none =>
   rw [s5]
   ·rfl
   ·have:=Q7.1 hx
    simp [vO];omega
 | some x =>
   rw [wU l 0 0 hx]
   simp only [s8]
   congr 1
   refine G0 fun h=>?_
   rw [p8,L4]
   by_cases hh:h<x.bQ.length
   ·rw [G8 hh,if_pos hh];simp
   ·rw [s5 (by simp;omega),if_neg hh];rfl
theorem QK (l:aV) (n p:Nat) {x:aS} (hx:l.aB[p]?=some x):hSt l n p x.bQ.length=hSt l n (p+1) 0:=by
 unfold hSt
 congr 1
 unfold vO
 refine G1 fun q _=>?_
 cases hq:l.aB[q]? with
 | none=>rfl
 | some y =>
   simp only
   refine G1 fun h hh=>?_
   have:=F5.1 hh
   by_cases e:q=p
   ·subst e
    rw [hx] at hq
    injection hq with hq
    subst hq
    simp;omega
   ·have:(q<p∨(q=p∧h<x.bQ.length))↔(q<p+1∨(q=p+1∧h<0)):=by omega
    simp only [this]
theorem KB {es:List bC} {c:List Bool} (hc:c.length=es.length) {i k:Nat} {e:bC} (hk:es[k]?=some e) (ho:ofB e (i:Int)=true) (hu:c.getD k false=false):Ew es c (i:Int)=false:=by
 have hkl:=aX hk
 unfold Ew
 rw [O6]
 refine E2.2 ⟨k,F5.2 hkl, ?_⟩
 have hg:c[k]?=some (c[k]'(by omega)):=l8 (by omega)
 rw [nF hg] at hu
 unfold held
 rw [hk,hg]
 simp [ho,hu]
theorem MM {n:Nat} {es:List bC} {c D:List Bool} {J:List Int} (h:∀ i,i<n→Ew es c (i:Int)=false):fell n es c D J (q8 n false)=q8 n false:=by
 refine G0 fun i=>?_
 by_cases hi:i<n
 ·unfold fell
  rw [Ee _ hi,L4,if_pos hi,Am]
  unfold EF
  rw [h i hi];rfl
 ·unfold fell
  rw [s5 (by rw [pT];omega),s5 (by simp;omega)]
section
variable {l:aV} (hl:LV l) (hs:∀ x ∈ l.aB,Sm x) {es:List bC} (hes:es.length≤200000) (hown:∀ i,i<l.aB.length→∃ (k:Nat) (e:bC),es[k]?=some e∧ofB e (i:Int)=true)
include hl hs hes hown
theorem Tx {p:Nat} {x:aS} (hx:l.aB[p]?=some x):∀ k,k≤x.bQ.length→Reach l es (hSt l es.length p 0) (Bl x p k) (hSt l es.length p k)
 | 0,_=>by simp only [Bl,V6,List.map_nil];exact .nil _
 | k+1,hk=>by
   rw [Tw]
   have hp:=aX hx
   have hget:=wU l p k hx
   have hnf:∀ i,i<l.aB.length→Ew es (q8 es.length false) (i:Int)=false:=fun i hi=>by
    obtain ⟨j,e,h1,h2⟩:=hown i hi
    exact KB (by simp) h1 h2 (Am _ _ _)
   refine (Tx hx k (by omega)).append (.one ?_)
   have hst:=MN hl hs hes (KC l es.length p k) (h:=k) hx (t:=(s9 x.bQ.length).map fun h=>decide (p<p∨(p=p∧h<k))) (by show (q8 l.aB.length false)[p]?=some false;rw [L4,if_pos hp]) hget (by rw [p8,G8 (by omega)];simp)
   have e:EO l.aB.length es (hSt l es.length p k) p k ((s9 x.bQ.length).map fun h=>decide (p<p∨(p=p∧h<k)))=hSt l es.length p (k+1):=by
    unfold EO hSt
    simp only
    rw [MM hnf]
    congr 1
    refine G0 fun q=>?_
    rw [G6]
    have hHl:(vO l p k).length=l.aB.length:=by simp [vO]
    by_cases e:p=q
    ·subst e
     rw [if_pos rfl,if_pos (by rw [hHl];exact hp),wU l p (k+1) hx]
     congr 1
     refine G0 fun h=>?_
     rw [G6,p8,p8]
     by_cases hh:h<x.bQ.length
     ·rw [G8 hh]
      by_cases e2:k=h
      ·subst e2
       rw [if_pos rfl,if_pos (by simp;omega)]
       simp
      ·rw [if_neg e2]
       simp only [s8]
       have hkk:(p<p∨(True∧h<k))↔(p<p∨(True∧h<k+1)):=by
        constructor
        ·rintro (q | ⟨_,q⟩)
         ·exact .inl q
         ·exact .inr ⟨trivial,by omega⟩
        ·rintro (q | ⟨_,q⟩)
         ·exact .inl q
         ·exact .inr ⟨trivial,by omega⟩
       exact congrArg some (decide_eq_decide.2 hkk)
     ·rw [s5 (by simp;omega)]
      split
      ·omega
      ·rfl
    ·rw [if_neg e]
     cases hq:l.aB[q]? with
     | none =>
       have:=Q7.1 hq
       rw [s5 (by rw [hHl];omega),s5 (by simp [vO];omega)]
     | some y =>
       rw [wU l p k hq,wU l p (k+1) hq]
       congr 1
       refine G1 fun h _=>?_
       have:(q<p∨(q=p∧h<k))↔(q<p∨(q=p∧h<k+1)):=by omega
       simp only [this]
   rw [e] at hst
   exact hst
theorem AF:∀ p,p≤l.aB.length→Reach l es (st0 l es.length) (nL l p) (hSt l es.length p 0)
 | 0,_=>by
   rw [QL]
   simp only [nL,V6,List.flatMap_nil]
   exact .nil _
 | p+1,hp=>by
   rw [Mo]
   have hx:l.aB[p]?=some l.aB[p]:=l8 (by omega)
   refine (AF p (by omega)).append ?_
   rw [← QK l es.length p hx]
   have:=Tx hl hs hes hown hx l.aB[p].bQ.length (v7 _)
   unfold Sq
   simp only [hx]
   exact this
end
theorem UZ {R:List (List aF)} {xs ys:List Int} (hL:Lay R xs ys):∀ e ∈ Ju R xs ys,-1048576≤e.Line.X1∧e.Line.X2≤1048576∧-1048576≤e.Line.Y1∧e.Line.Y2≤1048576:=by
 have ln:∀ (s:eE) a b,(mkE s a b).Line=s:=fun s a b=>by
  unfold mkE
  exact XP _ s _ _
 have rn:∀ {s:Int→Int} {p:Int×Int},p ∈ xE s→Pz s p.1 p.2:=fun {s p} hp=>by
  unfold xE at hp
  split at hp
  ·rename_i hx
   exact ((K1 hx).2 p.1 p.2).1 hp
  ·cases hp
 have one:∀ {x y:Int} {i:Nat},nM R x y=some i→(-1048576≤x∧x+1≤1048576)∧-1048576≤y∧y+1≤1048576:=fun {x y i} h=>by
  obtain ⟨⟨a,ha,a1⟩,⟨b,hb,b1⟩,⟨c,hc,c1⟩,⟨d,hd,d1⟩⟩:=RA hL h
  have:=hL.X.within a ha;have:=hL.X.within b hb;have:=hL.Y.within c hc;have:=hL.Y.within d hd
  omega
 have two:∀ {x y x' y':Int},cod (iA R x y) (iA R x' y')≠0→(∃ i,nM R x y=some i)∨∃ i,nM R x' y'=some i:=fun {x y x' y'} h=>by
  cases e1:nM R x y with
  | some i=>exact .inl ⟨i,rfl⟩
  | none =>
    cases e2:nM R x' y' with
    | some i=>exact .inr ⟨i,rfl⟩
    | none=>exact absurd (by rw [rP e1,rP e2];rfl) h
 intro e he
 unfold Ju at he
 rw [q9,F3,F3] at he
 rcases he with ⟨y,hy,h⟩ | ⟨x,hx,h⟩
 ·obtain ⟨p,hp,rfl⟩:=E3.1 h
  obtain ⟨r1,r2,r3,_,_⟩:=rn hp
  rw [ln]
  have wy:=hL.Y.within y hy
  have h1:hS R y p.1≠0:=r2
  have h2:hS R y (p.2-1)≠0:=by rw [r3 (p.2-1) (by omega) (by omega)];exact r2
  have b1 : -1048576≤p.1:=by
   rcases two h1 with ⟨i,hi⟩ | ⟨i,hi⟩ <;> have:=one hi <;> omega
  have b2:p.2≤1048576:=by
   rcases two h2 with ⟨i,hi⟩ | ⟨i,hi⟩ <;> have:=one hi <;> omega
  exact ⟨b1,b2,wy.1,wy.2⟩
 ·obtain ⟨p,hp,rfl⟩:=E3.1 h
  obtain ⟨r1,r2,r3,_,_⟩:=rn hp
  rw [ln]
  have wx:=hL.X.within x hx
  have h1:vS R x p.1≠0:=r2
  have h2:vS R x (p.2-1)≠0:=by rw [r3 (p.2-1) (by omega) (by omega)];exact r2
  have b1 : -1048576≤p.1:=by
   rcases two h1 with ⟨i,hi⟩ | ⟨i,hi⟩ <;> have:=one hi <;> omega
  have b2:p.2≤1048576:=by
   rcases two h2 with ⟨i,hi⟩ | ⟨i,hi⟩ <;> have:=one hi <;> omega
  exact ⟨wx.1,wx.2,b1,b2⟩
structure LI (l:aV) (es:List bC) (T:List Nat) (m:Nat) (s:RS):Prop where
 f:Fit l es.length s
 d0:∀ i ∈ T.take m,s.eV.getD i false=false
 d1:∀ i ∈ T.drop m,s.eV.getD i false=true
 fl:∀ i ∈ T.take m,s.bE.getD i false=false
 h:∀ (q:Nat) (t:List Bool),s.bJ[q]?=some t→(t.all fun b=>b)=true
 c:∀ (k:Nat) (e:bC),es[k]?=some e→s.Cut.getD k false=true→∃ p ∈ T.drop m,ofB e (p:Int)=true
section
variable {l:aV} (hl:LV l) (hs:∀ x ∈ l.aB,Sm x) {xs ys:List Int} (hL:Lay (gA l) xs ys) {es:List bC} (he:es=Ju (gA l) xs ys) (hes:es.length≤200000) {T:List Nat} (hT:DC l.aB.length es T) (hTl:T.length=l.aB.length)
include hl hs hL he hes hT hTl
theorem FC {m:Nat} {c:List Bool} (hc:c.length=es.length) (hcut:∀ k e,es[k]?=some e→c.getD k false=true→∃ p ∈ T.drop m,ofB e (p:Int)=true) {i:Nat} (hi:i ∈ T.take m):Ew es c (i:Int)=false:=by
 obtain ⟨k,hk⟩:=u6.1 hi
 have hkl:=aX hk
 have hkm:k<m:=by rw [x7] at hkl;omega
 rw [D9,if_pos hkm] at hk
 obtain ⟨e,hem,ho,hx⟩:=hT.ex k i hk
 obtain ⟨j,hj⟩:=u6.1 hem
 refine KB hc hj ho ?_
 cases hu:c.getD j false with
 | false=>rfl
 | true =>
   exfalso
   obtain ⟨p,hp,hop⟩:=hcut j e hj hu
   have no:∀ (q k':Nat),T[k']?=some q→k'<m→q ∈ T.drop m→False:=fun q k' h1 h2 h3=>by
    obtain ⟨a,ha⟩:=u6.1 h3
    rw [E8] at ha
    have hlt:=aX h1
    have:=(P1 hlt hT.nd).1 (h1.trans ha.symm)
    omega
   have hei:=Zx hL e (he ▸ hem)
   obtain ⟨a1,a2,a3,a4⟩:=hei
   unfold ofB at ho hop
   rw [F6,beq_iff_eq,beq_iff_eq] at ho hop
   rcases hx with hb | ⟨o,hom,hod,hob⟩
   ·have:p=i:=by omega
    subst this
    exact no p k hk hkm hp
   ·have:p=i∨p=o:=by omega
    rcases this with rfl | rfl
    ·exact no p k hk hkm hp
    ·obtain ⟨a,ha⟩:=u6.1 hom
     have hal:=aX ha
     have hak:a<k:=by rw [x7] at hal;omega
     rw [D9,if_pos hak] at ha
     exact no p a ha (by omega) hp
theorem MX {m p:Nat} {s:RS} (hI:LI l es T (m+1) s) (hp:T[m]?=some p):∃ s',Step l es s (Zi l es s.Cut p) s'∧LI l es T m s'∧s'.Cut=mark es.length (El es (p:Int)) s.Cut:=by
 have hpl:=hT.lt p (m5 hp)
 have hml:=aX hp
 have hy:l.aB[p]?=some l.aB[p]:=l8 hpl
 have hym:=m5 hy
 generalize l.aB[p]=y at hy hym
 have hpm:p ∈ T.take (m+1):=by
  refine u6.2 ⟨m, ?_⟩
  rw [D9,if_pos (by omega)];exact hp
 have hf:=hI.f
 have sl:=SLf hl hs hes hf
 have nf:=FC hl hs hL he hes hT hTl hf.c hI.c hpm
 -- the first edge that is not cut
 obtain ⟨i0,hi0⟩:∃ i0,tE es s.Cut (p:Int) es.length=some i0:=by
  cases q:tE es s.Cut (p:Int) es.length with
  | some i=>exact ⟨i,rfl⟩
  | none =>
    exfalso
    unfold tE at q
    rw [List.find?_eq_none] at q
    unfold Ew at nf
    rw [O6,E2] at nf
    obtain ⟨j,hj,hh⟩:=nf
    have hjl:=F5.1 hj
    refine q j hj ?_
    have g1:es[j]?=some es[j]:=l8 hjl
    have g2:s.Cut[j]?=some (s.Cut[j]'(by rw [hf.c];exact hjl)):=l8 (by rw [hf.c];exact hjl)
    unfold held at hh
    rw [g1,g2] at hh
    unfold unB El
    rw [g1,nF g2]
    exact hh
 have hu0:=List.find?_some (show (s9 es.length).find? (unB es s.Cut (p:Int))=some i0 from hi0)
 have hi0l:i0<es.length:=F5.1 (List.mem_of_find?_eq_some (show (s9 es.length).find? (unB es s.Cut (p:Int))=some i0 from hi0))
 have ge:es[i0]?=some es[i0]:=l8 hi0l
 have gc:s.Cut[i0]?=some (s.Cut[i0]'(by rw [hf.c];exact hi0l)):=l8 (by rw [hf.c];exact hi0l)
 have hem:es[i0] ∈ Ju (gA l) xs ys:=by rw [← he];exact F9 hi0l
 generalize es[i0]=e at ge hem
 obtain ⟨⟨c1,c2,c3,c4⟩,c5,c6⟩:=MC hl hL hem
 obtain ⟨⟨o1,o2⟩,_⟩:=Wq hL e hem
 have hsp:Da es (tE es s.Cut (p:Int) es.length)=⟨e.Line.X1,e.Line.Y1⟩:=by rw [hi0];unfold Da;simp only [ge]
 unfold unB El at hu0
 rw [ge,nF gc] at hu0
 simp only [o8,Bool.not_eq_true'] at hu0
 have hout:Zi l es s.Cut p=⟨(p:Int),-1,if Ae y then 1 else 0,⟨e.Line.X1,e.Line.Y1⟩⟩:=by
  unfold Zi;simp only [hy,hsp]
 obtain ⟨x,hx⟩:∃ x:cF,x=⟨(p:Int),-1,if Ae y then 1 else 0,⟨e.Line.X1,e.Line.Y1⟩⟩:=⟨_,rfl⟩
 have hxp:x.aS=(p:Int):=by rw [hx]
 have hxh:x.nK=-1:=by rw [hx]
 have hxj:x.bL=if Ae y then 1 else 0:=by rw [hx]
 have hxl:x.gC=⟨e.Line.X1,e.Line.Y1⟩:=by rw [hx]
 -- it may begin there
 have n1:=Wr (show es.length≤1000000 by omega) hf.c x
 have hany:(s9 es.length).any (AQ es s.Cut x.aS x.gC)=true:=by
  refine E2.2 ⟨i0,F5.2 hi0l, ?_⟩
  unfold AQ
  rw [ge,gc,hxp,hxl]
  have hgap:VN ⟨e.Line.X1,e.Line.Y1⟩ e.Line=0:=by
   unfold VN
   have hw:e.Line.X1-e.Line.X1=0:=by omega
   have hh:e.Line.Y1-e.Line.Y1=0:=by omega
   simp only [Rb]
   have z1:aK e.Line.X1 e.Line.X1=0:=by unfold aK;rw [hw];exact zX 0 (by omega) (by omega)
   have z2:aK e.Line.Y1 e.Line.Y1=0:=by unfold aK;rw [hh];exact zX 0 (by omega) (by omega)
   have hX : -1048576≤e.Line.X1∧e.Line.X2≤1048576∧-1048576≤e.Line.Y1∧e.Line.Y2≤1048576:=UZ hL e hem
   rw [z1,z2,bP (a:=e.Line.X1) (b:=e.Line.X2) (by omega) (by omega),bP (a:=e.Line.Y1) (b:=e.Line.Y2) (by omega) (by omega)]
   omega
  have h1:=hu0.1
  have h2:=hu0.2
  simp only [h1,h2,hgap]
  decide
 rw [hany,if_pos rfl] at n1
 have pl:aM (fP l x) 0=some (.inr ()):=by
  have:=yB l.aB.length (fP l x) (fun k=>(k:Int)) (fun _=>false) (.inr ()) (.inl ()) rfl (fun k hk=>?_) ?_
  ·have this':aM (fP l x) 0=_:=this
   rw [this']
   simp
  ·have e2:l.aB[k]?=some l.aB[k]:=l8 hk
   have e3:gH l.aB[k].aD (Is.mk x.gC.X x.gC.Y)=some false:=by rw [hxl];exact c6 _ (m5 e2)
   unfold fP
   have hd:decide ((k:Int)<(l.aB.length:Int))=true:=by simp [hk]
   have h8:=hl.n
   simp only [hd,if_true,aW e2,i9,e3,j9,if_false,bG k (by omega)]
  ·simp [fP]
 have hlead:gQ s l es x=some true:=by
  unfold gQ
  have h0:decide (x.nK ≥ 0)=false:=by rw [hxh];rfl
  have c5':gH l.aT.bO (Is.mk x.gC.X x.gC.Y)=some false:=by rw [hxl];exact c5
  have d1:¬ x.gC.X<0:=by rw [hxl];simp only;omega
  have d2:¬ x.gC.X>l.aT.dQ:=by rw [hxl];simp only;omega
  have d3:¬ x.gC.Y<0:=by rw [hxl];simp only;omega
  have d4:¬ x.gC.Y>l.aT.cE:=by rw [hxl];simp only;omega
  simp only [h0,d1,d2,d3,d4,decide_false,j9,if_false,c5',i9,pl,n1]
 -- it is not refused
 have gf:s.bE[p]?=some false:=by
  have h1:s.bE[p]?=some (s.bE[p]'(by rw [hf.f];exact hpl)):=l8 (by rw [hf.f];exact hpl)
  have:=hI.fl p hpm
  rw [nF h1] at this
  rw [h1,this]
 have gd:s.eV[p]?=some false:=by
  have h1:s.eV[p]?=some (s.eV[p]'(by rw [hf.d];exact hpl)):=l8 (by rw [hf.d];exact hpl)
  have:=hI.d0 p hpm
  rw [nF h1] at this
  rw [h1,this]
 have gh:s.bJ[p]?=some (s.bJ[p]'(by rw [hf.h];exact hpl)):=l8 (by rw [hf.h];exact hpl)
 generalize s.bJ[p]'(by rw [hf.h];exact hpl)=t at gh
 have hta:=hI.h p t gh
 have htm:=sl.hh t (m5 gh)
 have hxq:x.bL=0→Ae y=false:=fun q=>by
  rw [hxj] at q
  cases hb:Ae y with
  | true=>rw [hb] at q;exact absurd q (by decide)
  | false=>rfl
 have hj:0≤x.bL∧x.bL≤4:=by rw [hxj];split <;> omega
 obtain ⟨s',hst⟩:∃ s',Step l es s x s':=⟨_,.line hxp hxh hj hy gf gd gh hta nf,JW hl (by omega) sl hf hxp hxh hj hy gf gd gh hta nf hxq hlead⟩
 rw [hout,← hx]
 refine ⟨s',hst, ?_⟩
 have hf':=Jr hst.d hf
 have hnd:p ∉ T.drop (m+1)∧p ∉ T.take m:=by
  constructor
  ·intro h
   obtain ⟨a,ha⟩:=u6.1 h
   rw [E8] at ha
   have:=(P1 hml hT.nd).1 (hp.trans ha.symm)
   omega
  ·intro h
   obtain ⟨a,ha⟩:=u6.1 h
   have hal:=aX ha
   have ham:a<m:=by rw [x7] at hal;omega
   rw [D9,if_pos ham] at ha
   have:=(P1 hml hT.nd).1 (hp.trans ha.symm)
   omega
 have hdrop:T.drop m=p::T.drop (m+1):=by
  rw [List.drop_eq_getElem_cons hml]
  congr 1
  have:=l8 hml
  rw [hp] at this
  exact (w7 this).symm
 have hsub:∀ i ∈ T.take m,i ∈ T.take (m+1):=fun i hi=>by
  obtain ⟨a,ha⟩:=u6.1 hi
  have hal:=aX ha
  have ham:a<m:=by rw [x7] at hal;omega
  rw [D9,if_pos ham] at ha
  exact u6.2 ⟨a,by rw [D9,if_pos (by omega)];exact ha⟩
 have hd:=hst.d
 cases hd with
 | @hole p' h' y' t' hp' hh' _ _ _ _ _=>rw [hxh] at hh';omega
 | @line p' y' t' hp' _ hj' hy' hfl' hdn' ht' ha' hn' =>
   have e1:p'=p:=by rw [hxp] at hp';omega
   subst e1
   have hcm:∀ k e,es[k]?=some e→(mark es.length (El es (p':Int)) s.Cut).getD k false=true→∃ q ∈ T.drop m,ofB e (q:Int)=true:=fun k e hk hu=>by
    rw [Nw _ _ (aX hk),F6] at hu
    rw [hdrop]
    rcases hu with hu | hu
    ·refine ⟨p',by simp, ?_⟩
     unfold El at hu;rw [hk] at hu;exact hu
    ·obtain ⟨q,hq,ho⟩:=hI.c k e hk hu
     exact ⟨q,F7 _ hq,ho⟩
   have hlt:∀ i ∈ T.take m,i<l.aB.length:=fun i hi=>hT.lt i (List.mem_of_mem_take hi)
   refine ⟨⟨hf',fun i hi=>?_,fun i hi=>?_,fun i hi=>?_,hI.h,hcm⟩,rfl⟩
   ·show (s.eV.set p' true).getD i false=false
    rw [uV _ _ _ _ _ (aX gd),if_neg (fun e:i=p'=>hnd.2 (e ▸ hi))]
    exact hI.d0 i (hsub i hi)
   ·show (s.eV.set p' true).getD i false=true
    rw [uV _ _ _ _ _ (aX gd)]
    rw [hdrop] at hi
    rcases List.mem_cons.1 hi with rfl | hi
    ·rw [if_pos rfl]
    ·split
     ·rfl
     ·exact hI.d1 i hi
   ·show (fell l.aB.length es (mark es.length (El es (p':Int)) s.Cut) (s.eV.set p' true) (s.bL.set p' x.bL) s.bE).getD i false=false
    unfold fell
    rw [Nw _ _ (hlt i hi),hI.fl i (hsub i hi),Bool.or_false]
    unfold EF
    rw [FC hl hs hL he hes hT hTl (m:=m) (pT _ _ _) hcm hi]
    rfl
theorem AK:∀ (m:Nat) (s:RS),m≤T.length→LI l es T m s→∃ t,Reach l es s (Ja l es (T.take m).reverse s.Cut) t∧LI l es T 0 t
 | 0,s,_,hI=>⟨s,by simp only [List.take_zero,List.reverse_nil,Ja];exact .nil s,hI⟩
 | m+1,s,hm,hI=>by
   have hp:T[m]?=some (T[m]'(by omega)):=l8 (by omega)
   obtain ⟨s',h1,h2,h3⟩:=MX hl hs hL he hes hT hTl hI hp
   obtain ⟨t,t1,t2⟩:=AK m s' (by omega) h2
   refine ⟨t, ?_,t2⟩
   have e:(T.take (m+1)).reverse=(T[m]'(by omega))::(T.take m).reverse:=by
    rw [G5,hp]
    simp
   rw [e]
   show Reach l es s (Zi l es s.Cut _::Ja l es (T.take m).reverse (mark es.length (El es _) s.Cut)) t
   rw [← h3]
   exact (Reach.one h1).append t1
end
theorem LN {l:aV} {items:List cF} {es:List bC} {ss:List RS} (h:LB l) (hr:Ran l items es ss):Nh l items=some (Qw (fun s s' a=>a++[Mu l.aB.length s s']) (st0 l es.length) ss [],0):=by
 have hp:l.aB.length≤1048576:=h.1
 have hm:=mk_eq l.aB.length false hp
 have hk:=hr.k
 have hd:decide ((items.length:Int)>128)=false:=by simp;omega
 have q:=SY (l:=l) (es:=es) (items:=items) (fun k (s:RS) (acc:List (List Int))=>((k:Int),acc,s.Cut,s.bJ,s.eV,s.bL,s.bE,s.bE)) (gL l items (es,0)) (fun s s' a=>a++[Mu l.aB.length s s']) (fun k _ a=>a.length=k)
  (fun k x s s' acc hx hs hf hI=>⟨DQ hr.v.n hr.k k x s s' acc hI hx hs hf,by simp [hI]⟩) (fun s acc=>.inr (s.Cut,s.bJ,s.eV,s.bL,s.bE,acc,s.bE)) (fun s acc=>by simp [gL]) hr.s [] (Od es.length) rfl
 have q':aM (gL l items (es,0)) (0,[],(st0 l es.length).Cut,(st0 l es.length).bJ,(st0 l es.length).eV,(st0 l es.length).bL,(st0 l es.length).bE,q8 l.aB.length false)=_:=q
 unfold Nh wQ
 rw [hm,hr.e1]
 simp only [i9,bne_self_eq_false,j9,if_false,hd,hr.a1,q']
def En (n:Nat):RS→List RS→List (List Int)
 | _,[]=>[]
 | s,s'::ss=>Mu n s s'::En n s' ss
theorem Tu {n:Nat}:∀ (ss:List RS) (s:RS) (acc:List (List Int)),Qw (fun s s' a=>a++[Mu n s s']) s ss acc=acc++En n s ss
 | [],_,acc=>by simp [Qw,En]
 | s'::ss,s,acc=>by rw [Qw,Tu ss];simp [En]
theorem Wt {n:Nat}:∀ (ss:List RS) (s:RS),(En n s ss).length=ss.length
 | [],_=>rfl
 | s'::ss,s=>by simp [En,Wt ss]
theorem QE {n:Nat} {q:Nat→Bool} {i:Int} (h:i ∈ Sn n q):0≤i∧i<(n:Int):=by
 unfold Sn at h
 obtain ⟨k,hk,rfl⟩:=E3.1 h
 have:=F5.1 (O1.1 hk).1
 omega
theorem Sl {n:Nat} {q:Nat→Bool} {F:List Bool} (hF:F.length=n):∀ m,m≤n→(Sn m q).foldl (fun c (i:Int)=>c.set i.toNat true) F=mark n (fun i=>decide (i<m)&&q i) F
 | 0,_=>by
   rw [show (fun i=>decide (i<0)&&q i)=fun _=>false from funext fun i=>by simp]
   exact (Sw hF).symm
 | m+1,h=>by
   rw [AB,Sv]
   by_cases hm:q m=true
   ·rw [if_pos hm,if_pos hm,List.foldl_append,Sl hF m (by omega)];rfl
   ·rw [if_neg hm,if_neg hm,Sl hF m (by omega)]
theorem NB {n:Nat} {s s':RS} (h1:s.bE.length=n) (h2:s'.bE.length=n) (hmono:∀ i,s.bE.getD i false=true→s'.bE.getD i false=true):(Mu n s s').foldl (fun c (i:Int)=>c.set i.toNat true) s.bE=s'.bE:=by
 unfold Mu
 rw [Sl h1 n (v7 n)]
 refine G0 fun i=>?_
 by_cases hi:i<n
 ·have hm:=hmono i
  rw [Ee _ hi]
  have e:s'.bE[i]?=some (s'.bE.getD i false):=by rw [m8,l8 (by omega)];rfl
  rw [e]
  generalize s.bE.getD i false=f at hm ⊢
  generalize s'.bE.getD i false=f' at hm ⊢
  cases f with
  | true=>rw [hm rfl];simp
  | false=>cases f' <;> simp [hi]
 ·rw [s5 (by rw [pT];omega),s5 (by omega)]
theorem EH {l:aV} {es:List bC} {s s':RS} {x:cF} (hd:vJ l es s x s') (hf:Fit l es.length s) (i:Nat) (h:s.bE.getD i false=true):s'.bE.getD i false=true:=by
 have hi:i<l.aB.length:=by
  rcases Nat.lt_or_ge i s.bE.length with q | q
  ·rw [← hf.f];exact q
  ·rw [m8,s5 q] at h;cases h
 have core:∀ q,(mark l.aB.length q s.bE).getD i false=true:=fun q=>by rw [Nw _ _ hi,h,Bool.or_true]
 cases hd with
 | hole=>exact core _
 | line=>exact core _
theorem NF {n:Nat} (hn:n≤8) {s s':RS} (h1:s.bE.length=n) (h2:s'.bE.length=n) (hmono:∀ i,s.bE.getD i false=true→s'.bE.getD i false=true) {F:List (List Int)} (z:Int) {k:Nat} (hF:F[k]?=some (Mu n s s')) (a:Int) (c0:List Bool) :
  aM (jM (F,z) (a,(k:Int),c0)) (0,s.bE)=some s'.bE:=by
 have hl:(Mu n s s').length≤n:=EI _ _
 obtain ⟨q,_⟩:=RJ (Mu n s s') (fun c (i:Int)=>c.set i.toNat true) (fun j c=>((j:Int),c)) (jM (F,z) (a,(k:Int),c0)) (fun c=>c) (fun _ c=>c.length=n) s.bE h1
  (fun j x c hx hc=>by
   have hj:=aX hx
   obtain ⟨x0,x1⟩:=QE (m5 hx)
   obtain ⟨m,hm⟩:∃ m:Nat,x=(m:Int):=⟨x.toNat,by omega⟩
   subst hm
   have hc1:c[m]?=some (c[m]'(by omega)):=l8 (by omega)
   unfold jM
   have hd:decide ((j:Int)<((Mu n s s').length:Int))=true:=by simp [hj]
   simp only [aW hF,i9,hd,if_true,aW hx,aW hc1,bG j (show (j:Int)<9223372036854775807 by omega)]
   exact ⟨trivial,by rw [v8];exact hc⟩)
  (fun c _=>by
   unfold jM
   simp only [aW hF,i9,Int.lt_irrefl,decide_false,j9,if_false])
 rw [NB h1 h2 hmono] at q
 exact q
def hW (w:aS→Nat→Int) (l:aV) (H:List (List Bool)) (p:Nat):Int:=match l.aB[p]? with
 | some x=>pL (fun h=>if (H.getD p []).getD h false then w x h else 0) x.bQ.length
 | none=>0
def hT (w:aS→Nat→Int) (l:aV) (H:List (List Bool)):Int:=pL (hW w l H) l.aB.length
def dS (l:aV) (s:RS):Int:=pL (fun i=>if s.eV.getD i false then 1 else 0) l.aB.length
def wP (w:aS→Nat→Int) (l:aV) (p:Nat):Int:=match l.aB[p]? with
 | some x=>pL (w x) x.bQ.length
 | none=>0
theorem KD (w:aS→Nat→Int) (l:aV) (n:Nat):hT w l (st0 l n).bJ=0:=by
 unfold hT
 rw [xI (g:=fun _=>0) fun k hk=>?_,Rx]
 have hx:l.aB[k]?=some l.aB[k]:=l8 hk
 unfold hW
 rw [hx]
 have hg:(st0 l n).bJ.getD k []=q8 l.aB[k].bQ.length false:=nF (by show (l.aB.map _)[k]?=_;rw [p8,hx];rfl)
 simp only [hg,Am,j9,if_false]
 exact Rx _
theorem US (l:aV) (n:Nat):dS l (st0 l n)=0:=by
 unfold dS
 rw [xI (g:=fun _=>0) fun k hk=>?_,Rx]
 rw [show (st0 l n).eV=q8 l.aB.length false from rfl,Am];rfl
theorem QM (w:aS→Nat→Int) {l:aV} {n:Nat} {s:RS} (hf:Fit l n s) (hh:(s.bJ.all fun t=>t.all fun b=>b)=true):hT w l s.bJ=pL (wP w l) l.aB.length:=by
 refine xI fun k hk=>?_
 have hx:l.aB[k]?=some l.aB[k]:=l8 hk
 have hkl:k<s.bJ.length:=by rw [hf.h];exact hk
 have ht:s.bJ[k]?=some s.bJ[k]:=l8 hkl
 unfold hW wP
 rw [hx]
 refine xI fun j hj=>?_
 have hl:=hf.hh k _ _ ht hx
 rw [nF ht,Vv ((p7.1 hh) _ (F9 hkl)) (by omega)]
 simp
theorem Yi:∀ n:Nat,pL (fun _=>1) n=n
 | 0=>rfl
 | n+1=>by show pL (fun _=>1) n+1=_;rw [Yi n];omega
theorem YP {l:aV} {n:Nat} {s:RS} (hf:Fit l n s) (hd:(s.eV.all fun b=>b)=true):dS l s=l.aB.length:=by
 unfold dS
 rw [xI (g:=fun _=>1) fun k hk=>?_,Yi]
 rw [Vv hd (by rw [hf.d];exact hk)];rfl
theorem YS {l:aV} {es:List bC} {s s':RS} {x:cF} (hd:vJ l es s x s') (hf:Fit l es.length s) :
  ∃ p:Nat,x.aS=p∧s.bE[p]?=some false∧((∃ (h:Nat) (y:aS) (r:aF),x.nK=h∧l.aB[p]?=some y∧y.bQ[h]?=some r∧(∀ w,hT w l s'.bJ=hT w l s.bJ+w y h)∧dS l s'=dS l s) ∨
    (x.nK<0∧s'.bJ=s.bJ∧dS l s'=dS l s+1)):=by
 cases hd with
 | @hole p h y t hp hh hj hy hfl ht hb =>
   have htl:=hf.hh p t y ht hy
   have hhl:=aX hb
   have hpl:=aX ht
   refine ⟨p,hp,hfl,.inl ⟨h,y,_,hh,hy,l8 (by omega),fun w=>?_,rfl⟩⟩
   refine Oh (s:=p) ?_ (fun k hk=>?_) _ (aX hy)
   ·show hW w l (s.bJ.set p (t.set h true)) p=_
    unfold hW
    rw [hy]
    simp only [uV s.bJ p p _ _ hpl,if_true,nF ht]
    refine Oh (s:=h) ?_ (fun k hk=>?_) _ (by omega)
    ·simp only [uV t h h true false hhl,if_true,nF hb,j9,if_false,Int.zero_add]
    ·simp only [uV t h k true false hhl,if_neg hk]
   ·show hW w l (s.bJ.set p (t.set h true)) k=_
    unfold hW
    rw [uV s.bJ p k _ _ hpl,if_neg hk]
 | @line p y t hp hh hj hy hfl hdn ht ha hn =>
   have hpd:=aX hdn
   refine ⟨p,hp,hfl,.inr ⟨by omega,rfl, ?_⟩⟩
   refine Oh (s:=p) ?_ (fun k hk=>?_) _ (aX hy)
   ·show (if (s.eV.set p true).getD p false then (1:Int) else 0)=_
    rw [uV _ _ _ _ _ hpd,nF hdn];simp
   ·show (if (s.eV.set p true).getD k false then (1:Int) else 0)=_
    rw [uV _ _ _ _ _ hpd,if_neg hk]
theorem CH (a b:Int):aK a b=wr (a+-b):=by unfold aK wr;rw [Int.sub_eq_add_neg]
theorem SB {l:aV} (n8:l.aB.length≤8) {es:List bC} {items:List cF} (h128:items.length≤128) {F:List (List Int)} (z:Int) {xs:List cF} {s:RS} {ss:List RS} (h:Steps l es s xs ss):∀ (k:Nat) (a:Int),items.drop k=xs→F.drop k=En l.aB.length s ss→Fit l es.length s→wr a=a →
  aM (eU l items (F,z)) (a,(k:Int),s.bE)=some (.inr (wr (a+-(hT Ey l (jA s ss).bJ-hT Ey l s.bJ))))∧(xs.length:Int)=hT (fun _ _=>1) l (jA s ss).bJ+dS l (jA s ss)-(hT (fun _ _=>1) l s.bJ+dS l s):=by
 induction h with
 | nil s =>
   intro k a hd _ _ ha
   have hk:items.length≤k:=by
    have:=congrArg List.length hd
    simp at this;omega
   refine ⟨dK ?_, ?_⟩
   ·unfold eU
    have:decide ((k:Int)<(items.length:Int))=false:=by simp;omega
    simp only [this,j9,if_false]
    rw [show a+-(hT Ey l (jA s []).bJ-hT Ey l s.bJ)=a by show a+-(hT Ey l s.bJ-hT Ey l s.bJ)=a;omega,ha]
   ·show (0:Int)=hT _ l s.bJ+dS l s-_;omega
 | @cons s s' x xs ss h _ ih =>
   intro k a hd hd2 hf ha
   have hx:items[k]?=some x:=by
    have:(items.drop k)[0]?=some x:=by rw [hd];rfl
    rwa [E8,K3] at this
   have hF:F[k]?=some (Mu l.aB.length s s'):=by
    have:(F.drop k)[0]?=some (Mu l.aB.length s s'):=by rw [hd2];rfl
    rwa [E8,K3] at this
   have hd':items.drop (k+1)=xs:=by
    have:(items.drop k).drop 1=xs:=by rw [hd];rfl
    rwa [O5] at this
   have hd2':F.drop (k+1)=En l.aB.length s' ss:=by
    have:(F.drop k).drop 1=En l.aB.length s' ss:=by rw [hd2];rfl
    rwa [O5] at this
   have hk:=aX hx
   have hf':=Jr h.d hf
   obtain ⟨p,hp,hfl,hw⟩:=YS h.d hf
   have q:=fun a=>NF n8 hf.f hf'.f (EH h.d hf) z hF a s.bE
   have hdk:decide ((k:Int)<(items.length:Int))=true:=by simp [hk]
   have step:∀ b:Int,wr b=b→(eU l items (F,z) (a,(k:Int),s.bE)=some (.inl (b,((k+1:Nat):Int),s'.bE)))→aM (eU l items (F,z)) (a,(k:Int),s.bE)=some (.inr (wr (b+-(hT Ey l (jA s' ss).bJ-hT Ey l s'.bJ)))):=fun b hb e=>by
    rw [iY e];exact (ih (k+1) b hd' hd2' hf' hb).1
   have cnt:=(ih (k+1) a hd' hd2' hf' ha).2
   have len:((x::xs).length:Int)=(xs.length:Int)+1:=by simp
   rcases hw with ⟨h',y,r,hh,hy,hc,w1,w2⟩ | ⟨hh,w1,w2⟩
   ·have d0:decide ((h':Int) ≥ 0)=true:=by simp
    refine ⟨?_, ?_⟩
    ·have:=step (aK a (SH r)) (by rw [CH];exact LM _) (by
      unfold eU jJ
      simp only [hdk,if_true,aW hx,i9,hp,aW hfl,j9,if_false,hh,d0,aW hy,aW hc,q,bG k (show (k:Int)<9223372036854775807 by omega)]
      rfl)
     rw [this,CH,Tp]
     have e:Ey y h'=SH r:=by unfold Ey;rw [hc]
     have w1':=w1 Ey
     rw [e] at w1'
     show some (Sum.inr (wr (a+-SH r+-(hT Ey l (jA s' ss).bJ-hT Ey l s'.bJ))))=some (Sum.inr (wr (a+-(hT Ey l (jA s' ss).bJ-hT Ey l s.bJ))))
     rw [show a+-SH r+-(hT Ey l (jA s' ss).bJ-hT Ey l s'.bJ)=a+-(hT Ey l (jA s' ss).bJ-hT Ey l s.bJ) by omega]
    ·have:=w1 fun _ _=>1
     show _=hT (fun _ _=>1) l (jA s' ss).bJ+dS l (jA s' ss)-_
     omega
   ·have d0:decide (x.nK ≥ 0)=false:=by rw [decide_eq_false_iff_not];omega
    refine ⟨?_, ?_⟩
    ·have:=step a ha (by
      unfold eU jJ
      simp only [hdk,if_true,aW hx,i9,hp,aW hfl,j9,if_false,d0,q,bG k (show (k:Int)<9223372036854775807 by omega)])
     rw [this,w1];rfl
    ·show _=hT (fun _ _=>1) l (jA s' ss).bJ+dS l (jA s' ss)-_
     rw [w1] at cnt
     omega
theorem VB {l:aV} {items:List cF} {es:List bC} {ss:List RS} (hr:Ran l items es ss) (hd:((jA (st0 l es.length) ss).eV.all fun b=>b)=true):∀ i,i<es.length→(jA (st0 l es.length) ss).Cut.getD i false=true:=by
 have hf:=(Tl hr.s (Od es.length)).1
 have hc:=IV hr.s (fun p hp=>by
  rw [show (st0 l es.length).eV=q8 l.aB.length false from rfl,Am] at hp
  exact absurd hp (by decide))
 generalize jA (st0 l es.length) ss=s at hd hf hc
 obtain ⟨xs,ys,hL,hes⟩:=hr.g
 intro k hk
 have hk':es[k]?=some es[k]:=l8 hk
 obtain ⟨p,hp,ho⟩:=PQ hL es[k] (by rw [← hes];exact F9 hk)
 have hpl:p<s.eV.length:=by rw [hf.d];simpa [gA] using hp
 exact hc p (Vv hd hpl) k _ hk' ho
theorem AU {l:aV} (h:LB l) {items:List cF} (hchk:xK l items=some 0):jI l items=some true:=by
 obtain ⟨e,c1,c3,_⟩:=Vp l h items
 obtain rfl:e=0:=w7 (c1.symm.trans hchk)
 obtain ⟨es,ss,hr,hd,hh,r1⟩:=c3 rfl
 have hf:=(Tl hr.s (Od es.length)).1
 have hF:=LN h hr
 rw [Tu,List.nil_append] at hF
 have hcut:=VB hr hd
 have n8:=hr.v.n
 have hk128:=hr.k
 have hlen:=hr.s.len
 have hL1:Kv l items=some (wr (vL l es),0):=by
  unfold Kv
  have q1:=MD n8 hr.c hr.n
  rw [hchk]
  simp only [i9,bne_self_eq_false,j9,if_false,hr.e2]
  cases hz:aM (vD es) (0,0) with
  | none=>rw [hz] at q1;cases q1
  | some a =>
    rw [hz] at q1
    simp only [i9] at q1 ⊢
    rw [q1];rfl
 have q5:=fun a=>SB n8 hk128 (F:=En l.aB.length (st0 l es.length) ss) 0 hr.s 0 a (by simp) (by simp) (Od es.length)
 generalize jA (st0 l es.length) ss=s at *
 have b1:(((En l.aB.length (st0 l es.length) ss).length:Int) != (items.length:Int))=false:=by rw [Wt,hlen];simp
 have b2:((s.Cut.length:Int) != (es.length:Int))=false:=by show ((s.Cut.length:Int) != _)=false;rw [hf.c];simp
 have q1:aM (jK (es,0) (s,0,0,s.bJ)) (wr (vL l es),0)=some (.inr (wr (vL l es+-pL (Kc es) es.length))):=by
  have key:=gN es (jK (es,0) (s,0,0,s.bJ)) (fun k=>(wr (vL l es+-pL (Kc es) k),(k:Int))) (.inr (wr (vL l es+-pL (Kc es) es.length))) (fun k x hx=>?_) ?_
  ·have e0:wr (vL l es+-pL (Kc es) 0)=wr (vL l es):=by rw [show vL l es+-pL (Kc es) 0=vL l es by show vL l es+-0=_;omega]
   rw [e0] at key;exact key
  ·have hk:=aX hx
   have hc:s.Cut[k]?=some true:=by
    have:=hcut k hk
    show s.Cut[k]?=_
    rw [m8] at this
    cases e:s.Cut[k]? with
    | none=>rw [e] at this;cases this
    | some b=>rw [e] at this;exact congrArg some this
   unfold jK
   have hdk:decide ((k:Int)<(es.length:Int))=true:=by simp [hk]
   have en:=hr.n
   simp only [hdk,if_true,aW hc,i9,u5,j9,if_false,aW hx,bG k (show (k:Int)<9223372036854775807 by omega)]
   have e1:Kc es k=AL x:=by unfold Kc;rw [hx]
   have e2:pL (Kc es) (k+1)=pL (Kc es) k+AL x:=by show pL (Kc es) k+Kc es k=_;rw [e1]
   rw [CH,Tp,e2]
   show some (Sum.inl (wr (vL l es+-pL (Kc es) k+-AL x),_))=_
   rw [show vL l es+-pL (Kc es) k+-AL x=vL l es+-(pL (Kc es) k+AL x) by omega]
  ·simp [jK]
 have q2:aM (jL l) (0,0)=some (wr (pL (wP (fun _ _=>1) l) l.aB.length)):=by
  rw [Nv (n:=l.aB.length) (wP (fun _ _=>1) l) (jL l) (fun k acc hk ha=>?_) (fun acc=>by simp [jL]) CY,Int.zero_add]
  have hx:l.aB[k]?=some l.aB[k]:=l8 hk
  unfold jL wP
  have hdk:decide ((k:Int)<(l.aB.length:Int))=true:=by simp [hk]
  simp only [hdk,if_true,aW hx,hx,i9,Yi,bG k (show (k:Int)<9223372036854775807 by omega)]
  rfl
 obtain ⟨q5,cnt⟩:=q5 (wr (vL l es+-pL (Kc es) es.length)) (LM _)
 rw [KD,US,QM _ hf hh,YP hf hd] at cnt
 rw [KD,QM _ hf hh,Tp] at q5
 have e0:pL (wP Ey l) l.aB.length=pL (KE l) l.aB.length:=xI fun k _=>rfl
 have e1:vL l es+-pL (Kc es) es.length+-(pL (wP Ey l) l.aB.length-0)=0:=by rw [e0];unfold vL;omega
 rw [e1,CY] at q5
 have hz:mk (l.aB.length:Int) false=some (st0 l es.length).bE:=mk_eq _ _ (by omega)
 have e2:wr (pL (wP (fun _ _=>1) l) l.aB.length)=(items.length:Int)-(l.aB.length:Int):=by
  unfold wr
  have:pL (wP (fun _ _=>1) l) l.aB.length=(items.length:Int)-(l.aB.length:Int):=by omega
  rw [this,zX _ (by omega) (by omega)]
 have e3:aQ (l.aB.length:Int) ((items.length:Int)-(l.aB.length:Int))=(items.length:Int):=by rw [bA (by omega) (by omega)];omega
 have q5':aM (eU l items (En l.aB.length (st0 l es.length) ss,0)) (wr (vL l es+-pL (Kc es) es.length),0,(st0 l es.length).bE)=some (.inr 0):=q5
 unfold jI
 rw [hr.e1,hF,hL1,r1]
 simp only [i9,bne_self_eq_false,j9,if_false,b1,b2,q1,q2,hz,q5',e2,e3,beq_self_eq_true,if_true]
theorem QV (T:List Nat):(ints T).reverse=ints T.reverse:=by unfold ints;rw [List.map_reverse]
theorem WG {l:aV} (h:LB l) (hv:mG l=some 0):∃ items,Mf l=some (items,0)∧xK l items=some 0:=by
 obtain ⟨es,b,v1,e1,e3,e5⟩:=DB l h
 obtain rfl:b=0:=w7 (v1.symm.trans hv)
 obtain ⟨hl,g1,xs,ys,hL,he⟩:=e5 rfl
 have hs:=XW h
 have hc:=JS h
 have h8:=hl.n
 have c12:∀ x ∈ l.aB,x.bQ.length≤12:=PL hl hs
 -- the order of the pieces
 obtain ⟨T,hT,hTl,hloop⟩:=AW hl hs hL he (show es.length≤1000000 by omega) l.aB.length [] (by simp) ⟨List.nodup_nil,(fun i hi=>nomatch hi),(fun k i hk=>by simp at hk)⟩
 have hpeel:Ql (l.aB.length:Int) es=some (ints T.reverse):=by
  unfold Ql
  rw [mk_eq _ false (show l.aB.length≤1048576 by omega)]
  have e0:q8 l.aB.length false=wF l.aB.length []:=by
   refine G0 fun i=>?_
   unfold wF
   rw [p8,L4]
   by_cases hi:i<l.aB.length
   ·rw [G8 hi,if_pos hi];simp
   ·rw [if_neg hi,s5 (by simp;omega)];rfl
  have hloop':aM (Ea (l.aB.length:Int) es) ([],q8 l.aB.length false)=some (.inr (ints T)):=by rw [e0];exact hloop
  simp only [i9,hloop',ID (l:=ints T) (by simp [ints];omega),QV]
 have hOl:T.reverse.length=l.aB.length:=by rw [List.length_reverse];exact hTl
 have hal:=Ps h8 c12 l.aB.length
 have hlines:=Xy hl (show es.length≤1000000 by omega) 0 (O:=T.reverse) (by omega) (fun p hp=>hT.lt p (List.mem_reverse.1 hp)) T.reverse 0 (nL l l.aB.length) (q8 es.length false) (by simp) (by simp) (by omega)
 obtain ⟨items,hitems⟩:∃ items,items=nL l l.aB.length++Ja l es T.reverse (q8 es.length false):=⟨_,rfl⟩
 have hp:Mf l=some (items,0):=by
  unfold Mf
  rw [e1]
  have hlines':aM (Dx l (es,0) (ints T.reverse)) (0,nL l l.aB.length,(st0 l es.length).Cut)=some items:=by rw [hitems];exact hlines
  simp only [i9,bne_self_eq_false,j9,if_false,HW h8 c12,hpeel,FX h8 hc es.length e3,hlines']
 have hlen:items.length≤128:=by
  rw [hitems,E5,Xi]
  omega
 -- they run
 have hin:=YF hT.nd hT.lt hTl
 have hown:∀ i,i<l.aB.length→∃ (k:Nat) (e:bC),es[k]?=some e∧ofB e (i:Int)=true:=fun i hi=>by
  obtain ⟨k,hk⟩:=u6.1 (hin i hi)
  obtain ⟨e,hem,ho,_⟩:=hT.ex k i hk
  obtain ⟨j,hj⟩:=u6.1 hem
  exact ⟨j,e,hj,ho⟩
 have hr1:=AF hl hs e3 hown l.aB.length (v7 _)
 have hLI:LI l es T T.length (hSt l es.length l.aB.length 0):=by
  refine ⟨KC l es.length _ _,fun i _=>Am _ _ _,fun i hi=>?_,fun i _=>Am _ _ _,fun q t hq=>?_,fun k e _ hu=>?_⟩
  ·rw [List.drop_length] at hi;cases hi
  ·have hql:=aX hq
   have hql':q<l.aB.length:=by
    have:(vO l l.aB.length 0).length=l.aB.length:=by simp [vO]
    have hq2:q<(vO l l.aB.length 0).length:=hql
    omega
   have hx:l.aB[q]?=some l.aB[q]:=l8 hql'
   have hq':(vO l l.aB.length 0)[q]?=some t:=hq
   rw [wU l _ _ hx] at hq'
   rw [← w7 hq',p7]
   intro b hb
   obtain ⟨j,_,rfl⟩:=E3.1 hb
   rw [decide_eq_true_eq];exact .inl hql'
  ·have:(q8 es.length false).getD k false=true:=hu
   rw [Am] at this;cases this
 obtain ⟨t,hr2,hLt⟩:=AK hl hs hL he e3 hT hTl T.length _ (v7 _) hLI
 rw [E7] at hr2
 have hreach:Reach l es (st0 l es.length) items t:=by
  rw [hitems]
  exact hr1.append hr2
 have hft:=hLt.f
 have hd:(t.eV.all fun b=>b)=true:=by
  rw [p7]
  intro b hb
  obtain ⟨i,hi⟩:=u6.1 hb
  have hil:=aX hi
  have:=hLt.d1 i (by rw [List.drop_zero];exact hin i (by rw [← hft.d];exact hil))
  rw [nF hi] at this
  exact this
 have hh:(t.bJ.all fun u=>u.all fun b=>b)=true:=by
  rw [p7]
  intro u hu
  obtain ⟨i,hi⟩:=u6.1 hu
  exact hLt.h i u hi
 obtain ⟨ss,hss,rfl⟩:=hreach
 obtain ⟨e,k1,_,k2⟩:=Vp l h items
 rw [k2 es ss e1 hlen hss hd hh] at k1
 exact ⟨items,hp,k1⟩
theorem TK:sZ=some true:=by
 unfold sZ eA
 simp [Fj]
theorem WZ (t:dJ):∃ b,eA t=some b∧(b=true→(0≤t.Gap∧t.Gap≤14400)∧(0≤t.cH∧t.cH≤14400)):=by
 unfold eA
 simp only [Fj,i9]
 by_cases h:0≤t.Gap∧t.Gap≤14400
 ·exact ⟨_,by simp [h],fun q=>⟨h,of_decide_eq_true q⟩⟩
 ·exact ⟨false,by simp [h],fun q=>by cases q⟩
theorem GI (sheets:List aT) (pieces:List aS) (t:dJ):∃ O L e,Nx sheets pieces t=some (O,L,e)∧(e=0→∀ k:Nat,k<sheets.length→∃ (s:aT) (P:List aS) (a b:ByteArray) (c d e f:Int),Bb sheets pieces t O (k:Int)=some (⟨s,P⟩,0,a,b,c,d,e,f)∧mG ⟨s,P⟩=some 0∧LB ⟨s,P⟩):=by
 obtain ⟨b,b1,b3⟩:=RH sheets pieces
 obtain ⟨c,c1,c2⟩:=WZ t
 unfold Nx
 rw [b1,c1]
 simp only [i9]
 by_cases hb:b=0
 ·subst hb
  obtain ⟨g1,g2,g3,g4⟩:=b3 rfl
  simp only [bne_self_eq_false,j9,if_false]
  cases c with
  | false=>exact ⟨[],[],1,rfl,fun q=>absurd q (by decide)⟩
  | true =>
    obtain ⟨hg,hm⟩:=c2 rfl
    obtain ⟨T,O,L,Q,h1,h2⟩:=SC g1 g2 g3 g4 hg hm c1
    have hol:=h1.ol
    have m2:∀ {β:Type} (z:β),mk (sheets.length:Int) z=some (q8 sheets.length z):=fun {β} z=>by
     unfold mk
     rw [if_pos ⟨by omega,by simp [LIM];omega⟩,y9]
    simp only [u5,j9,if_false,m2,i9,h2]
    exact ⟨O,L,0,rfl,fun _ k hk=>MU (by omega) g3 g4 hm h1.oq h1.pl (HX g1 g2 g3 g4 hg hm b1 c1 h1) hk⟩
 ·have hb':(b != 0)=true:=by rw [bne_iff_ne];exact hb
  simp only [hb',if_true]
  exact ⟨[],[],b,rfl,fun q=>absurd q hb⟩
theorem Za (l:aV) (items:List cF) (j:nY) (h:Ph l) (_:RLN 1048576 Vs items) (hj:Ay j):tQ l items j=some true:=by
 have first:((xK l items).bind fun r9=>if (r9==0) then ((jI l items).bind fun r10=>some (!r10)) else (some false))=some false:=by
  obtain ⟨e,c1,_⟩:=Vp l (XA h) items
  rw [c1]
  by_cases he:e=0
  ·subst he
   simp only [i9,beq_self_eq_true,if_true,AU (XA h) c1,u5]
  ·have:(e==0)=false:=by rw [beq_eq_false_iff_ne];exact he
   simp only [i9,this,j9,if_false]
 obtain ⟨O,L,e,n1,n2⟩:=GI j.Gb j.aB j.Set
 have key:aM (fJ j (O,L,e)) 0=some (.inr ()):=by
  by_cases he:e=0
  ·subst he
   refine gN j.Gb (fJ j (O,L,0)) (fun k=>(k:Int)) (.inr ()) (fun k x hx=>?_) ?_
   ·have hk:=aX hx
    have hs:j.Gb.length≤1048576:=hj.1.1
    obtain ⟨s,P,a,b,c,d,e,f,w1,w2,w3⟩:=n2 rfl k hk
    obtain ⟨plan,p1,p2⟩:=WG w3 w2
    have p3:=AU w3 p2
    have hdk:decide ((k:Int)<(j.Gb.length:Int))=true:=by simp [hk]
    unfold fJ
    simp only [hdk,if_true,beq_self_eq_true,i9,w1,p1,p2,p3,bne_self_eq_false,j9,if_false,u5,bG k (show (k:Int)<9223372036854775807 by omega)]
   ·simp [fJ]
  ·have:(e==0)=false:=by rw [beq_eq_false_iff_ne];exact he
   refine dK ?_
   unfold fJ
   simp only [this]
   by_cases hz:(0:Int)<(j.Gb.length:Int)
   ·simp [hz]
   ·simp [hz]
 unfold tQ
 rw [first]
 simp only [i9,j9,if_false,n1,key,TK]
end Go.SM
