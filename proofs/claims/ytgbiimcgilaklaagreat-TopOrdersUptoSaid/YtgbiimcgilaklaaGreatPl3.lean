/- What the functions compute, part 3. -/
import Derived.Test.YtgbiimcgilaklaaGreatPl2
set_option linter.unusedVariables false
set_option linter.unusedSimpArgs false
set_option linter.unusedSectionVars false
open Bool renaming and_eq_true→o8,and_false→W0,eq_iff_iff→V3,false_and→V8,false_eq_true→j9,not_eq_true'→F2,not_false→E0,not_true→u5,or_eq_true→F6
open Classical renaming choose_spec→K1
open Int renaming le_refl→w8,ofNat_lt→P4,toNat→l4,toNat_natCast→y9
open List renaming all_eq_true→p7,any_eq_false→s7,any_eq_true→E2,append_assoc→K4,drop_eq_getElem_cons→K7,drop_zero→Q5,ext_getElem?→G0,filter_append→M9,filter_eq_self→T9,findIdx?_eq_none_iff→R6,findIdx?_eq_some_iff_getElem→G7,flatMap_append→T8,flatten_append→T7,flatten_cons→U8,foldl_append→K0,foldl_cons→y8,getD_eq_getElem?_getD→m8,getElem?_append_right→x8,getElem?_drop→E8,getElem?_eq_getElem→l8,getElem?_eq_none→s5,getElem?_eq_some_iff→m9,getElem?_map→p8,getElem?_set→G6,getElem_mem→F9,length_append→E5,length_cons→H5,length_filter_le→O0,length_map→p9,length_nil→L5,length_range→J8,length_set→v8,length_take→x7,map_append→H3,map_congr_left→G1,mem_append→q9,mem_append_left→I6,mem_append_right→I4,mem_cons_of_mem→F7,mem_cons_self→F8,mem_filter→O1,mem_flatMap→F3,mem_flatten→M5,mem_iff_getElem?→u6,mem_map→E3,mem_map_of_mem→K9,mem_of_getElem?→m5,mem_of_mem_take→G4,mem_range→F5,range→s9,replicate→q8,set→m7,take_add_one→G5,take_append_of_le_length→M7,take_length→E7
open Nat renaming le_refl→v7,le_succ_of_le→V1,le_trans→J1
open Option renaming bind_some→i9,map_some→s8
open Option.some renaming inj→w7
namespace Go.SM
open Go Go.VI Go.Cells
def gA (l:aV):List (List aF):=l.aB.map fun x=>x.aD
noncomputable def Ju (R:List (List aF)) (xs ys:List Int):List bC:=
 ys.flatMap (fun y=>(xE (hS R y)).map fun p=>mkE ⟨p.1,y,p.2,y⟩ (iA R p.1 y) (iA R p.1 (y-1)))++xs.flatMap fun x=>(xE (vS R x)).map fun p=>mkE ⟨x,p.1,x,p.2⟩ (iA R x p.1) (iA R (x-1) p.1)
section
variable {l:aV} (n8:l.aB.length≤8) (r12:∀ x ∈ l.aB,x.aD.length≤12) (hv:∀ x ∈ l.aB,BI x.aD)
include n8 r12 hv
theorem YU:BI (gA l).flatten:=fun r hr=>by
 obtain ⟨t,ht,hr⟩:=M5.1 hr
 obtain ⟨x,hx,rfl⟩:=E3.1 ht
 exact hv x hx r hr
omit hv in
theorem GY:(gA l).flatten.length≤96:=by
 have:∀ p:List aS,(∀ x ∈ p,x.aD.length≤12)→(p.map fun x=>x.aD).flatten.length≤12*p.length:=by
  intro p
  induction p with
  | nil=>intro _;simp
  | cons x p ih =>
    intro h
    have h1:=ih fun y hy=>h y (F7 _ hy)
    have h2:=h x F8
    simp only [List.map_cons,U8,E5,H5]
    omega
 have:=this l.aB r12
 unfold gA;omega
omit r12 hv in
theorem ZE:(gA l).length≤900:=by unfold gA;rw [p9];omega
theorem YW {xs ys:List Int} (gx:Sc xs (xsL (gA l).flatten)) (gy:Sc ys (ysL (gA l).flatten)):Lay (gA l) xs ys:=
 ⟨gx,gy,YU n8 r12 hv,by have:=GY n8 r12;omega,ZE n8⟩
theorem JJ (x y:Int):Ge l x y=some (iA (gA l) x y):=by
 unfold Ge
 have h2:=Su l.aB (Nj l x y) (fun p=>cov p.aD x y) (fun k=>.inl (some (k:Int))) (.inr ()) (fun k p hp=>?s) ?f
 ·rw [h2]
  unfold iA Lw nM gA
  rw [List.findIdx?_map]
  show _=some ((l.aB.findIdx? fun p=>cov p.aD x y).map fun i=>(i:Int))
  cases l.aB.findIdx? (fun p=>cov p.aD x y) <;> rfl
 case s =>
  have h1:=aX hp
  have hpm:=m5 hp
  have hl:=r12 p hpm
  have h3:aM (Jk x y p) 0=some (if p.aD.any (fun r=>inC r x y) then .inl () else .inr ()):=by
   refine RL p.aD (Jk x y p) (fun r=>inC r x y) (.inr ()) (.inl ()) (fun k r hr=>?_) ?_
   ·have h1:=aX hr
    obtain ⟨e1,e2⟩:=JA (hv p hpm r (m5 hr))
    unfold Jk
    simp only [h1,P4,decide_true,if_true,aW hr,i9,e1,e2]
    have hb':(if decide (r.X≤x) then (if decide (x<r.X+r.W) then (if decide (r.Y≤y) then some (decide (y<r.Y+r.H)) else some false) else some false) else some false)=some (inC r x y):=by
     unfold inC
     cases decide (r.X≤x) <;> cases decide (x<r.X+r.W) <;> cases decide (r.Y≤y) <;> simp
    rw [hb',i9,bG k (by omega)]
   ·simp [Jk]
  unfold Nj
  simp only [h1,P4,decide_true,if_true,aW hp,i9,h3,bG k (by omega)]
  show _=if (p.aD.any fun r=>inC r x y)=true then _ else _
  cases p.aD.any (fun r=>inC r x y) <;> rfl
 case f=>simp [Nj]
theorem DU:aM (Be l) (0,[],[])=some (xsL (gA l).flatten,ysL (gA l).flatten):=by
 have hfl:∀ k,k≤l.aB.length→(xsL ((l.aB.take k).map fun x=>x.aD).flatten).length≤200∧(ysL ((l.aB.take k).map fun x=>x.aD).flatten).length≤200:=fun k hk=>by
  have:=GY (l:=⟨l.aT,l.aB.take k⟩) (by simp only [x7];omega) (fun x hx=>r12 x (G4 hx))
  unfold gA at this
  simp only at this
  rw [Rz,Sa];omega
 obtain ⟨r,q1,q2⟩:=lJ l.aB (fun k (s:List Int×List Int)=>((k:Int),s.1,s.2)) (Be l) (fun s=>(s.1,s.2)) (fun k s=>s=(xsL ((l.aB.take k).map fun x=>x.aD).flatten,ysL ((l.aB.take k).map fun x=>x.aD).flatten)) ([],[]) (by simp [xsL,ysL])
  (fun k p s hp hI=>by
   have h1:=aX hp
   have hd:decide ((k:Int)<(l.aB.length:Int))=true:=by simp [h1]
   have hpm:=m5 hp
   have hl:=r12 p hpm
   have hf:=hfl k (by omega)
   subst hI
   obtain ⟨r,t1,t2⟩:=lJ p.aD (fun k (s:List Int×List Int)=>((k:Int),s.1,s.2)) (Fb p) (fun s=>(s.1,s.2)) (fun j s=>s=(xsL ((l.aB.take k).map fun x=>x.aD).flatten++xsL (p.aD.take j),ysL ((l.aB.take k).map fun x=>x.aD).flatten++ysL (p.aD.take j))) (xsL ((l.aB.take k).map fun x=>x.aD).flatten,ysL ((l.aB.take k).map fun x=>x.aD).flatten) (by simp [xsL,ysL])
    (fun j r s hr hI=>by
     have h2:=aX hr
     have hd:decide ((j:Int)<(p.aD.length:Int))=true:=by simp [h2]
     obtain ⟨e1,e2⟩:=JA (hv p hpm r (m5 hr))
     subst hI
     unfold Fb
     simp only [hd,if_true,aW hr,i9,e1,e2]
     have l1:(xsL (p.aD.take j)).length≤200:=by rw [Rz,x7];omega
     have l2:(ysL (p.aD.take j)).length≤200:=by rw [Sa,x7];omega
     rw [iF (by simp only [E5,H5,L5,LIM];omega),iF (by simp only [E5,H5,L5,LIM];omega)]
     simp only [i9,bG j (by omega)]
     refine ⟨(xsL ((l.aB.take k).map fun x=>x.aD).flatten++xsL (p.aD.take (j+1)),ysL ((l.aB.take k).map fun x=>x.aD).flatten++ysL (p.aD.take (j+1))), ?_,rfl⟩
     rw [pN hr,Yl,Yn]
     simp [xsL,ysL]) (fun s _=>by simp [Fb])
   rw [E7] at t2
   unfold Be
   simp only [hd,if_true,aW hp,i9,bG k (by omega)]
   rw [show ((0:Int),xsL ((l.aB.take k).map fun x=>x.aD).flatten,ysL ((l.aB.take k).map fun x=>x.aD).flatten)=(((0:Nat):Int),xsL ((l.aB.take k).map fun x=>x.aD).flatten,ysL ((l.aB.take k).map fun x=>x.aD).flatten) from rfl,t1,t2]
   refine ⟨(xsL ((l.aB.take (k+1)).map fun x=>x.aD).flatten,ysL ((l.aB.take (k+1)).map fun x=>x.aD).flatten), ?_,rfl⟩
   rw [pN hp,H3,T7,Yl,Yn]
   simp) (fun s _=>by simp [Be])
 rw [E7] at q2
 rw [show ((0:Int),([]:List Int),([]:List Int))=(((0:Nat):Int),(([],[]):List Int×List Int).1,(([],[]):List Int×List Int).2) from rfl,q1,q2]
 rfl
theorem PR:∃ xs ys,Lay (gA l) xs ys∧Cj l=some (Ju (gA l) xs ys)∧(Ju (gA l) xs ys).length≤200000:=by
 have hn:=GY n8 r12
 obtain ⟨xs,x1,x2,x3⟩:=TH (l:=xsL (gA l).flatten) (by rw [Rz];omega)
 obtain ⟨ys,y1,y2,y3⟩:=TH (l:=ysL (gA l).flatten) (by rw [Sa];omega)
 have hL:=YW n8 r12 hv ⟨x2,x3⟩ ⟨y2,y3⟩
 have lx:xs.length≤200:=by have:=uW x2 fun x m=>(x3 x).1 m;rw [Rz] at this;omega
 have ly:ys.length≤200:=by have:=uW y2 fun x m=>(y3 x).1 m;rw [Sa] at this;omega
 have rowH:∀ y,(-1048576≤y∧y≤1048576)→∃ L,fQ xs l.aT.Name l.aT.bH l.aT.cX l.aT.cU l.aT.dQ l.aT.cE l.aT.bO l.aT.Used l.aB y y=some ((xE (hS (gA l) y)).map fun p=>mkE ⟨p.1,y,p.2,y⟩ (iA (gA l) p.1 y) (iA (gA l) p.1 (y-1)))∧L=xE (hS (gA l) y)∧L.length≤xs.length:=fun y hy=>by
  have hA:=C8 hL y
  obtain ⟨L,g1,g2,g3⟩:=OT hA (side:=fun i=>Ib i l.aT.Name l.aT.bH l.aT.cX l.aT.cU l.aT.dQ l.aT.cE l.aT.bO l.aT.Used l.aB y) (fun i x hx _=>by
   show (Ge l x y).bind (fun r5=>(Ge l x (aK y 1)).bind fun r6=>some (r5,r6))=_
   rw [bP (by omega) (by omega),JJ n8 r12 hv,JJ n8 r12 hv];rfl) (line:=fun a b=>Ic a b y) (ln:=fun a b=>⟨a,y,b,y⟩) (fun a b=>rfl)
  have e:xE (hS (gA l) y)=L:=Yd g2
  exact ⟨L,by rw [LR,g1,e],e.symm,g3⟩
 have rowV:∀ x,(-1048576≤x∧x≤1048576)→∃ L,fR ys l.aT.Name l.aT.bH l.aT.cX l.aT.cU l.aT.dQ l.aT.cE l.aT.bO l.aT.Used l.aB x x=some ((xE (vS (gA l) x)).map fun p=>mkE ⟨x,p.1,x,p.2⟩ (iA (gA l) x p.1) (iA (gA l) (x-1) p.1))∧L=xE (vS (gA l) x)∧L.length≤ys.length:=fun x hx=>by
  have hA:=YE hL x
  obtain ⟨L,g1,g2,g3⟩:=OT hA (side:=fun i=>Ie i l.aT.Name l.aT.bH l.aT.cX l.aT.cU l.aT.dQ l.aT.cE l.aT.bO l.aT.Used l.aB x) (fun i y hy _=>by
   show (Ge l x y).bind (fun r5=>(Ge l (aK x 1) y).bind fun r6=>some (r5,r6))=_
   rw [bP (by omega) (by omega),JJ n8 r12 hv,JJ n8 r12 hv];rfl) (line:=fun a b=>Ig a b x) (ln:=fun a b=>⟨x,a,x,b⟩) (fun a b=>rfl)
  have e:xE (vS (gA l) x)=L:=Yd g2
  exact ⟨L,by rw [LS,g1,e],e.symm,g3⟩
 obtain ⟨r,q1,q2,q3⟩:=lJ ys (fun k (s:List bC)=>((k:Int),s)) (Fc l xs ys) (fun s=>s) (fun k s=>s=(ys.take k).flatMap (fun y=>(xE (hS (gA l) y)).map fun p=>mkE ⟨p.1,y,p.2,y⟩ (iA (gA l) p.1 y) (iA (gA l) p.1 (y-1)))∧s.length≤200*k) [] ⟨rfl,by simp⟩
  (fun k y s hy hI=>by
   have hk:=aX hy
   have hd:decide ((k:Int)<(ys.length:Int))=true:=by simp [hk]
   obtain ⟨L,g1,g2,g3⟩:=rowH y (hL.Y.within y (m5 hy))
   have hrl:((xE (hS (gA l) y)).map fun p=>mkE ⟨p.1,y,p.2,y⟩ (iA (gA l) p.1 y) (iA (gA l) p.1 (y-1))).length≤200:=by rw [p9,← g2];omega
   have hsl:=hI.2
   unfold Fc
   simp only [hd,if_true,aW hy,i9,g1,bG k (by omega)]
   rw [iF (by unfold LIM;omega)]
   refine ⟨_,rfl, ?_,by rw [E5];omega⟩
   rw [pN hy,T8,hI.1]
   simp) (fun s _=>by simp [Fc])
 rw [E7] at q2
 obtain ⟨r',t1,t2,t3⟩:=lJ xs (fun k (s:List bC)=>((k:Int),s)) (Ff l xs ys) (fun s=>s) (fun k s=>s=r++(xs.take k).flatMap (fun x=>(xE (vS (gA l) x)).map fun p=>mkE ⟨x,p.1,x,p.2⟩ (iA (gA l) x p.1) (iA (gA l) (x-1) p.1))∧s.length≤40000+200*k) r ⟨by simp,by omega⟩
  (fun k x s hx hI=>by
   have hk:=aX hx
   have hd:decide ((k:Int)<(xs.length:Int))=true:=by simp [hk]
   obtain ⟨L,g1,g2,g3⟩:=rowV x (hL.X.within x (m5 hx))
   have hrl:((xE (vS (gA l) x)).map fun p=>mkE ⟨x,p.1,x,p.2⟩ (iA (gA l) x p.1) (iA (gA l) (x-1) p.1)).length≤200:=by rw [p9,← g2];omega
   have hsl:=hI.2
   unfold Ff
   simp only [hd,if_true,aW hx,i9,g1,bG k (by omega)]
   rw [iF (by unfold LIM;omega)]
   refine ⟨_,rfl, ?_,by rw [E5];omega⟩
   rw [pN hx,T8,hI.1]
   simp) (fun s _=>by simp [Ff])
 rw [E7] at t2
 have e:r'=Ju (gA l) xs ys:=by rw [t2,q2];rfl
 refine ⟨xs,ys,hL, ?_,by rw [← e];omega⟩
 unfold Cj
 rw [DU n8 r12 hv]
 simp only [i9,x1,y1]
 rw [show ((0:Int),([]:List bC))=(((0:Nat):Int),[]) from rfl,q1]
 simp only [i9]
 rw [show ((0:Int),r)=(((0:Nat):Int),r) from rfl,t1,e]
 rfl
end
theorem LV.hv {l:aV} (h:LV l):∀ x ∈ l.aB,BI x.aD:=fun x hx r hr=>(h.off x hx r hr).1.1
theorem XA {l:aV} (h:Ph l):LB l:=⟨h.2.1,fun x hx=>by
 obtain ⟨_,_,_,_,r1,r2,r3⟩:=h.2.2 x hx
 exact ⟨⟨r1.1,fun r hr=>r1.2 r hr⟩,⟨r2.1,fun r hr=>r2.2 r hr⟩,⟨r3.1,fun r hr=>r3.2 r hr⟩⟩⟩
theorem XW {l:aV} (h:LB l):∀ x ∈ l.aB,Sm x:=h.2
theorem DB (l:aV) (h:LB l):∃ es b,mG l=some b∧tB l=some (es,b)∧es.length≤200000∧(b=0→LV l∧Cj l=some es∧∃ xs ys,Lay (gA l) xs ys∧es=Ju (gA l) xs ys):=by
 obtain ⟨b,b1,b3⟩:=BK l (XW h)
 unfold tB
 rw [b1]
 simp only [i9]
 by_cases hb:b=0
 ·subst hb
  have hl:=b3 rfl
  obtain ⟨xs,ys,h1,h2,h3⟩:=PR hl.n hl.r12 hl.hv
  exact ⟨Ju (gA l) xs ys,0,rfl,by simp [h2],h3,fun _=>⟨hl,h2,xs,ys,h1,rfl⟩⟩
 ·have hb':(b != 0)=true:=by rw [bne_iff_ne];exact hb
  exact ⟨[],b,rfl,by simp [hb'],by simp,fun q=>absurd q hb⟩
abbrev RS:=bW
def noS:RS:=⟨[],[],[],[],[]⟩
noncomputable def Ae (x:aS):Bool:=(vE x).getD false
theorem Vu (x:aS) (h:x.aD.length≤1048576):vE x=some (Ae x):=by
 obtain ⟨a,q,_⟩:=lJ x.aD (fun k (t:Int×Int×Int×Int)=>((k:Int),t)) (Bd x) (fun t=>t) (fun _ _=>True) (0,0,0,0) trivial
  (fun k r t hr _=>by
   have hk:=aX hr
   have hd:decide ((k:Int)<(x.aD.length:Int))=true:=by simp [hk]
   unfold Bd Bc
   simp only [hd,if_true,aW hr,i9,iT,bG k (by omega)]
   cases decide (vR r) <;> cases t.2.2.1==0 <;> exact ⟨_,rfl,trivial⟩) (fun t _=>by simp [Bd])
 have q':aM (Bd x) (0,0,0,0,0)=some a:=q
 have:vE x=some (decide (wJ a.2.2.1 a.2.2.2<7200)):=by unfold vE;rw [q'];rfl
 unfold Ae;rw [this];rfl
def Ag (l:List aF) (x y:Int):Bool:=l.any fun r=>decide (pS ⟨x,y,1,1⟩ r)
theorem contains_eq (l:List aF) (x y:Int) (h:l.length≤9223372036854775806):cT l x y 1 1=some (Ag l x y):=by
 unfold cT eJ
 have key:∀ n k,k+n=l.length→∃ r:Int ⊕ Unit,aM (bZ l x y 1 1) (k:Int)=some r∧(match r with | .inl j=>0≤j∧Ag (l.drop k) x y=true | .inr _=>Ag (l.drop k) x y=false):=by
  intro n
  induction n with
  | zero =>
    intro k hk
    obtain rfl:k=l.length:=by omega
    exact ⟨.inr (),dK (by simp [bZ]),by simp [Ag]⟩
  | succ n ih =>
    intro k hk
    have hlt:k<l.length:=by omega
    have hr:l[k]?=some l[k]:=by simp
    have h1:decide ((k:Int)<(l.length:Int))=true:=by simp;omega
    have hb:bZ l x y 1 1 (k:Int)=if decide (pS ⟨x,y,1,1⟩ l[k]) then some (.inr (.inl (k:Int))) else some (.inl ((k+1:Nat):Int)):=by
     unfold bZ Gd
     simp only [h1,if_true,aW hr,i9,Nf]
     rw [bA (by omega) (by omega)]
     rfl
    have e:Ag (l.drop k) x y=(decide (pS ⟨x,y,1,1⟩ l[k]) || Ag (l.drop (k+1)) x y):=by
     unfold Ag;rw [K7 hlt,List.any_cons]
    by_cases hq:pS ⟨x,y,1,1⟩ l[k]
    ·rw [if_pos (by simpa using hq)] at hb
     exact ⟨.inl k,dK hb,by omega,by rw [e];simp [hq]⟩
    ·rw [if_neg (by simpa using hq)] at hb
     obtain ⟨r,q1,q2⟩:=ih (k+1) (by omega)
     refine ⟨r,(iY hb).trans q1, ?_⟩
     cases r with
     | inl j=>exact ⟨q2.1,by rw [e,q2.2];simp⟩
     | inr u=>simp only at q2 ⊢;rw [e,q2];simp [hq]
 obtain ⟨r,q1,q2⟩:=key l.length 0 (by omega)
 rw [show (0:Int)=((0:Nat):Int) from rfl,q1]
 cases r with
 | inl j=>simp only [Q5] at q2;simp [q2.1,q2.2]
 | inr u=>simp only [Q5] at q2;simp [q2]
theorem ES (l:List aF) (s:Is) (h:l.length≤9223372036854775806) (hb : -4194304≤s.X∧s.X≤4194304∧-4194304≤s.Y∧s.Y≤4194304):gH l s=some (Ag l (s.X-1) (s.Y-1)&&(Ag l s.X (s.Y-1)&&(Ag l (s.X-1) s.Y&&Ag l s.X s.Y))):=by
 unfold gH
 have b1:¬ s.X < -4194304:=by omega
 have b2:¬ s.X>4194304:=by omega
 have b3:¬ s.Y < -4194304:=by omega
 have b4:¬ s.Y>4194304:=by omega
 simp only [b1,b2,b3,b4,decide_false,j9,if_false,i9]
 have hL:aM (uN l s) 0=some (if [(⟨s.X-1,s.Y-1,1,1⟩:aF),⟨s.X,s.Y-1,1,1⟩,⟨s.X-1,s.Y,1,1⟩,⟨s.X,s.Y,1,1⟩].all (fun q=>Ag l q.X q.Y) then .inr () else .inl ()):=by
  refine Xj [(⟨s.X-1,s.Y-1,1,1⟩:aF),⟨s.X,s.Y-1,1,1⟩,⟨s.X-1,s.Y,1,1⟩,⟨s.X,s.Y,1,1⟩] (uN l s) (fun q=>Ag l q.X q.Y) (.inl ()) (.inr ()) (fun k q hq=>?_) ?_
  ·have hk:=(m9.1 hq).1
   have h1:decide ((k:Int)<4)=true:=by simp at hk ⊢;omega
   have hwh:q.W=1∧q.H=1:=by
    have:=m5 hq
    simp only [List.mem_cons,List.not_mem_nil,or_false] at this
    rcases this with rfl | rfl | rfl | rfl <;> exact ⟨rfl,rfl⟩
   unfold uN
   rw [bP (by omega) (by omega),bP (by omega) (by omega)]
   simp only [H5,L5,Int.reduceAdd,Int.natCast_add,Int.cast_ofNat_Int,h1,if_true,aW hq,i9,hwh.1,hwh.2,contains_eq l _ _ h]
   rw [bA (by simp at hk;omega) (by simp at hk;omega)]
   cases Ag l q.X q.Y <;> rfl
  ·unfold uN
   simp
 rw [hL]
 simp only [List.all_cons,List.all_nil,Bool.and_true,i9]
 cases Ag l (s.X-1) (s.Y-1)&&(Ag l s.X (s.Y-1)&&(Ag l (s.X-1) s.Y&&Ag l s.X s.Y)) <;> rfl
theorem Vq (l:List aF) (s:Is) (h:l.length≤9223372036854775806):∃ b,gH l s=some b:=by
 by_cases hb : -4194304≤s.X∧s.X≤4194304∧-4194304≤s.Y∧s.Y≤4194304
 ·exact ⟨_,ES l s h hb⟩
 ·refine ⟨false, ?_⟩
  unfold gH
  by_cases q1:s.X < -4194304
  ·simp [q1]
  ·by_cases q2:s.X>4194304
   ·simp [q1,q2]
   ·by_cases q3:s.Y < -4194304
    ·simp [q1,q2,q3]
    ·have q4:s.Y>4194304:=by omega
     simp [q1,q2,q3,q4]
structure SL1 (s:RS):Prop where
 c:s.Cut.length≤1048576
 h:s.bJ.length≤1048576
 hh:∀ t ∈ s.bJ,t.length≤1048576
 d:s.eV.length≤1048576
 j:s.bL.length≤1048576
 f:s.bE.length≤1048576
structure Fit (l:aV) (n:Nat) (s:RS):Prop where
 c:s.Cut.length=n
 h:s.bJ.length=l.aB.length
 d:s.eV.length=l.aB.length
 j:s.bL.length=l.aB.length
 f:s.bE.length=l.aB.length
 hh:∀ (k:Nat) t x,s.bJ[k]?=some t→l.aB[k]?=some x→t.length=x.bQ.length
theorem CA {l:aV} (n8:l.aB.length≤8) (n:Nat) {s:RS} (hs:SL1 s):∃ b,jT s l (n:Int)=some b∧(b=true↔Fit l n s):=by
 have hb:∀ a b:Nat,((a:Int) != (b:Int))=!decide (a=b):=fun a b=>by
  by_cases h:a=b
  ·subst h;simp
  ·have:¬ (a:Int)=(b:Int):=by omega
   simp [h,this]
 by_cases h1:s.Cut.length=n
 ·by_cases h2 : s.bJ.length=l.aB.length
  ·by_cases h3:s.eV.length=l.aB.length
   ·by_cases h4:s.bL.length=l.aB.length
    ·by_cases h5:s.bE.length=l.aB.length
     ·let q:Nat→Bool:=fun k=>match s.bJ[k]?,l.aB[k]? with
       | some t,some x=>!decide (t.length=x.bQ.length)
       | _,_=>false
      have g1:aM (rE s l) 0=some (if (s9 l.aB.length).any q then .inl () else .inr ()):=by
       refine yB l.aB.length (rE s l) (fun k=>(k:Int)) q _ _ rfl (fun k hk=>?_) ?_
       ·have e1:s.bJ[k]?=some (s.bJ[k]'(by omega)):=l8 (by omega)
        have e2:l.aB[k]?=some l.aB[k]:=l8 hk
        have e1':s.bJ[k]?=some (s.bJ[k]'(by omega)):=e1
        unfold rE
        have hd:decide ((k:Int)<(l.aB.length:Int))=true:=by simp [hk]
        simp only [hd,if_true,aW e1',aW e2,i9,hb,q,e1,e2,bG k (by omega)]
       ·simp [rE]
      refine ⟨!((s9 l.aB.length).any q), ?_, ?_⟩
      ·unfold jT
       rw [g1]
       show (Option.bind (if ((s.Cut.length:Int) != (n:Int))=true then _ else _) _)=_
       simp only [hb,h1,h2,h3,h4,h5,decide_true,u5,j9,if_false,i9]
       cases (s9 l.aB.length).any q <;> rfl
      ·rw [F2,s7]
       constructor
       ·intro hq
        refine ⟨h1,h2,h3,h4,h5,fun k t x e1 e2=>?_⟩
        have:=hq k (F5.2 (aX e2))
        simp only [q,e1,e2] at this
        simpa using this
       ·intro hf k hk
        have hk':=F5.1 hk
        have e1:s.bJ[k]?=some (s.bJ[k]'(by omega)):=l8 (by omega)
        have e2:l.aB[k]?=some l.aB[k]:=l8 hk'
        simp only [q,e1,e2,hf.hh k _ _ e1 e2]
        simp
     ·refine ⟨false, ?_,by simp;exact fun hf=>h5 hf.f⟩
      ·unfold jT;simp [hb,h1,h2,h3,h4,h5]
    ·refine ⟨false, ?_,by simp;exact fun hf=>h4 hf.j⟩
     ·unfold jT;simp [hb,h1,h2,h3,h4]
   ·refine ⟨false, ?_,by simp;exact fun hf=>h3 hf.d⟩
    ·unfold jT;simp [hb,h1,h2,h3]
  ·refine ⟨false, ?_,by simp;exact fun hf=>h2 hf.h⟩
   ·unfold jT;simp [hb,h1,h2]
 ·refine ⟨false, ?_,by simp;exact fun hf=>h1 hf.c⟩
  ·unfold jT;simp [hb,h1]
def ofB (e:bC) (p:Int):Bool:=(e.A==p) || (e.B==p)
theorem of_eq (e:bC) (p:Int):Mh e p=some (ofB e p):=by
 unfold Mh ofB
 cases (e.A==p) <;> simp
def held (es:List bC) (c:List Bool) (p:Int) (i:Nat):Bool:=match es[i]?,c[i]? with
 | some e,some b=>ofB e p&&!b
 | _,_=>false
def Ew (es:List bC) (c:List Bool) (p:Int):Bool:=!((s9 es.length).any (held es c p))
section
variable {es:List bC} (hes:es.length≤1000000) {c:List Bool} (hc:c.length=es.length)
include hes hc
theorem CB (p:Int) (H:List (List Bool)) (D:List Bool) (J:List Int) (F:List Bool):pP ⟨c,H,D,J,F⟩ es p=some (Ew es c p):=by
 unfold pP
 have key:aM (rF ⟨c,H,D,J,F⟩ es p) 0=some (if (s9 es.length).any (held es c p) then .inl () else .inr ()):=by
  refine yB es.length (rF ⟨c,H,D,J,F⟩ es p) (fun k=>(k:Int)) (held es c p) _ _ rfl (fun k hk=>?_) ?_
  ·have e1:es[k]?=some es[k]:=l8 hk
   have e2:c[k]?=some (c[k]'(by omega)):=l8 (by omega)
   unfold rF held
   have hd:decide ((k:Int)<(es.length:Int))=true:=by simp [hk]
   simp only [hd,if_true,aW e1,aW e2,e1,e2,i9,of_eq,bG k (by omega)]
   cases ofB es[k] p <;> simp
  ·simp [rF]
 rw [key]
 unfold Ew
 cases (s9 es.length).any (held es c p) <;> rfl
end
theorem Az (t:List Bool) (ht:t.length≤1048576):fK t false=some (!(t.all fun b=>b)):=by
 unfold fK tR
 rw [Su t (kH t false) (fun b=>!b) (fun k=>.inl (k:Int)) (.inr ()) (fun k b hb=>?s) ?f]
 ·cases e:t.findIdx? (fun b=>!b) with
  | none =>
    rw [R6] at e
    have:(t.all fun b=>b)=true:=p7.2 fun b hb=>by have:=e b hb;simpa using this
    simp [this]
  | some i =>
    have:(t.all fun b=>b)=false:=by
     rw [← Bool.not_eq_true,p7]
     intro q
     obtain ⟨hi,h1,_⟩:=G7.1 e
     have:=q _ (F9 hi)
     simp [this] at h1
    simp [this]
 case s =>
  have h1:=aX hb
  unfold kH
  simp only [h1,P4,decide_true,if_true,aW hb,i9,bG k (by omega)]
  cases b <;> rfl
 case f=>simp [kH]
theorem FH (l:aV) (n8:l.aB.length≤8) (r12:∀ x ∈ l.aB,x.aD.length≤12) (x:cF):∃ b,aM (fP l x) 0=some b:=
 CL l.aB.length (fP l x) (fun k hk=>by
  have e2:l.aB[k]?=some l.aB[k]:=l8 hk
  have hd:decide ((k:Int)<(l.aB.length:Int))=true:=by simp [hk]
  obtain ⟨b,hb⟩:=Vq l.aB[k].aD (Is.mk x.gC.X x.gC.Y) (by have:=r12 _ (m5 e2);omega)
  unfold fP
  simp only [hd,if_true,aW e2,i9,hb,bG k (by omega)]
  cases b <;> simp) ⟨.inr (),by simp [fP]⟩
def VN (s:Is) (g:eE):Int:=imax (imax (imax (imax 0 (aK g.X1 s.X)) (aK s.X g.X2)) (aK g.Y1 s.Y)) (aK s.Y g.Y2)
def AQ (es:List bC) (c:List Bool) (p:Int) (s:Is) (i:Nat):Bool:=match es[i]?,c[i]? with
 | some e,some b=>ofB e p&&(!b&&decide (VN s e.Line≤7200))
 | _,_=>false
theorem Wr {es:List bC} (hes:es.length≤1000000) {st:RS} (hc:st.Cut.length=es.length) (x:cF):aM (rG st es x) 0=some (if (s9 es.length).any (AQ es st.Cut x.aS x.gC) then .inl () else .inr ()):=by
 refine yB es.length (rG st es x) (fun k=>(k:Int)) (AQ es st.Cut x.aS x.gC) _ _ rfl (fun k hk=>?_) ?_
 ·have e1:es[k]?=some es[k]:=l8 hk
  have e2:st.Cut[k]?=some (st.Cut[k]'(by omega)):=l8 (by omega)
  have e2':st.Cut[k]?=some (st.Cut[k]'(by omega)):=e2
  have e3:BX (Is.mk x.gC.X x.gC.Y) es[k].Line=some (VN x.gC es[k].Line):=rfl
  unfold rG AQ
  have hd:decide ((k:Int)<(es.length:Int))=true:=by simp [hk]
  simp only [hd,if_true,aW e1,aW e2',e1,e2,i9,of_eq,e3,bG k (by omega)]
  cases ofB es[k] x.aS <;> cases st.Cut[k]'(by omega) <;> simp
 ·simp [rG]
theorem MW {l:aV} (hl:LV l) {es:List bC} (hes:es.length≤1000000) {st:RS} (hc:st.Cut.length=es.length) (x:cF) (hx:x.nK<0):∃ b,gQ st l es x=some b:=by
 have n1:=hl.sh.n1
 obtain ⟨r,r1⟩:=Vq l.aT.bO (Is.mk x.gC.X x.gC.Y) (by omega)
 obtain ⟨b,b1⟩:=FH l hl.n hl.r12 x
 have c1:=Wr hes hc x
 have h0:decide (x.nK ≥ 0)=false:=by simp;omega
 unfold gQ
 simp only [h0,j9,if_false,b1,c1,r1,i9]
 cases decide (x.gC.X<0) <;> cases decide (x.gC.X>l.aT.dQ) <;> cases decide (x.gC.Y<0) <;> cases decide (x.gC.Y>l.aT.cE) <;> cases r <;> cases b <;> cases (s9 es.length).any (AQ es st.Cut x.aS x.gC) <;> exact ⟨_,rfl⟩
def mark (n:Nat) (q:Nat→Bool) (c:List Bool):List Bool:=(s9 n).map fun i=>q i || c.getD i false
theorem pT (n:Nat) (q:Nat→Bool) (c:List Bool):(mark n q c).length=n:=by simp [mark]
theorem Ee {n:Nat} (q:Nat→Bool) {c:List Bool} {i:Nat} (hi:i<n):(mark n q c)[i]?=some (q i || c.getD i false):=by
 unfold mark;rw [p8,List.getElem?_range hi];rfl
theorem Sw {n:Nat} {c:List Bool} (hc:c.length=n):mark n (fun _=>false) c=c:=by
 refine G0 fun i=>?_
 by_cases hi:i<n
 ·rw [Ee _ hi,Bool.false_or,m8,l8 (by omega)];rfl
 ·rw [s5 (by rw [pT];omega),s5 (by omega)]
theorem Sv {n:Nat} {q:Nat→Bool} {c:List Bool} {k:Nat}:mark n (fun i=>decide (i<k+1)&&q i) c=if q k then (mark n (fun i=>decide (i<k)&&q i) c).set k true else mark n (fun i=>decide (i<k)&&q i) c:=by
 refine G0 fun i=>?_
 by_cases hi:i<n
 ·rw [Ee _ hi]
  split
  ·rename_i hq
   rw [G6]
   by_cases e:k=i
   ·subst e
    rw [if_pos rfl,if_pos (by rw [pT];exact hi)]
    simp [hq]
   ·rw [if_neg e,Ee _ hi]
    have:decide (i<k+1)=decide (i<k):=by simp;omega
    rw [this]
  ·rename_i hq
   rw [Ee _ hi]
   by_cases e:k=i
   ·subst e
    have:q k=false:=by simpa using hq
    simp [this]
   ·have:decide (i<k+1)=decide (i<k):=by simp;omega
    rw [this]
 ·have h2:∀ l:List Bool,l.length=n→l[i]?=none:=fun l hl=>s5 (by omega)
  rw [h2 _ (pT _ _ _)]
  split
  ·rw [h2 _ (by rw [v8,pT])]
  ·rw [h2 _ (pT _ _ _)]
theorem AO {n:Nat} (body:Int×List Bool→Option (Int×List Bool ⊕ List Bool)) (q:Nat→Bool) {c:List Bool} (hc:c.length=n) (step:∀ (k:Nat) (c':List Bool),k<n→c'.length=n→body ((k:Int),c')=some (.inl (((k+1:Nat):Int),if q k then c'.set k true else c'))) (fin:∀ c':List Bool,c'.length=n→body ((n:Int),c')=some (.inr c')) :
  aM body (0,c)=some (mark n q c):=by
 have key:=gN (s9 n) body (fun k=>((k:Int),mark n (fun i=>decide (i<k)&&q i) c)) (mark n q c) (fun k x hx=>?_) ?_
 ·have e0:mark n (fun i=>decide (i<0)&&q i) c=c:=by
   rw [show (fun i=>decide (i<0)&&q i)=fun _=>false from funext fun i=>by simp]
   exact Sw hc
  rw [e0] at key
  exact key
 ·have hk:k<n:=by have:=aX hx;simpa using this
  rw [step k _ hk (pT _ _ _),Sv]
 ·rw [J8,fin _ (pT _ _ _)]
  congr 2
  unfold mark
  refine G1 fun i hi=>?_
  have:=F5.1 hi
  simp [this]
theorem DS {s:RS} (h:SL1 s):Em s=some s:=by
 have h1:=h.c;have h2:=h.d;have h3:=h.j;have h4:=h.f;have h5:=h.h
 have ap:∀ {α:Type} {l:List α},l.length≤1048576→app [] l=some l:=fun {α l} hl=>by rw [iF (by unfold LIM;simp;omega)];rfl
 have key:aM (lW s) (0,[])=some s.bJ:=by
  have:=AM s.bJ (fun t=>t) (lW s) h5 (fun k t acc ht=>?_) (fun acc=>?_)
  ·rw [this,List.map_id']
  ·have hk:=aX ht
   have ht':s.bJ[k]?=some t:=ht
   unfold lW
   have hd:decide ((k:Int)<(s.bJ.length:Int))=true:=by show decide ((k:Int)<(s.bJ.length:Int))=true;simp [hk]
   have e:∀ f:List Bool→Option (Int×List (List Bool) ⊕ List (List Bool)),(app [] t).bind f=f t:=fun f=>by rw [ap (h.hh t (m5 ht))];rfl
   simp only [hd,if_true,aW ht',i9,bG k (by omega)]
   exact e _
  ·unfold lW
   have:¬ (s.bJ.length:Int)<(s.bJ.length:Int):=by show ¬ (s.bJ.length:Int)<(s.bJ.length:Int);omega
   simp [this]
 show (app [] s.Cut).bind (fun r9=>(app [] s.eV).bind fun r10=>(app [] s.bL).bind fun r11=>(app [] s.bE).bind fun r12=>(aM (lW s) (0,[])).bind fun x114=>some (bW.mk r9 x114 r10 r11 r12))=_
 rw [ap h1,ap h2,ap h3,ap h4]
 simp only [i9,key]
def EF (es:List bC) (c D:List Bool) (J:List Int) (i:Nat):Bool:=Ew es c (i:Int)&&!(D.getD i false&&decide (J.getD i 0>0))
def fell (n:Nat) (es:List bC) (c:List Bool) (D:List Bool) (J:List Int) (F:List Bool):List Bool:=mark n (EF es c D J) F
def EO (n:Nat) (es:List bC) (s:RS) (p h:Nat) (t:List Bool):RS:=⟨s.Cut,s.bJ.set p (t.set h true),s.eV,s.bL,fell n es s.Cut s.eV s.bL s.bE⟩
def El (es:List bC) (p:Int) (i:Nat):Bool:=match es[i]? with
 | some e=>ofB e p
 | none=>false
def XL (n:Nat) (es:List bC) (s:RS) (p:Nat) (j:Int):RS:=
 ⟨mark es.length (El es (p:Int)) s.Cut,s.bJ,s.eV.set p true,s.bL.set p j,fell n es (mark es.length (El es (p:Int)) s.Cut) (s.eV.set p true) (s.bL.set p j) s.bE⟩
section
variable {l:aV} (n8:l.aB.length≤8) {es:List bC} (hes:es.length≤1000000)
include n8 hes
theorem AA {c:List Bool} (hc:c.length=es.length) (H:List (List Bool)) {D:List Bool} (hD:D.length=l.aB.length) {J:List Int} (hJ:J.length=l.aB.length) {F:List Bool} (hF:F.length=l.aB.length) :
  aM (Fw l es (c,H,D,J)) (0,F)=some (fell l.aB.length es c D J F):=by
 have core:∀ k,k<l.aB.length→∃ d j,D[k]?=some d∧J[k]?=some j∧D.getD k false=d∧J.getD k 0=j:=fun k hk=>by
  have e1:D[k]?=some (D[k]'(by omega)):=l8 (by omega)
  have e2:J[k]?=some (J[k]'(by omega)):=l8 (by omega)
  exact ⟨_,_,e1,e2,nF e1,nF e2⟩
 refine AO (Fw l es (c,H,D,J)) (EF es c D J) hF (fun k c' hk hc'=>?_) (fun c' _=>by simp [Fw])
 obtain ⟨d,j,e1,e2,e3,e4⟩:=core k hk
 have e5:c'[k]?=some (c'[k]'(by omega)):=l8 (by omega)
 unfold Fw EF
 have hd:decide ((k:Int)<(l.aB.length:Int))=true:=by simp [hk]
 simp only [hd,if_true,CB hes hc,i9,aW e1,aW e2,e3,e4,aW e5,Nl,bG k (by omega),y9]
 cases Ew es c (k:Int) <;> cases d <;> cases decide (j>0) <;> rfl
omit n8 in
theorem PK {c:List Bool} (hc:c.length=es.length) (x:cF) {p:Nat} (hp:x.aS=p):aM (Jn es x) (0,c)=some (mark es.length (El es (p:Int)) c):=by
 refine AO (Jn es x) (El es (p:Int)) hc (fun k c' hk hc'=>?_) (fun c' _=>by simp [Jn])
 have e1:es[k]?=some es[k]:=l8 hk
 have e5:c'[k]?=some (c'[k]'(by omega)):=l8 (by omega)
 unfold Jn El
 have hd:decide ((k:Int)<(es.length:Int))=true:=by simp [hk]
 simp only [hd,if_true,aW e1,e1,i9,of_eq,hp,aW e5,Nn,bG k (by omega),y9]
 cases ofB es[k] (p:Int) <;> rfl
end
inductive vJ (l:aV) (es:List bC) (s:RS) (x:cF):RS→Prop
 | hole {p h:Nat} {y:aS} {t:List Bool} (hp:x.aS=p) (hh:x.nK=h) (hj:x.bL=0) (hy:l.aB[p]?=some y) (hf:s.bE[p]?=some false) (ht:s.bJ[p]?=some t) (hb:t[h]?=some false):vJ l es s x (EO l.aB.length es s p h t)
 | line {p:Nat} {y:aS} {t:List Bool} (hp:x.aS=p) (hh:x.nK=-1) (hj:0≤x.bL∧x.bL≤4) (hy:l.aB[p]?=some y) (hf:s.bE[p]?=some false) (hd:s.eV[p]?=some false) (ht:s.bJ[p]?=some t) (ha:(t.all fun b=>b)=true) (hn:Ew es s.Cut (p:Int)=false):vJ l es s x (XL l.aB.length es s p x.bL)
section
variable {l:aV} (hl:LV l) {es:List bC} (hes:es.length≤1000000) {s:RS} (hs:SL1 s) {x:cF} (fit:Fit l es.length s)
include hl hes hs fit
theorem JV {p h:Nat} {y:aS} {t:List Bool} (hp:x.aS=p) (hh:x.nK=h) (hj:x.bL=0) (hy:l.aB[p]?=some y) (hf:s.bE[p]?=some false) (ht:s.bJ[p]?=some t) (hb:t[h]?=some false) (hle:gQ s l es x=some true):lX l es s x=some (EO l.aB.length es s p h t,0):=by
 obtain ⟨b,f1,f3⟩:=CA hl.n es.length hs
 obtain rfl:=f3.2 fit
 have hpl:=aX hy
 have b2:¬ ((p:Nat):Int) ≥ (l.aB.length:Int):=by omega
 have b1:¬ ((p:Nat):Int)<0:=by omega
 have b3:¬ ((h:Nat):Int) < -1:=by omega
 have b5:((h:Nat):Int) ≥ 0:=by omega
 have b6:¬ ((h:Nat):Int)<0:=by omega
 have b4:¬ ((h:Nat):Int) ≥ (y.bQ.length:Int):=by have:=fit.hh p t y ht hy;have:=aX hb;omega
 have l1:=AA (l:=l) hl.n hes fit.c (s.bJ.set p (t.set h true)) fit.d fit.j fit.f
 have l1':aM (Fw l es (s.Cut,m7 s.bJ p (m7 t h true),s.eV,s.bL)) (0,s.bE)=some (fell l.aB.length es s.Cut s.eV s.bL s.bE):=l1
 unfold lX kU Jm
 simp only [f1,hle,DS hs,hp,hh,hj,b1,b2,b3,b4,b5,b6,aW hy,aW hf,aW ht,aW hb,decide_true,decide_false,if_true,j9,if_false,i9,E0,u5,bne_self_eq_false,y9,l1',show ¬ (0:Int)<0 by omega,show ¬ (0:Int)>4 by omega]
 rfl
theorem JW {p:Nat} {y:aS} {t:List Bool} (hp:x.aS=p) (hh:x.nK=-1) (hj:0≤x.bL∧x.bL≤4) (hy:l.aB[p]?=some y) (hf:s.bE[p]?=some false) (hd:s.eV[p]?=some false) (ht:s.bJ[p]?=some t) (ha:(t.all fun b=>b)=true) (hn:Ew es s.Cut (p:Int)=false) (hsm:x.bL=0→Ae y=false) (hle:gQ s l es x=some true):lX l es s x=some (XL l.aB.length es s p x.bL,0):=by
 obtain ⟨b,f1,f3⟩:=CA hl.n es.length hs
 obtain rfl:=f3.2 fit
 have hpl:=aX hy
 have b1:¬ ((p:Nat):Int)<0:=by omega
 have b2:¬ ((p:Nat):Int) ≥ (l.aB.length:Int):=by omega
 have b4:¬ (-1:Int) ≥ (y.bQ.length:Int):=by omega
 have b5:¬ x.bL<0:=by omega
 have b6:¬ x.bL>4:=by omega
 have hjn:s.bL[p]?=some (s.bL[p]'(by have:=fit.j;omega)):=l8 (by have:=fit.j;omega)
 have fr:pP s es (p:Int)=some (Ew es s.Cut (p:Int)):=CB hes fit.c (p:Int) s.bJ s.eV s.bL s.bE
 have c1:=PK hes fit.c x hp
 have g1:=AA (l:=l) hl.n hes (pT es.length (El es (p:Int)) s.Cut) s.bJ (D:=s.eV.set p true) (by rw [v8];exact fit.d) (J:=s.bL.set p x.bL) (by rw [v8];exact fit.j) fit.f
 have sm:(if (x.bL==0)=true then (vE y).bind fun r30=>some r30 else some false)=some false:=by
  by_cases q:x.bL=0
  ·rw [Vu y (by have:=hl.r12 y (m5 hy);omega),hsm q];simp [q]
  ·simp [q]
 unfold lX kU Jm
 simp only [f1,hle,DS hs,hp,hh,b1,b2,b4,b5,b6,aW hy,aW hf,aW hd,aW ht,aW hjn,Az t (hs.hh t (m5 ht)),ha,fr,hn,sm,c1,g1,decide_true,decide_false,if_true,j9,if_false,i9,E0,u5,y9,show ¬ (-1:Int) < -1 by omega,show ¬ (-1:Int) ≥ 0 by omega,show (-1:Int)<0 by omega]
 rfl
end
theorem YR {l:aV} (hl:LV l) {es:List bC} (hes:es.length≤1000000) {s:RS} (hs:SL1 s) (x:cF):∃ e s',lX l es s x=some (s',e)∧(e≠0→s'=noS)∧(e=0→Fit l es.length s∧vJ l es s x s'):=by
 obtain ⟨b,f1,f3⟩:=CA hl.n es.length hs
 have bad:∀ {e:Int} {s':RS},s'=noS→e≠0→((e≠0→s'=noS)∧(e=0→Fit l es.length s∧vJ l es s x s')):=fun h1 h2=>⟨fun _=>h1,fun q=>absurd q h2⟩
 cases b with
 | false=>exact ⟨1,noS,by unfold lX;rw [f1];rfl,bad rfl (by decide)⟩
 | true =>
 have fit:=f3.1 rfl
 by_cases a1:x.aS<0
 ·exact ⟨1,noS,by unfold lX;simp [f1,a1];rfl,bad rfl (by decide)⟩
 by_cases a2:x.aS ≥ (l.aB.length:Int)
 ·exact ⟨1,noS,by unfold lX;simp [f1,a1,a2];rfl,bad rfl (by decide)⟩
 obtain ⟨p,hp⟩:∃ p:Nat,x.aS=p:=⟨x.aS.toNat,by omega⟩
 have hy:l.aB[p]?=some (l.aB[p]'(by omega)):=l8 (by omega)
 have hf:s.bE[p]?=some (s.bE[p]'(by have:=fit.f;omega)):=l8 (by have:=fit.f;omega)
 have ht:s.bJ[p]?=some (s.bJ[p]'(by have:=fit.h;omega)):=l8 (by have:=fit.h;omega)
 have hd:s.eV[p]?=some (s.eV[p]'(by have:=fit.d;omega)):=l8 (by have:=fit.d;omega)
 generalize l.aB[p]'(by omega)=y at hy
 generalize s.bE[p]'(by have:=fit.f;omega)=fl at hf
 generalize s.bJ[p]'(by have:=fit.h;omega)=t at ht
 generalize s.eV[p]'(by have:=fit.d;omega)=dn at hd
 have htl:=fit.hh p t y ht hy
 have htm:=hs.hh t (m5 ht)
 by_cases a3:x.nK < -1
 ·exact ⟨1,noS,by unfold lX;simp [f1,a1,a2,a3];rfl,bad rfl (by decide)⟩
 have iy:idx l.aB x.aS=some y:=by rw [hp];exact aW hy
 by_cases a4:x.nK ≥ (y.bQ.length:Int)
 ·exact ⟨1,noS,by unfold lX;simp [f1,a1,a2,a3,iy,a4];rfl,bad rfl (by decide)⟩
 by_cases a5:x.bL<0
 ·exact ⟨1,noS,by unfold lX;simp [f1,a1,a2,a3,iy,a4,a5];rfl,bad rfl (by decide)⟩
 by_cases a6:x.bL>4
 ·exact ⟨1,noS,by unfold lX;simp [f1,a1,a2,a3,iy,a4,a5,a6];rfl,bad rfl (by decide)⟩
 by_cases a7:x.nK ≥ 0
 ·by_cases a8:x.bL=0
  case neg=>exact ⟨1,noS,by unfold lX;simp [f1,a1,a2,a3,iy,a4,a5,a6,a7,a8];rfl,bad rfl (by decide)⟩
  obtain ⟨h,hh⟩:∃ h:Nat,x.nK=h:=⟨x.nK.toNat,by omega⟩
  have hb:t[h]?=some (t[h]'(by omega)):=l8 (by omega)
  have hc:y.bQ[h]?=some (y.bQ[h]'(by omega)):=l8 (by omega)
  generalize t[h]'(by omega)=bh at hb
  generalize y.bQ[h]'(by omega)=cr at hc
  have a9:¬ x.nK<0:=by omega
  have ord:kU s es x=some (!fl&&!bh):=by
   unfold kU
   simp only [hp,aW hf,aW ht,hh,aW hb,show ((h:Nat):Int) ≥ 0 by omega,decide_true,if_true,i9]
   cases fl <;> simp
  have led:∃ b,gQ s l es x=some b:=by
   unfold gQ
   simp only [hp,aW hy,hh,aW hc,show ((h:Nat):Int) ≥ 0 by omega,decide_true,if_true,i9]
   cases decide (x.gC.X>cr.X) <;> cases decide (x.gC.X<aQ cr.X cr.W) <;> cases decide (x.gC.Y>cr.Y) <;> exact ⟨_,rfl⟩
  obtain ⟨b,hb2⟩:=led
  cases fl with
  | true=>exact ⟨12,noS,by unfold lX;simp [f1,a1,a2,a3,iy,a4,a5,a6,a7,a8,ord];rfl,bad rfl (by decide)⟩
  | false =>
  cases bh with
  | true=>exact ⟨12,noS,by unfold lX;simp [f1,a1,a2,a3,iy,a4,a5,a6,a7,a8,ord];rfl,bad rfl (by decide)⟩
  | false =>
  cases b with
  | false=>exact ⟨14,noS,by unfold lX;simp [f1,a1,a2,a3,iy,a4,a5,a6,a7,a8,a9,ord,hb2];rfl,bad rfl (by decide)⟩
  | true=>exact ⟨0,_,JV hl hes hs fit hp hh a8 hy hf ht hb hb2,fun q=>absurd rfl q,fun _=>⟨fit,.hole hp hh a8 hy hf ht hb⟩⟩
 ·have hm1:x.nK=-1:=by omega
  have n7:x.nK<0:=by omega
  obtain ⟨lb,hle⟩:=MW hl hes fit.c x n7
  have fr:pP s es (p:Int)=some (Ew es s.Cut (p:Int)):=CB hes fit.c (p:Int) s.bJ s.eV s.bL s.bE
  have ord:kU s es x=some (!fl&&(!dn&&((t.all fun b=>b)&&!Ew es s.Cut (p:Int)))):=by
   unfold kU
   simp only [hp,aW hf,aW ht,aW hd,a7,Az t htm,fr,decide_false,j9,if_false,i9]
   cases fl <;> cases dn <;> cases (t.all fun b=>b) <;> simp
  have ss:=Vu y (by have:=hl.r12 y (m5 hy);omega)
  cases ho:(!fl&&(!dn&&((t.all fun b=>b)&&!Ew es s.Cut (p:Int)))) with
  | false=>rw [ho] at ord;exact ⟨12,noS,by unfold lX;simp [f1,a1,a2,a3,iy,a4,a5,a6,a7,ord];rfl,bad rfl (by decide)⟩
  | true =>
  rw [ho] at ord
  simp only [o8,F2] at ho
  obtain ⟨rfl,rfl,ha,hn⟩:=ho
  by_cases hq:x.bL=0∧Ae y=true
  ·exact ⟨15,noS,by unfold lX;simp [f1,a1,a2,a3,iy,a4,a5,a6,a7,n7,ord,hq.1,ss,hq.2];rfl,bad rfl (by decide)⟩
  have hsm:x.bL=0→Ae y=false:=fun q=>by
   cases e:Ae y with
   | false=>rfl
   | true=>exact absurd ⟨q,e⟩ hq
  cases lb with
  | false =>
    have sm:(if (x.bL==0)=true then (vE y).bind fun r30=>some r30 else some false)=some false:=by
     by_cases q:x.bL=0
     ·rw [ss,hsm q];simp [q]
     ·simp [q]
    exact ⟨14,noS,by unfold lX;simp only [f1,a1,a2,a3,iy,a4,a5,a6,a7,n7,ord,sm,hle,decide_true,decide_false,if_true,j9,if_false,i9,u5,E0];rfl,bad rfl (by decide)⟩
  | true=>exact ⟨0,_,JW hl hes hs fit hp hm1 (by omega) hy hf hd ht ha hn hsm hle,fun q=>absurd rfl q,fun _=>⟨fit,.line hp hm1 (by omega) hy hf hd ht ha hn⟩⟩
def st0 (l:aV) (n:Nat):RS:=⟨q8 n false,l.aB.map fun x=>q8 x.bQ.length false,q8 l.aB.length false,q8 l.aB.length 0,q8 l.aB.length false⟩
theorem mk_eq {α:Type} (n:Nat) (z:α) (h:n≤1048576):mk (n:Int) z=some (q8 n z):=by
 unfold mk
 rw [if_pos ⟨by omega,by simp [LIM];omega⟩,y9]
section
variable {l:aV} (n8:l.aB.length≤8) (hc:∀ x ∈ l.aB,x.bQ.length≤1048576)
include n8 hc
theorem FX (n:Nat) (hn:n≤200000):Ck l (n:Int)=some (st0 l n):=by
 have key:aM (Bf l) (0,[])=some (l.aB.map fun x=>q8 x.bQ.length false):=by
  refine AM l.aB (fun x=>q8 x.bQ.length false) (Bf l) (by omega) (fun k x acc hx=>?_) (fun acc=>by simp [Bf])
  have hk:=aX hx
  unfold Bf
  have hd:decide ((k:Int)<(l.aB.length:Int))=true:=by simp [hk]
  simp only [hd,if_true,aW hx,i9,mk_eq _ false (hc x (m5 hx)),bG k (by omega)]
 unfold Ck
 rw [mk_eq n false (by omega),mk_eq _ false (show l.aB.length≤1048576 by omega),mk_eq _ (0:Int) (show l.aB.length≤1048576 by omega)]
 simp only [i9,key]
 rfl
omit n8 hc in
theorem Od (n:Nat):Fit l n (st0 l n):=by
 refine ⟨by simp [st0],by simp [st0],by simp [st0],by simp [st0],by simp [st0],fun k t x h1 h2=>?_⟩
 have:(st0 l n).bJ[k]?=some (q8 x.bQ.length false):=by
  show (l.aB.map fun x=>q8 x.bQ.length false)[k]?=_
  rw [p8,h2];rfl
 rw [this] at h1
 injection h1 with h1
 rw [← h1,List.length_replicate]
end
theorem Jr {l:aV} {es:List bC} {s s':RS} {x:cF} (hd:vJ l es s x s') (hf:Fit l es.length s):Fit l es.length s':=by
 cases hd with
 | @hole p h y t hp hh hj hy hfl ht hb =>
   refine ⟨hf.c,by show (s.bJ.set p _).length=_;rw [v8];exact hf.h,hf.d,hf.j,pT _ _ _,fun k u z h1 h2=>?_⟩
   have h1':(s.bJ.set p (t.set h true))[k]?=some u:=h1
   rw [G6] at h1'
   split at h1'
   ·rename_i e
    subst e
    split at h1'
    ·injection h1' with h1'
     rw [← h1',v8]
     exact hf.hh p t z ht h2
    ·cases h1'
   ·exact hf.hh k u z h1' h2
 | @line p y t hp hh hj hy hfl hdn ht ha hn =>
   exact ⟨pT _ _ _,hf.h,by show (s.eV.set p true).length=_;rw [v8];exact hf.d,by show (s.bL.set p x.bL).length=_;rw [v8];exact hf.j,pT _ _ _,hf.hh⟩
theorem GX {l:aV} (n8:l.aB.length≤8) (hc:∀ x ∈ l.aB,x.bQ.length≤1048576) {n:Nat} (hn:n≤200000) {s:RS} (hf:Fit l n s):SL1 s:=by
 have h1:=hf.c;have h2:=hf.d;have h3:=hf.j;have h4:=hf.f;have h5:=hf.h
 refine ⟨by omega,by omega,fun t ht=>?_,by omega,by omega,by omega⟩
 obtain ⟨k,hk⟩:=u6.1 ht
 have hkl:=aX hk
 have hx:l.aB[k]?=some (l.aB[k]'(by omega)):=l8 (by omega)
 rw [hf.hh k t _ hk hx]
 exact hc _ (m5 hx)
theorem JS {l:aV} (h:LB l):∀ x ∈ l.aB,x.bQ.length≤1048576:=fun x hx=>(h.2 x hx).2.1.1
structure Step (l:aV) (es:List bC) (s:RS) (x:cF) (s':RS):Prop where
 d:vJ l es s x s'
 c:lX l es s x=some (s',0)
structure Zp (l:aV) (es:List bC) (s:RS) (x:cF) (e:Int):Prop where
 n:e≠0
 c:lX l es s x=some (noS,e)
inductive Steps (l:aV) (es:List bC):RS→List cF→List RS→Prop
 | nil (s:RS):Steps l es s [] []
 | cons {s s':RS} {x:cF} {xs:List cF} {ss:List RS} (h:Step l es s x s') (t:Steps l es s' xs ss):Steps l es s (x::xs) (s'::ss)
def jA:RS→List RS→RS
 | s,[]=>s
 | _,s'::ss=>jA s' ss
def Qw {E:Type} (up:RS→RS→E→E):RS→List RS→E→E
 | _,[],e=>e
 | s,s'::ss,e=>Qw up s' ss (up s s' e)
theorem Steps.len {l:aV} {es:List bC} {s:RS} {xs:List cF} {ss:List RS} (h:Steps l es s xs ss):ss.length=xs.length:=by
 induction h with
 | nil=>rfl
 | cons _ _ ih=>simp [ih]
section
variable {l:aV} (hl:LV l) (hc:∀ x ∈ l.aB,x.bQ.length≤1048576) {es:List bC} (hes:es.length≤200000)
include hl hc hes
theorem UA {s:RS} (hf:Fit l es.length s) (x:cF):(∃ e,Zp l es s x e)∨∃ s',Step l es s x s'∧Fit l es.length s':=by
 obtain ⟨e,s',h1,h2,h3⟩:=YR hl (show es.length≤1000000 by omega) (GX hl.n hc hes hf) x
 by_cases he:e=0
 ·subst he
  exact .inr ⟨s',⟨(h3 rfl).2,h1⟩,Jr (h3 rfl).2 hf⟩
 ·rw [h2 he] at h1
  exact .inl ⟨e,he,h1⟩
theorem LA:∀ (xs:List cF) (s:RS),Fit l es.length s→(∃ ss,Steps l es s xs ss)∨∃ pre x post ss e,xs=pre++x::post∧Steps l es s pre ss∧Zp l es (jA s ss) x e
 | [],s,_=>.inl ⟨[],.nil s⟩
 | x::xs,s,hf=>by
   rcases UA hl hc hes hf x with ⟨e,h⟩ | ⟨s',h,hf'⟩
   ·exact .inr ⟨[],x,xs,[],e,rfl,.nil s,h⟩
   ·rcases LA xs s' hf' with ⟨ss,h2⟩ | ⟨pre,y,post,ss,e,rfl,h2,h3⟩
    ·exact .inl ⟨_,.cons h h2⟩
    ·exact .inr ⟨x::pre,y,post,s'::ss,e,rfl,.cons h h2,h3⟩
omit hl hc hes in
theorem Tl {s:RS} {xs:List cF} {ss:List RS} (h:Steps l es s xs ss):Fit l es.length s→Fit l es.length (jA s ss)∧∀ t ∈ ss,Fit l es.length t:=by
 induction h with
 | nil s=>exact fun hf=>⟨hf,fun t ht=>by cases ht⟩
 | cons h _ ih =>
   intro hf
   have h1:=Jr h.d hf
   obtain ⟨a,b⟩:=ih h1
   refine ⟨a,fun t ht=>?_⟩
   cases ht with
   | head=>exact h1
   | tail _ ht=>exact b t ht
end
section
variable {l:aV} {es:List bC} {items:List cF} {E S R:Type} (mk:Nat→RS→E→S) (body:S→Option (S ⊕ R)) (up:RS→RS→E→E) (I:Nat→RS→E→Prop)
variable (step:∀ k x s s' e,items[k]?=some x→Step l es s x s'→Fit l es.length s→I k s e→body (mk k s e)=some (.inl (mk (k+1) s' (up s s' e)))∧I (k+1) s' (up s s' e))
include step
theorem IJ {xs:List cF} {s:RS} {ss:List RS} (h:Steps l es s xs ss):∀ (k:Nat) (e:E) (post:List cF),items.drop k=xs++post→Fit l es.length s→I k s e→aM body (mk k s e)=aM body (mk (k+xs.length) (jA s ss) (Qw up s ss e))∧I (k+xs.length) (jA s ss) (Qw up s ss e):=by
 induction h with
 | nil s=>exact fun k e post _ _ hI=>⟨rfl,hI⟩
 | @cons s s' x xs ss h _ ih =>
   intro k e post hd hf hI
   have hx:items[k]?=some x:=by
    have:(items.drop k)[0]?=some x:=by rw [hd];rfl
    rwa [E8,Nat.add_zero] at this
   obtain ⟨h1,h2⟩:=step k x s s' e hx h hf hI
   have hd':items.drop (k+1)=xs++post:=by
    have:(items.drop k).drop 1=xs++post:=by rw [hd];rfl
    rwa [List.drop_drop] at this
   obtain ⟨g1,g2⟩:=ih (k+1) _ post hd' (Jr h.d hf) h2
   have e1:k+(x::xs).length=k+1+xs.length:=by simp;omega
   rw [e1]
   refine ⟨?_,g2⟩
   rw [iY h1,g1];rfl
theorem SY (fin:RS→E→R) (hfin:∀ s e,body (mk items.length s e)=some (.inr (fin s e))) {s:RS} {ss:List RS} (h:Steps l es s items ss) (e:E) (hf:Fit l es.length s) (hI:I 0 s e):aM body (mk 0 s e)=some (fin (jA s ss) (Qw up s ss e)):=by
 obtain ⟨g,_⟩:=IJ mk body up I step h 0 e [] (by simp) hf hI
 rw [g,Nat.zero_add]
 exact dK (hfin _ _)
theorem WN (err:Nat→Int→RS→E→R) (herr:∀ k x s e c,items[k]?=some x→Zp l es s x c→I k s e→body (mk k s e)=some (.inr (err k c s e))) {s:RS} {pre post:List cF} {x:cF} {ss:List RS} {c:Int} (hi:items=pre++x::post) (h:Steps l es s pre ss) (hs:Zp l es (jA s ss) x c) (e:E) (hf:Fit l es.length s) (hI:I 0 s e):aM body (mk 0 s e)=some (err pre.length c (jA s ss) (Qw up s ss e)):=by
 obtain ⟨g,g2⟩:=IJ mk body up I step h 0 e (x::post) (by simp [hi]) hf hI
 rw [Nat.zero_add] at g g2
 rw [g]
 refine dK (herr _ x _ _ _ ?_ hs g2)
 rw [hi,x8 (v7 _)];simp
end
theorem VZ {l:aV} {es:List bC} {x:cF} {e:Int}:∀ (pre xs:List cF) (post:List cF) (s:RS) (ss ss':List RS),Steps l es s xs ss→xs=pre++x::post→Steps l es s pre ss'→Zp l es (jA s ss') x e→False:=by
 intro pre
 induction pre with
 | nil =>
   intro xs post s ss ss' a b c d
   cases c
   subst b
   cases a with
   | cons a1 _=>have:=a1.c;rw [show jA s []=s from rfl] at d;rw [d.c] at this;injection this with this;injection this with _ this;exact d.n this
 | cons y pre ih =>
   intro xs post s ss ss' a b c d
   subst b
   cases c with
   | cons c1 c2 =>
     cases a with
     | cons a1 a2 =>
       have e3:=a1.c;rw [c1.c] at e3;injection e3 with e3;injection e3 with e3 _
       subst e3
       exact ih _ post _ _ _ a2 rfl c2 d
theorem OG {l:aV} {es:List bC} {s:RS} {xs:List cF} {ss:List RS} (h:Steps l es s xs ss):∀ {ss':List RS},Steps l es s xs ss'→ss=ss':=by
 induction h with
 | nil s=>intro ss' h;cases h;rfl
 | cons h _ ih =>
   intro ss' g
   cases g with
   | cons g1 g2 =>
     have e:=h.c;rw [g1.c] at e;injection e with e;injection e with e _
     subst e
     rw [ih g2]
structure Ran (l:aV) (items:List cF) (es:List bC) (ss:List RS):Prop where
 v:LV l
 c:∀ x ∈ l.aB,x.bQ.length≤1048576
 e1:tB l=some (es,0)
 e2:Cj l=some es
 n:es.length≤200000
 g:∃ xs ys,Lay (gA l) xs ys∧es=Ju (gA l) xs ys
 k:items.length≤128
 s:Steps l es (st0 l es.length) items ss
 a1:Ck l (es.length:Int)=some (st0 l es.length)
section
variable {l:aV} {es:List bC} {items:List cF} (h128:items.length≤128)
include h128
theorem Tt (k:Nat) (x:cF) (s s':RS) (hx:items[k]?=some x) (h:Step l es s x s'):dZ l items (es,0) ((k:Int),s.bJ,s.Cut,s.eV,s.bL,s.bE)=some (.inl (((k+1:Nat):Int),s'.bJ,s'.Cut,s'.eV,s'.bL,s'.bE)):=by
 have hk:=aX hx
 unfold dZ
 have hd:decide ((k:Int)<(items.length:Int))=true:=by simp [hk]
 have hc:lX l es ⟨s.Cut,s.bJ,s.eV,s.bL,s.bE⟩ x=some (s',0):=h.c
 simp only [hd,if_true,aW hx,i9,hc,bne_self_eq_false,j9,if_false,bG k (show (k:Int)<9223372036854775807 by omega)]
 rfl
omit h128 in
theorem DY (k:Nat) (x:cF) (s:RS) (c:Int) (hx:items[k]?=some x) (h:Zp l es s x c):dZ l items (es,0) ((k:Int),s.bJ,s.Cut,s.eV,s.bL,s.bE)=some (.inr (.inl ((k:Int),c))):=by
 have hk:=aX hx
 unfold dZ
 have hd:decide ((k:Int)<(items.length:Int))=true:=by simp [hk]
 have hc:lX l es ⟨s.Cut,s.bJ,s.eV,s.bL,s.bE⟩ x=some (noS,c):=h.c
 have hn:(c != 0)=true:=by rw [bne_iff_ne];exact h.n
 simp only [hd,if_true,aW hx,i9,hc,hn]
end
theorem YC (l:aV) (h:LB l) (items:List cF):∃ s k e,Ni l items=some (s,k,e,s.bJ)∧(e=0→k=0∧∃ es ss,Ran l items es ss∧s=jA (st0 l es.length) ss) ∧
  (∀ es ss,tB l=some (es,0)→items.length≤128→Steps l es (st0 l es.length) items ss→e=0):=by
 obtain ⟨es,b,v1,e1,e3,e5⟩:=DB l h
 have hc:=JS h
 unfold Ni zY
 rw [e1]
 simp only [i9]
 by_cases hb:b=0
 case neg =>
  have hb':(b != 0)=true:=by rw [bne_iff_ne];exact hb
  simp only [hb',if_true,i9]
  exact ⟨noS,0,b,rfl,fun q=>absurd q hb,fun es' ss q=>by injection q with q;injection q with _ q;exact fun _ _=>q⟩
 subst hb
 obtain ⟨hl,g1,g3⟩:=e5 rfl
 simp only [bne_self_eq_false,j9,if_false]
 by_cases h128:items.length≤128
 case neg =>
  have:decide ((items.length:Int)>128)=true:=by simp;omega
  simp only [this,if_true,i9]
  exact ⟨noS,0,4,rfl,fun q=>absurd q (by decide),fun _ _ _ q=>absurd q h128⟩
 have hd:decide ((items.length:Int)>128)=false:=by simp;omega
 have a1:=FX hl.n hc es.length e3
 have hf0:=Od (l:=l) es.length
 simp only [hd,j9,if_false,a1,i9]
 have S1:=fun s ss=>SY (l:=l) (es:=es) (items:=items) (fun k (s:RS) (_:Unit)=>((k:Int),s.bJ,s.Cut,s.eV,s.bL,s.bE)) (dZ l items (es,0)) (fun _ _ e=>e) (fun _ _ _=>True)
  (fun k x s s' _ hx hs _ _=>⟨Tt h128 k x s s' hx hs,trivial⟩) (fun s _=>.inr (s.bJ,s.Cut,s.eV,s.bL,s.bE)) (fun s _=>by simp [dZ]) (s:=s) (ss:=ss)
 have S2:=fun pre x post s ss c=>WN (l:=l) (es:=es) (items:=items) (fun k (s:RS) (_:Unit)=>((k:Int),s.bJ,s.Cut,s.eV,s.bL,s.bE)) (dZ l items (es,0)) (fun _ _ e=>e) (fun _ _ _=>True)
  (fun k x s s' _ hx hs _ _=>⟨Tt h128 k x s s' hx hs,trivial⟩) (fun k c _ _=>.inl ((k:Int),c)) (fun k x s _ c hx hs _=>DY k x s c hx hs) (pre:=pre) (post:=post) (x:=x) (s:=s) (ss:=ss) (c:=c)
 rcases LA hl hc e3 items (st0 l es.length) hf0 with ⟨ss,hs⟩ | ⟨pre,x,post,ss,e,hi,hs,hx⟩
 ·have q1:aM (dZ l items (es,0)) (0,(st0 l es.length).bJ,(st0 l es.length).Cut,(st0 l es.length).eV,(st0 l es.length).bL,(st0 l es.length).bE)=_:=S1 _ _ hs () hf0 trivial
  refine ⟨jA (st0 l es.length) ss,0,0,by rw [q1];rfl,fun _=>⟨rfl,es,ss,⟨hl,hc,e1,g1,e3,g3,h128,hs,a1⟩,rfl⟩,fun _ _ _ _ _=>rfl⟩
 ·have q2:aM (dZ l items (es,0)) (0,(st0 l es.length).bJ,(st0 l es.length).Cut,(st0 l es.length).eV,(st0 l es.length).bL,(st0 l es.length).bE)=_:=S2 pre x post _ _ _ hi hs hx () hf0 trivial
  refine ⟨noS,pre.length,e,by rw [q2];rfl,fun q=>absurd q hx.n,fun es' ss' q1 _ q3=>?_⟩
  injection q1 with q1;injection q1 with q1 _
  subst q1
  exact (VZ pre items post _ _ _ q3 hi hs hx).elim
theorem Vp (l:aV) (h:LB l) (items:List cF):∃ e,xK l items=some e∧(e=0→∃ es ss,Ran l items es ss∧((jA (st0 l es.length) ss).eV.all fun b=>b)=true∧((jA (st0 l es.length) ss).bJ.all fun t=>t.all fun b=>b)=true∧Ni l items=some (jA (st0 l es.length) ss,0,0,(jA (st0 l es.length) ss).bJ)) ∧
  (∀ es ss,tB l=some (es,0)→items.length≤128→Steps l es (st0 l es.length) items ss→((jA (st0 l es.length) ss).eV.all fun b=>b)=true→((jA (st0 l es.length) ss).bJ.all fun t=>t.all fun b=>b)=true→e=0):=by
 obtain ⟨s,k,e,r1,r2,r3⟩:=YC l h items
 unfold xK
 rw [r1]
 simp only [i9]
 by_cases he:e=0
 case neg =>
  have he':(e != 0)=true:=by rw [bne_iff_ne];exact he
  simp only [he',if_true]
  exact ⟨e,rfl,fun h=>absurd h he,fun es ss q1 q2 q3 _ _=>r3 es ss q1 q2 q3⟩
 subst he
 obtain ⟨rfl,es,ss,hr,hs⟩:=r2 rfl
 have sl:=GX hr.v.n hr.c hr.n (Tl hr.s (Od es.length)).1
 rw [← hs] at sl
 have det:∀ es' ss',tB l=some (es',0)→Steps l es' (st0 l es'.length) items ss'→jA (st0 l es'.length) ss'=s:=fun es' ss' q1 q2=>by
  have q:=hr.e1;rw [q1] at q;injection q with q;injection q with q _
  subst q
  rw [OG q2 hr.s,← hs]
 simp only [bne_self_eq_false,j9,if_false,Az s.eV sl.d,i9]
 cases hd:(s.eV.all fun b=>b) with
 | false=>exact ⟨12,rfl,fun h=>absurd h (by decide),fun es' ss' q1 _ q3 q4 _=>by rw [det es' ss' q1 q3,hd] at q4;cases q4⟩
 | true =>
   have l1:aM (Ba (s,0,0,s.bJ)) 0=some (if s.bJ.all (fun t=>t.all fun b=>b) then .inr () else .inl ()):=by
    have h1:=sl.h
    refine Xj s.bJ (Ba (s,0,0,s.bJ)) (fun t=>t.all fun b=>b) (.inl ()) (.inr ()) (fun j t ht=>?_) (by simp [Ba])
    have hj:=aX ht
    unfold Ba
    have hd:decide ((j:Int)<(s.bJ.length:Int))=true:=by simp [hj]
    simp only [hd,if_true,aW ht,i9,Az t (sl.hh t (m5 ht)),bG j (show (j:Int)<9223372036854775807 by omega)]
    cases (t.all fun b=>b) <;> rfl
   simp only [u5,j9,if_false,l1,i9]
   cases hh:s.bJ.all (fun t=>t.all fun b=>b) with
   | false=>exact ⟨12,rfl,fun h=>absurd h (by decide),fun es' ss' q1 _ q3 _ q5=>by rw [det es' ss' q1 q3,hh] at q5;cases q5⟩
   | true=>exact ⟨0,rfl,fun _=>⟨es,ss,hr,hs ▸ hd,hs ▸ hh,hs ▸ rfl⟩,fun _ _ _ _ _ _ _=>rfl⟩
end Go.SM
namespace Go.SM
open Go Go.VI
def blk (s:dJ) (a b:aF):Bool:=decide (ovR a b) || (decide (Gf a b<s.Gap)&&!(s.sA&&(Gf a b==0)))
def clr (s:dJ) (a b:List aF):Bool:=!(a.any fun x=>b.any fun y=>blk s x y)
theorem OO (a b:List aF) (s:dJ) (ha:a.length≤9223372036854775806) (hb:b.length≤9223372036854775806):Ld a b s=some (clr s a b):=by
 have inner:∀ x:aF,aM (yG b s x) (0,s.sA)=some (if (b.any fun y=>blk s x y) then .inl () else .inr s.sA):=by
  intro x
  refine gD b (yG b s x) (fun k=>((k:Int),s.sA)) (fun y=>blk s x y) _ _ rfl (fun k y hy=>?_) ?_
  ·have hk:=(m9.1 hy).1
   unfold yG
   have h1:decide ((k:Int)<(b.length:Int))=true:=by simp;omega
   simp only [h1,if_true,aW hy,i9,Tq,Ko]
   rw [bA (a:=(k:Int)) (by omega) (by omega)]
   unfold blk
   by_cases h2:ovR x y
   ·simp [h2]
   ·by_cases h3:Gf x y<s.Gap
    ·cases h4:s.sA
     ·simp [h2,h3]
     ·by_cases h5:Gf x y=0
      ·simp [h2,h5]
      ·simp [h2,h3,h5]
    ·simp [h2,h3]
  ·simp [yG]
 unfold Ld
 have top:aM (yH a b s) (0,s.sA)=some (if (a.any fun x=>b.any fun y=>blk s x y) then .inl () else .inr ()):=by
  refine gD a (yH a b s) (fun k=>((k:Int),s.sA)) (fun x=>b.any fun y=>blk s x y) _ _ rfl (fun k x hx=>?_) ?_
  ·have hk:=(m9.1 hx).1
   unfold yH
   have h1:decide ((k:Int)<(a.length:Int))=true:=by simp;omega
   simp only [h1,if_true,aW hx,i9,inner]
   rw [bA (a:=(k:Int)) (by omega) (by omega)]
   cases (b.any fun y=>blk s x y) <;> simp
  ·simp [yH]
 rw [top]
 unfold clr
 cases (a.any fun x=>b.any fun y=>blk s x y) <;> rfl
end Go.SM
namespace Go.SM
open Go Go.VI Go.Cells
def wr (a:Int):Int:=IntKind.i64.wrap a
theorem Tp (a b:Int):wr (wr a+b)=wr (a+b):=by
 unfold wr
 simp only [IntKind.wrap,IntKind.signed,IntKind.bits,IntKind.min,IntKind.max]
 first | omega | (simp only [Int.reducePow,if_true];omega) | (simp;omega)
theorem LM (a:Int):wr (wr a)=wr a:=by have:=Tp a 0;simpa using this
theorem CY:wr 0=0:=by unfold wr;exact zX 0 (by omega) (by omega)
theorem Nv {n:Nat} (g:Nat→Int) (body:Int×Int→Option (Int×Int ⊕ Int)) (step:∀ (k:Nat) (acc:Int),k<n→wr acc=acc→body (acc,(k:Int))=some (.inl (wr (acc+g k),((k+1:Nat):Int)))) (fin:∀ acc,body (acc,(n:Int))=some (.inr acc)) {acc:Int} (ha:wr acc=acc) :
  aM body (acc,0)=some (wr (acc+pL g n)):=by
 have key:=gN (s9 n) body (fun k=>(wr (acc+pL g k),(k:Int))) (wr (acc+pL g n)) (fun k x hx=>?_) ?_
 ·have e0:wr (acc+pL g 0)=acc:=by rw [show acc+pL g 0=acc from by simp [pL]];exact ha
  rw [e0] at key
  exact key
 ·have hk:k<n:=by have:=aX hx;simpa using this
  rw [step k _ hk (LM _),Tp,Int.add_assoc]
  rfl
 ·rw [J8,fin]
def Sn (n:Nat) (q:Nat→Bool):List Int:=((s9 n).filter q).map fun i:Nat=>(i:Int)
theorem AB (n:Nat) (q:Nat→Bool):Sn (n+1) q=if q n then Sn n q++[(n:Int)] else Sn n q:=by
 unfold Sn
 rw [List.range_succ,M9,H3]
 cases h:q n <;> simp [h]
theorem EI (n:Nat) (q:Nat→Bool):(Sn n q).length≤n:=by
 unfold Sn
 rw [p9]
 have:=O0 q (s9 n)
 rwa [J8] at this
theorem MZ {n:Nat} (body:Int×List Int→Option (Int×List Int ⊕ List Int)) (q:Nat→Bool) (step:∀ (k:Nat) (acc:List Int),k<n→acc.length≤k→body ((k:Int),acc)=some (.inl (((k+1:Nat):Int),if q k then acc++[(k:Int)] else acc))) (fin:∀ acc,body ((n:Int),acc)=some (.inr acc)):aM body (0,[])=some (Sn n q):=by
 have key:=gN (s9 n) body (fun k=>((k:Int),Sn k q)) (Sn n q) (fun k x hx=>?_) ?_
 ·exact key
 ·have hk:k<n:=by have:=aX hx;simpa using this
  rw [step k _ hk (EI _ _),AB]
 ·rw [J8,fin]
theorem Oh {f g:Nat→Int} {d:Int} {s:Nat} (hs:g s=f s+d) (hn:∀ k,k≠s→g k=f k):∀ n,s<n→pL g n=pL f n+d
 | 0,h=>by omega
 | n+1,h=>by
   simp only [pL]
   by_cases q:s<n
   ·rw [Oh hs hn n q,hn n (by omega)];omega
   ·have:s=n:=by omega
    subst this
    rw [xI (g:=f) fun k hk=>hn k (by omega),hs];omega
theorem Rx:∀ n,pL (fun _=>0) n=0
 | 0=>rfl
 | n+1=>by simp only [pL];rw [Rx n];rfl
theorem Im {R:List (List aF)} {x y i:Int} (h:iA R x y=some i):0≤i∧i<(R.length:Int):=by
 unfold iA Lw at h
 cases hl:nM R x y with
 | none=>rw [hl] at h;cases h
 | some k =>
   rw [hl] at h
   have h:(k:Int)=i:=w7 h
   unfold nM at hl
   obtain ⟨hi,_⟩:=G7.1 hl
   omega
theorem pick (c:Prop) [Decidable c] (s:eE) (q p:Int):(if c then (⟨s,q,p⟩:bC) else ⟨s,p,q⟩).A=p∨(if c then (⟨s,q,p⟩:bC) else ⟨s,p,q⟩).B=p:=by
 by_cases h:c
 ·rw [if_pos h];exact .inr rfl
 ·rw [if_neg h];exact .inl rfl
theorem VX {s:eE} {a b:Option Int} {n:Nat} (ha:∀ i,a=some i→0≤i∧i<(n:Int)) (hb:∀ i,b=some i→0≤i∧i<(n:Int)) (hne:a≠b):∃ p:Nat,p<n∧ofB (mkE s a b) (p:Int)=true:=by
 have key:∀ i:Int,(0≤i∧i<(n:Int))→((mkE s a b).A=i∨(mkE s a b).B=i)→∃ p:Nat,p<n∧ofB (mkE s a b) (p:Int)=true:=fun i hi h=>by
  refine ⟨i.toNat,by omega, ?_⟩
  have e:((i.toNat:Nat):Int)=i:=by omega
  unfold ofB
  rw [e,F6,beq_iff_eq,beq_iff_eq]
  exact h
 cases a with
 | some i =>
   refine key i (ha i rfl) ?_
   unfold mkE
   exact pick _ s _ i
 | none =>
   cases b with
   | none=>exact absurd rfl hne
   | some j =>
     refine key j (hb j rfl) ?_
     unfold mkE
     simp only
     rw [if_pos (.inl (by omega))]
     exact .inl rfl
theorem PQ {R:List (List aF)} {xs ys:List Int} (hL:Lay R xs ys):∀ e ∈ Ju R xs ys,∃ p:Nat,p<R.length∧ofB e (p:Int)=true:=by
 have key:∀ {s:Int→Int} {A B:Int→Option Int} (ln:Int→Int→eE) (_:s=fun z=>cod (A z) (B z)) (_:∀ z,SmO (A z)) (_:∀ z,SmO (B z)) (_:∀ z i,A z=some i→0≤i∧i<(R.length:Int)) (_:∀ z i,B z=some i→0≤i∧i<(R.length:Int)),∀ e ∈ (xE s).map (fun p=>mkE (ln p.1 p.2) (A p.1) (B p.1)),∃ p:Nat,p<R.length∧ofB e (p:Int)=true:=fun {s A B} ln hs ha hb hA hB e he=>by
  obtain ⟨p,hp,rfl⟩:=E3.1 he
  have hr:s p.1≠0:=by
   unfold xE at hp
   split at hp
   ·rename_i hx
    exact (((K1 hx).2 p.1 p.2).1 hp).2.1
   ·cases hp
  have hne:A p.1≠B p.1:=fun q=>hr (by rw [hs];simp only;rw [(Jj (ha _) (hb _)).2 q])
  exact VX (hA _) (hB _) hne
 intro e he
 unfold Ju at he
 rw [q9,F3,F3] at he
 rcases he with ⟨y,_,h⟩ | ⟨x,_,h⟩
 ·exact key (fun a b=>⟨a,y,b,y⟩) (A:=fun z=>iA R z y) (B:=fun z=>iA R z (y-1)) rfl (fun z=>lG hL.m _ _) (fun z=>lG hL.m _ _) (fun z i h=>Im h) (fun z i h=>Im h) e h
 ·exact key (fun a b=>⟨x,a,x,b⟩) (A:=fun z=>iA R x z) (B:=fun z=>iA R (x-1) z) rfl (fun z=>lG hL.m _ _) (fun z=>lG hL.m _ _) (fun z i h=>Im h) (fun z i h=>Im h) e h
theorem NP {s:Int→Int} {lo hi:Int} (hlo:∀ z,z<lo→s z=0) (hhi:∀ z,hi≤z→s z=0) {z:Int} (h:s z≠0):∃ a b,Pz s a b∧a≤z∧z<b:=by
 have hzl:lo≤z:=by
  by_cases q:lo≤z
  ·exact q
  ·exact absurd (hlo z (by omega)) h
 have hzh:z<hi:=by
  by_cases q:z<hi
  ·exact q
  ·exact absurd (hhi z (by omega)) h
 have left:∀ (n:Nat) (w:Int),w-lo≤n→lo≤w→w≤z→(∀ v,w≤v→v≤z→s v=s z)→∃ a,a≤z∧(∀ v,a≤v→v≤z→s v=s z)∧s (a-1)≠s z:=by
  intro n
  induction n with
  | zero =>
    intro w h1 h2 h3 h4
    refine ⟨w,h3,h4, ?_⟩
    rw [hlo (w-1) (by omega)];exact fun e=>h e.symm
  | succ n ih =>
    intro w h1 h2 h3 h4
    by_cases q:s (w-1)=s z
    ·have hw:lo≤w-1:=by
      by_cases q2:lo≤w-1
      ·exact q2
      ·exact absurd (q.symm.trans (hlo (w-1) (by omega))) h
     refine ih (w-1) (by omega) hw (by omega) fun v v1 v2=>?_
     by_cases e:v=w-1
     ·rw [e];exact q
     ·exact h4 v (by omega) v2
    ·exact ⟨w,h3,h4,q⟩
 have right:∀ (n:Nat) (w:Int),hi-w≤n→z<w→w≤hi→(∀ v,z≤v→v<w→s v=s z)→∃ b,z<b∧(∀ v,z≤v→v<b→s v=s z)∧s b≠s z:=by
  intro n
  induction n with
  | zero =>
    intro w h1 h2 h3 h4
    refine ⟨w,h2,h4, ?_⟩
    rw [hhi w (by omega)];exact fun e=>h e.symm
  | succ n ih =>
    intro w h1 h2 h3 h4
    by_cases q:s w=s z
    ·have hw:w<hi:=by
      by_cases q2:w<hi
      ·exact q2
      ·exact absurd (q.symm.trans (hhi w (by omega))) h
     refine ih (w+1) (by omega) (by omega) (by omega) fun v v1 v2=>?_
     by_cases e:v=w
     ·rw [e];exact q
     ·exact h4 v v1 (by omega)
    ·exact ⟨w,h2,h4,q⟩
 obtain ⟨a,a1,a2,a3⟩:=left (z-lo).toNat z (by omega) hzl (w8 z) fun v v1 v2=>by rw [show v=z by omega]
 obtain ⟨b,b1,b2,b3⟩:=right (hi-(z+1)).toNat (z+1) (by omega) (by omega) (by omega) fun v v1 v2=>by rw [show v=z by omega]
 have ea:s a=s z:=a2 a (w8 a) a1
 refine ⟨a,b,⟨by omega,by rw [ea];exact h,fun v v1 v2=>?_,by rw [ea];exact a3,by rw [ea];exact b3⟩,a1,b1⟩
 rw [ea]
 by_cases q:v≤z
 ·exact a2 v v1 q
 ·exact b2 v (by omega) v2
section
variable {R:List (List aF)} {xs ys:List Int} (hL:Lay R xs ys)
include hL
theorem DV (P:Option Nat→Bool) (hP:P none=false) (y:Int):∀ (k:Nat) (x:Int),xs[k]?=some x→P (nM R x y)=true→∃ x' ∈ xs,P (nM R x' y)=true∧P (nM R (x'-1) y)=false
 | 0,x,hx,h=>by
   refine ⟨x,m5 hx,h, ?_⟩
   rw [(CJ hL).1 x hx (x-1) y (by omega),hP]
 | k+1,x,hx,h=>by
   have hk:=aX hx
   have hx0:xs[k]?=some (xs[k]'(by omega)):=l8 (by omega)
   obtain ⟨h1,h2⟩:=Lb (KI hL) hx0 hx
   by_cases q:P (nM R (x-1) y)=true
   ·have e:nM R (x-1) y=nM R (xs[k]'(by omega)) y:=congrFun (h2 (x-1) (by omega) (by omega)) y
    rw [e] at q
    exact DV P hP y k _ hx0 q
   ·exact ⟨x,m5 hx,h,by simpa using q⟩
theorem ZH (x:Int):uF (vS R x) (xE (vS R x)):=by
 have hA:=YE hL x
 obtain ⟨L,_,g2,_⟩:=OT hA (side:=fun z=>some (iA R x z,iA R (x-1) z)) (fun i y _ _=>rfl) (line:=fun a b=>some ⟨x,a,x,b⟩) (ln:=fun a b=>⟨x,a,x,b⟩) (fun a b=>rfl)
 have g2':uF (vS R x) L:=g2
 rw [Yd g2'];exact g2'
theorem ZR (x:Int) {z:Int} (h:vS R x z≠0):∃ lo hi,(∀ w,w<lo→vS R x w=0)∧∀ w,hi≤w→vS R x w=0:=by
 have hA:=YE hL x
 have z0:∀ w,(iA R x w=none∧iA R (x-1) w=none)→vS R x w=0:=fun w hw=>by
  unfold vS;rw [hw.1,hw.2];rfl
 cases hys:ys[0]? with
 | none =>
   have:ys=[]:=by
    cases ys with
    | nil=>rfl
    | cons a t=>simp at hys
   exact absurd (z0 z (hA.emp this z)) h
 | some y0 =>
   have hlen:=aX hys
   have hl:ys[ys.length-1]?=some (ys[ys.length-1]'(by omega)):=l8 (by omega)
   exact ⟨y0,_,fun w hw=>z0 w (hA.low y0 hys w hw),fun w hw=>z0 w (hA.high _ hl w hw)⟩
theorem GS (U:Nat→Bool) {k p:Nat} {x y:Int} (hx:xs[k]?=some x) (hp:nM R x y=some p) (hU:U p=true) :
  ∃ e ∈ Ju R xs ys,∃ i:Nat,U i=true∧i<R.length∧ofB e (i:Int)=true∧((e.A=(i:Int)∧e.B=-1)∨∃ j:Nat,j<R.length∧U j=false∧ofB e (j:Int)=true∧e.A+e.B-(i:Int)=(j:Int)∧0≤e.B):=by
 obtain ⟨x',hx',c1,c2⟩:=DV hL (fun o=>match o with | some i=>U i | none=>false) rfl y k x hx (by rw [hp];exact hU)
 obtain ⟨i,hi⟩:∃ i,nM R x' y=some i:=by
  cases e:nM R x' y with
  | none=>rw [e] at c1;cases c1
  | some i=>exact ⟨i,rfl⟩
 rw [hi] at c1
 have c1':U i=true:=c1
 have la:iA R x' y=some (i:Int):=by unfold iA Lw;rw [hi];rfl
 have hne:iA R x' y≠iA R (x'-1) y:=fun e=>by
  rw [la] at e
  unfold iA Lw at e
  cases e2:nM R (x'-1) y with
  | none=>rw [e2] at e;cases e
  | some j =>
    rw [e2] at e c2
    have e3:(i:Int)=(j:Int):=w7 e
    have e4:i=j:=by omega
    subst e4
    have c2':U i=false:=c2
    rw [c1'] at c2';cases c2'
 have hs:vS R x' y≠0:=fun e=>hne ((Jj (lG hL.m _ _) (lG hL.m _ _)).1 e)
 obtain ⟨lo,hi',z1,z2⟩:=ZR hL x' hs
 obtain ⟨a,b,hr,ha,hb⟩:=NP z1 z2 hs
 have hmem:=((ZH hL x').2 a b).2 hr
 have hsa:vS R x' y=vS R x' a:=hr.2.2.1 y ha hb
 obtain ⟨e1,e2⟩:=JP (lG hL.m _ _) (lG hL.m _ _) (lG hL.m _ _) (lG hL.m _ _) hs hsa
 refine ⟨mkE ⟨x',a,x',b⟩ (iA R x' a) (iA R (x'-1) a), ?_,i,c1',Vg hi, ?_⟩
 ·unfold Ju
  refine q9.2 (.inr (F3.2 ⟨x',hx', ?_⟩))
  exact E3.2 ⟨(a,b),hmem,rfl⟩
 ·rw [← e1,← e2,la]
  cases e3:nM R (x'-1) y with
  | none =>
    rw [rP e3]
    unfold mkE ofB
    have h0:¬ ((i:Int)<0∨((-1:Int) ≥ 0∧(-1:Int)<(i:Int))):=by omega
    simp only [h0,if_false]
    exact ⟨by simp,.inl ⟨trivial,trivial⟩⟩
  | some j =>
    have lb:iA R (x'-1) y=some (j:Int):=by unfold iA Lw;rw [e3];rfl
    rw [lb]
    rw [e3] at c2
    have c2':U j=false:=c2
    unfold mkE ofB
    simp only
    by_cases q:j<i
    ·have h0:((i:Int)<0∨((j:Int) ≥ 0∧(j:Int)<(i:Int))):=by omega
     rw [if_pos h0]
     exact ⟨by simp,.inr ⟨j,Vg e3,c2',by simp,by show (j:Int)+(i:Int)-(i:Int)=j;omega,by show (0:Int)≤(i:Int);omega⟩⟩
    ·have h0:¬ ((i:Int)<0∨((j:Int) ≥ 0∧(j:Int)<(i:Int))):=by omega
     rw [if_neg h0]
     exact ⟨by simp,.inr ⟨j,Vg e3,c2',by simp,by show (i:Int)+(j:Int)-(i:Int)=j;omega,by show (0:Int)≤(j:Int);omega⟩⟩
end
theorem QT {r r':aF} (h1:vR r) (h2:vR r') {a b:Int} (c1:inC r a b=true) (c2:inC r' a b=true):iQ r r'=true:=by
 unfold inC at c1 c2
 simp only [o8,decide_eq_true_eq] at c1 c2
 unfold iQ
 rw [decide_eq_true_eq]
 unfold ovR
 refine ⟨h1,h2, ?_⟩
 omega
theorem KH {l:aV} (hl:LV l) {k:Nat} {y:aS} (hy:l.aB[k]?=some y) {a b:Int} (hc:cov y.aD a b=true):nM (gA l) a b=some k:=by
 have hk:=aX hy
 unfold nM
 rw [G7]
 have hg:∀ j (hj:j<(gA l).length),(gA l)[j]=(l.aB[j]'(by simpa [gA] using hj)).aD:=fun j hj=>by simp [gA]
 refine ⟨by simpa [gA] using hk, ?_,fun j hj=>?_⟩
 ·rw [hg]
  have:l.aB[k]'hk=y:=by
   have:=l8 hk
   rw [hy] at this
   exact (w7 this).symm
  rw [this];exact hc
 ·rw [hg]
  intro hcj
  have hh:=hl.hit k hk
  unfold HB at hh
  rw [hy] at hh
  obtain ⟨r,hr,cr⟩:=Qf.1 hc
  obtain ⟨r',hr',cr'⟩:=Qf.1 hcj
  have hjm:(l.aB[j]'(by omega)) ∈ l.aB.take k:=List.mem_take_iff_getElem.2 ⟨j,by omega,rfl⟩
  have:=s7.1 hh _ hjm
  unfold Yz at this
  refine this (E2.2 ⟨r,hr,E2.2 ⟨r',hr',QT ?_ ?_ cr cr'⟩⟩)
  ·exact hl.hv y (m5 hy) r hr
  ·exact hl.hv _ (F9 _) r' hr'
theorem XP (c:Prop) [Decidable c] (s:eE) (q p:Int):(if c then (⟨s,q,p⟩:bC) else ⟨s,p,q⟩).Line=s:=by
 by_cases h:c
 ·rw [if_pos h]
 ·rw [if_neg h]
theorem Wq {R:List (List aF)} {xs ys:List Int} (hL:Lay R xs ys):∀ e ∈ Ju R xs ys,(e.Line.X1≤e.Line.X2∧e.Line.Y1≤e.Line.Y2)∧(iA R e.Line.X1 e.Line.Y1≠iA R (e.Line.X1-1) e.Line.Y1∨iA R e.Line.X1 e.Line.Y1≠iA R e.Line.X1 (e.Line.Y1-1)):=by
 have ln:∀ (s:eE) a b,(mkE s a b).Line=s:=fun s a b=>by
  unfold mkE
  exact XP _ s _ _
 have rn:∀ {s:Int→Int} {p:Int×Int},p ∈ xE s→Pz s p.1 p.2:=fun {s p} hp=>by
  unfold xE at hp
  split at hp
  ·rename_i hx
   exact ((K1 hx).2 p.1 p.2).1 hp
  ·cases hp
 intro e he
 unfold Ju at he
 rw [q9,F3,F3] at he
 rcases he with ⟨y,_,h⟩ | ⟨x,_,h⟩
 ·obtain ⟨p,hp,rfl⟩:=E3.1 h
  have hr:=rn hp
  rw [ln]
  refine ⟨⟨Int.le_of_lt hr.1,w8 _⟩,.inr fun q=>hr.2.1 ?_⟩
  show cod (iA R p.1 y) (iA R p.1 (y-1))=0
  exact (Jj (lG hL.m _ _) (lG hL.m _ _)).2 q
 ·obtain ⟨p,hp,rfl⟩:=E3.1 h
  have hr:=rn hp
  rw [ln]
  refine ⟨⟨w8 _,Int.le_of_lt hr.1⟩,.inl fun q=>hr.2.1 ?_⟩
  show cod (iA R x p.1) (iA R (x-1) p.1)=0
  exact (Jj (lG hL.m _ _) (lG hL.m _ _)).2 q
theorem TW {l:List aF} {x y:Int} (h:Ag l x y=true):∃ r ∈ l,vR r∧inC r x y=true:=by
 unfold Ag at h
 obtain ⟨r,hr,hi⟩:=E2.1 h
 rw [decide_eq_true_eq] at hi
 obtain ⟨_,h2,h3,h4,h5,h6⟩:=hi
 simp only at h3 h4 h5 h6
 refine ⟨r,hr,h2, ?_⟩
 unfold inC
 simp only [o8,decide_eq_true_eq]
 omega
theorem MC {l:aV} (hl:LV l) {xs ys:List Int} (hL:Lay (gA l) xs ys) {e:bC} (he:e ∈ Ju (gA l) xs ys) :
  (0≤e.Line.X1∧e.Line.X1≤l.aT.dQ∧0≤e.Line.Y1∧e.Line.Y1≤l.aT.cE)∧gH l.aT.bO ⟨e.Line.X1,e.Line.Y1⟩=some false∧∀ y ∈ l.aB,gH y.aD ⟨e.Line.X1,e.Line.Y1⟩=some false:=by
 obtain ⟨_,hne⟩:=Wq hL e he
 generalize e.Line.X1=X at hne ⊢
 generalize e.Line.Y1=Y at hne ⊢
 have sl:l.aT.bO.length≤4∧l.aT.Used.length≤48:=⟨hl.sh.n1,hl.sh.n2⟩
 -- one of the two cells lies in a piece
 have cell:∀ (x y x' y':Int),iA (gA l) x y≠iA (gA l) x' y'→∃ (u v:Int) (k:Nat) (z:aS) (r:aF),((u=x∧v=y)∨(u=x'∧v=y'))∧l.aB[k]?=some z∧r ∈ z.aD∧inC r u v=true:=fun x y x' y' h=>by
  have one:∀ (u v:Int),nM (gA l) u v≠none→∃ (k:Nat) (z:aS) (r:aF),l.aB[k]?=some z∧r ∈ z.aD∧inC r u v=true:=fun u v hn=>by
   cases hk:nM (gA l) u v with
   | none=>exact absurd hk hn
   | some k =>
     unfold nM at hk
     obtain ⟨hi,h1,_⟩:=G7.1 hk
     have hkl:k<l.aB.length:=by simpa [gA] using hi
     rw [show (gA l)[k]=(l.aB[k]).aD by simp [gA]] at h1
     obtain ⟨r,hr,hc⟩:=Qf.1 h1
     exact ⟨k,_,r,l8 hkl,hr,hc⟩
  by_cases q:nM (gA l) x y=none
  ·by_cases q':nM (gA l) x' y'=none
   ·exact absurd ((rP q).trans (rP q').symm) h
   ·obtain ⟨k,z,r,a,b,c⟩:=one x' y' q'
    exact ⟨x',y',k,z,r,.inr ⟨rfl,rfl⟩,a,b,c⟩
  ·obtain ⟨k,z,r,a,b,c⟩:=one x y q
   exact ⟨x,y,k,z,r,.inl ⟨rfl,rfl⟩,a,b,c⟩
 have main : ∀ (x' y':Int),((x'=X-1∧y'=Y)∨(x'=X∧y'=Y-1))→iA (gA l) X Y≠iA (gA l) x' y'→(0≤X∧X≤l.aT.dQ∧0≤Y∧Y≤l.aT.cE)∧(-4194304≤X∧X≤4194304∧-4194304≤Y∧Y≤4194304)∧(Ag l.aT.bO X Y=false∨Ag l.aT.bO x' y'=false)∧∀ y ∈ l.aB,Ag y.aD X Y=false∨Ag y.aD x' y'=false:=fun x' y' hxy h=>by
  obtain ⟨u,v,k,z,r,huv,hz,hr,hc⟩:=cell _ _ _ _ h
  obtain ⟨o1,o2,_⟩:=hl.off z (m5 hz) r hr
  have hc':=hc
  unfold inC at hc'
  simp only [o8,decide_eq_true_eq] at hc'
  obtain ⟨v1,v2,b1,b2,b3,b4⟩:=o1
  have v1':=v1
  obtain ⟨g1,g2,g3,g4,g5,g6⟩:=v1'
  simp only at b1 b2 b3 b4
  refine ⟨by rcases huv with ⟨rfl,rfl⟩ | ⟨rfl,rfl⟩ <;> rcases hxy with ⟨rfl,rfl⟩ | ⟨rfl,rfl⟩ <;> omega,by rcases huv with ⟨rfl,rfl⟩ | ⟨rfl,rfl⟩ <;> rcases hxy with ⟨rfl,rfl⟩ | ⟨rfl,rfl⟩ <;> omega, ?_,fun y hy=>?_⟩
  ·have no:Ag l.aT.bO u v=false:=by
    cases q:Ag l.aT.bO u v with
    | false=>rfl
    | true =>
      obtain ⟨c,hcm,hv,hi⟩:=TW q
      exact absurd (QT v1 hv hc hi) (s7.1 o2 c hcm)
   rcases huv with ⟨rfl,rfl⟩ | ⟨rfl,rfl⟩
   ·exact .inl no
   ·exact .inr no
  ·cases q:Ag y.aD X Y with
   | false=>exact .inl rfl
   | true =>
     right
     cases q2:Ag y.aD x' y' with
     | false=>rfl
     | true =>
       exfalso
       obtain ⟨j,hj⟩:=u6.1 hy
       have cv:∀ {a b:Int},Ag y.aD a b=true→nM (gA l) a b=some j:=fun {a b} hq=>by
        obtain ⟨c,hcm,_,hi⟩:=TW hq
        exact KH hl hj (Qf.2 ⟨c,hcm,hi⟩)
       apply h
       unfold iA
       rw [cv q,cv q2]
 have fin:∀ (x' y':Int),((x'=X-1∧y'=Y)∨(x'=X∧y'=Y-1))→iA (gA l) X Y≠iA (gA l) x' y'→(0≤X∧X≤l.aT.dQ∧0≤Y∧Y≤l.aT.cE)∧gH l.aT.bO ⟨X,Y⟩=some false∧∀ y ∈ l.aB,gH y.aD ⟨X,Y⟩=some false:=fun x' y' hxy h=>by
  obtain ⟨m1,m2,m3,m4⟩:=main x' y' hxy h
  have go:∀ L:List aF,L.length≤1000→(Ag L X Y=false∨Ag L x' y'=false)→gH L ⟨X,Y⟩=some false:=fun L hLl hq=>by
   rw [ES L ⟨X,Y⟩ (by omega) m2]
   simp only
   rcases hq with hq | hq
   ·rw [hq];simp
   ·rcases hxy with ⟨rfl,rfl⟩ | ⟨rfl,rfl⟩ <;> rw [hq] <;> simp
  refine ⟨m1,go _ (by omega) m3,fun y hy=>go _ (by have:=hl.r12 y hy;omega) (m4 y hy)⟩
 rcases hne with h | h
 ·exact fin _ _ (.inl ⟨rfl,rfl⟩) h
 ·exact fin _ _ (.inr ⟨rfl,rfl⟩) h
def Mu (n:Nat) (s s':RS):List Int:=Sn n fun i=>s'.bE.getD i false&&!s.bE.getD i false
theorem ML {n:Nat} (hn:n≤8) {s s':RS} (h1:s.bE.length=n) (h2:s'.bE.length=n) (acc:List (List Int)) (ha:acc.length≤200):Fa s' s.bE acc=some (acc++[Mu n s s']):=by
 have key:aM (yV s' s.bE) (0,[])=some (Mu n s s'):=by
  refine MZ _ _ (fun k a hk ha=>?_) (fun a=>?_)
  ·have e1:s'.bE[k]?=some (s'.bE[k]'(by omega)):=l8 (by show k<s'.bE.length;omega)
   have e2:s.bE[k]?=some (s.bE[k]'(by omega)):=l8 (by omega)
   have e3:s'.bE[k]?=some (s'.bE[k]'(by omega)):=e1
   unfold yV
   have hd:decide ((k:Int)<(s'.bE.length:Int))=true:=by show decide ((k:Int)<(s'.bE.length:Int))=true;simp;omega
   have hap:app a [(k:Int)]=some (a++[(k:Int)]):=iF (by unfold LIM;simp;omega)
   simp only [hd,if_true,aW e1,aW e2,i9,yU,hap,bG k (show (k:Int)<9223372036854775807 by omega),nF e3,nF e2]
   cases s'.bE[k]'(by omega) <;> cases s.bE[k]'(by omega) <;> rfl
  ·unfold yV
   have:decide ((n:Int)<(s'.bE.length:Int))=false:=by show decide ((n:Int)<(s'.bE.length:Int))=false;simp;omega
   simp only [this,j9,if_false]
 unfold Fa
 rw [key]
 have hap:app acc [Mu n s s']=some (acc++[Mu n s s']):=iF (by unfold LIM;simp;omega)
 simp only [i9,hap]
section
variable {l:aV} (n8:l.aB.length≤8) {es:List bC} {items:List cF} (h128:items.length≤128)
include n8 h128
theorem DQ (k:Nat) (x:cF) (s s':RS) (acc:List (List Int)) (ha:acc.length=k) (hx:items[k]?=some x) (h:Step l es s x s') (hf:Fit l es.length s):gL l items (es,0) ((k:Int),acc,s.Cut,s.bJ,s.eV,s.bL,s.bE,s.bE)=some (.inl (((k+1:Nat):Int),acc++[Mu l.aB.length s s'],s'.Cut,s'.bJ,s'.eV,s'.bL,s'.bE,s'.bE)):=by
 have hk:=aX hx
 unfold gL
 have hd:decide ((k:Int)<(items.length:Int))=true:=by simp [hk]
 have hc:lX l es ⟨s.Cut,s.bJ,s.eV,s.bL,s.bE⟩ x=some (s',0):=h.c
 have hq:=ML n8 hf.f (Jr h.d hf).f acc (by omega)
 simp only [hd,if_true,aW hx,i9,hc,bne_self_eq_false,j9,if_false,hq,bG k (show (k:Int)<9223372036854775807 by omega)]
end
def AL (e:bC):Int:=aK (aQ (aK e.Line.X2 e.Line.X1) e.Line.Y2) e.Line.Y1
def SH (r:aF):Int:=gZ 2 (aQ r.W r.H)
def Kc (es:List bC) (i:Nat):Int:=match es[i]? with
 | some e=>AL e
 | none=>0
def Ey (x:aS) (h:Nat):Int:=match x.bQ[h]? with
 | some r=>SH r
 | none=>0
def KE (l:aV) (p:Nat):Int:=match l.aB[p]? with
 | some x=>pL (Ey x) x.bQ.length
 | none=>0
def vL (l:aV) (es:List bC):Int:=pL (Kc es) es.length+pL (KE l) l.aB.length
theorem MD {l:aV} (n8:l.aB.length≤8) (hc:∀ x ∈ l.aB,x.bQ.length≤1048576) {es:List bC} (hes:es.length≤200000):(aM (vD es) (0,0)).bind (fun a=>aM (xV l) (a,0))=some (wr (vL l es)):=by
 rw [Nv (n:=es.length) (Kc es) (vD es) (fun k acc hk ha=>?_) (fun acc=>by simp [vD]) CY]
 ·simp only [i9]
  rw [Nv (n:=l.aB.length) (KE l) (xV l) (fun k acc hk ha=>?_) (fun acc=>by simp [xV]) (LM _),Tp,Int.zero_add]
  ·rfl
  ·have hx:l.aB[k]?=some l.aB[k]:=l8 hk
   have hcl:=hc _ (m5 hx)
   generalize l.aB[k]=x at hx hcl
   have hin:aM (Dd x) (acc,0)=some (wr (acc+pL (Ey x) x.bQ.length)):=by
    refine Nv _ _ (fun j a hj _=>?_) (fun a=>by simp [Dd]) ha
    have hr:x.bQ[j]?=some x.bQ[j]:=l8 hj
    unfold Dd Ey
    have hd:decide ((j:Int)<(x.bQ.length:Int))=true:=by simp [hj]
    simp only [hd,if_true,aW hr,hr,i9,bG j (show (j:Int)<9223372036854775807 by omega)]
    rfl
   unfold xV KE
   have hd:decide ((k:Int)<(l.aB.length:Int))=true:=by simp [hk]
   simp only [hd,if_true,aW hx,hx,i9,hin,bG k (show (k:Int)<9223372036854775807 by omega)]
 ·have hx:es[k]?=some es[k]:=l8 hk
  unfold vD Kc
  have hd:decide ((k:Int)<(es.length:Int))=true:=by simp [hk]
  simp only [hd,if_true,aW hx,hx,i9,bG k (show (k:Int)<9223372036854775807 by omega)]
  rfl
theorem Am {α:Type} (n i:Nat) (z:α):(q8 n z).getD i z=z:=by
 rw [m8,List.getElem?_replicate]
 split <;> rfl
theorem uV {α:Type} (L:List α) (i j:Nat) (v z:α) (hi:i<L.length):(L.set i v).getD j z=if j=i then v else L.getD j z:=by
 rw [m8,G6]
 by_cases e:i=j
 ·subst e;simp [hi]
 ·rw [if_neg e,if_neg fun h=>e h.symm,m8]
theorem Nw {n:Nat} (q:Nat→Bool) (c:List Bool) {i:Nat} (hi:i<n):(mark n q c).getD i false=(q i || c.getD i false):=nF (Ee q hi)
def Ux (es:List bC) (s:RS):Prop:=∀ p:Nat,s.eV.getD p false=true→∀ i e,es[i]?=some e→ofB e (p:Int)=true→s.Cut.getD i false=true
theorem ME {l:aV} {es:List bC} {s s':RS} {x:cF} (hd:vJ l es s x s') (hi:Ux es s):Ux es s':=by
 cases hd with
 | @hole p h y t hp hh hj hy hfl ht hb=>exact hi
 | @line p y t hp hh hj hy hfl hdn ht ha hn =>
   intro q hq i e he ho
   have hil:=aX he
   show (mark es.length (El es (p:Int)) s.Cut).getD i false=true
   rw [Nw _ _ hil,F6]
   have hq':(s.eV.set p true).getD q false=true:=hq
   rw [uV _ _ _ _ _ (aX hdn)] at hq'
   by_cases e1:q=p
   ·subst e1
    left;unfold El;rw [he];exact ho
   ·rw [if_neg e1] at hq'
    exact .inr (hi q hq' i e he ho)
theorem IV {l:aV} {es:List bC} {s:RS} {xs:List cF} {ss:List RS} (h:Steps l es s xs ss):Ux es s→Ux es (jA s ss):=by
 induction h with
 | nil s=>exact fun h=>h
 | cons h _ ih=>exact fun hi=>ih (ME h.d hi)
theorem Vv {t:List Bool} (h:(t.all fun b=>b)=true) {i:Nat} (hi:i<t.length):t.getD i false=true:=by
 rw [m8,l8 hi]
 exact (p7.1 h) _ (F9 hi)
end Go.SM
namespace Go.SM
open Go Go.VI
set_option maxRecDepth 10000
theorem TN (h:List Int):rS h=uA (brL cA) h:=by kernel_rfl
theorem A3 (x y:Int):cA x y=some (decide (x<y)):=by
 unfold cA sD
 have e:∀ z:Int,(z != z)=false:=fun z=>by simp
 simp only [e,i9,j9,if_false]
theorem brO (β:Type) (x y:Int) (k:Bool→Option β):brL cA β x y k=k (ltI x y):=by
 unfold brL ltI
 rw [A3,i9]
theorem TQ {l:List Int} (hl:l.length≤1073741824):∃ r,rS l=some r∧r.Perm l∧r.Pairwise fun x y=>ltI y x=false:=by
 rw [TN]
 exact Nc (P:=fun _=>True) (d:=0) (fun β x y k _ _=>brO β x y k) LL ⟨by omega,fun _ _ _=>trivial⟩
theorem TR (h:List bD):cJ h=uA (brC (bB cC.mk)) h:=by kernel_rfl
def ltS (x y:bD):Bool:=decide (x.lo<y.lo∨(x.lo=y.lo∧x.hi<y.hi))
theorem C6:Sd ltS where
 asymm x y h:=by unfold ltS at *;simp at *;omega
 neg x y z h:=by unfold ltS at *;simp at *;omega
theorem D0 (x y:bD):bB cC.mk x y=some (if x.lo<y.lo then -1 else if y.lo<x.lo then 1 else if x.hi<y.hi then -1 else if y.hi<x.hi then 1 else 0):=by
 unfold bB Pk
 simp only [ZW,i9]
 have key:∀ a b:Int,aM (gY [a,b]) 0=some (if a≠0 then .inl a else if b≠0 then .inl b else .inr ()):=fun a b=>by
  have h0:gY [a,b] 0=if a≠0 then some (.inr (.inl a)) else some (.inl 1):=by
   unfold gY
   have:idx [a,b] 0=some a:=rfl
   by_cases h:a=0 <;> simp [this,h] <;> rfl
  have h1:gY [a,b] 1=if b≠0 then some (.inr (.inl b)) else some (.inl 2):=by
   unfold gY
   have:idx [a,b] 1=some b:=rfl
   by_cases h:b=0 <;> simp [this,h] <;> rfl
  have h2:gY [a,b] 2=some (.inr (.inr ())):=by
   unfold gY;simp
  by_cases ha:a=0
  ·have e0:gY [a,b] 0=some (.inl 1):=by rw [h0,if_neg (by simpa using ha)]
   by_cases hb:b=0
   ·have e1:gY [a,b] 1=some (.inl 2):=by rw [h1,if_neg (by simpa using hb)]
    rw [iY e0,iY e1,dK h2,if_neg (by simpa using ha),if_neg (by simpa using hb)]
   ·have e1:gY [a,b] 1=some (.inr (.inl b)):=by rw [h1,if_pos hb]
    rw [iY e0,dK e1,if_neg (by simpa using ha),if_pos hb]
  ·have e0:gY [a,b] 0=some (.inr (.inl a)):=by rw [h0,if_pos ha]
   rw [dK e0,if_pos ha]
 rw [key]
 by_cases c1:x.lo<y.lo
 ·simp [c1]
 ·by_cases c2:y.lo<x.lo
  ·simp [c1,c2]
  ·by_cases c3:x.hi<y.hi
   ·simp [c1,c2,c3]
   ·by_cases c4:y.hi<x.hi <;> simp [c1,c2,c3,c4]
theorem brS (β:Type) (x y:bD) (k:Bool→Option β):brC (bB cC.mk) β x y k=k (ltS x y):=by
 unfold brC ltS
 rw [D0,i9]
 congr 1
 by_cases c1:x.lo<y.lo
 ·simp [c1]
 ·by_cases c2:y.lo<x.lo
  ·have:¬ x.lo=y.lo:=by omega
   simp [c1,c2,this]
  ·have:x.lo=y.lo:=by omega
   by_cases c3:x.hi<y.hi
   ·simp [this,c3]
   ·by_cases c4:y.hi<x.hi <;> simp [this,c3,c4]
theorem TS {l:List bD} (hl:l.length≤1073741824):∃ r,cJ l=some r∧r.Perm l:=by
 rw [TR]
 obtain ⟨r,h1,h2,_⟩:=Nc (P:=fun _=>True) (d:=⟨0,0⟩) (fun β x y k _ _=>brS β x y k) C6 (l:=l) ⟨by omega,fun _ _ _=>trivial⟩
 exact ⟨r,h1,h2⟩
noncomputable def UW {α:Type} (q:α→Option Bool) (s:List α):Int→Option (Int ⊕ (Int ⊕ Unit)):=fun k =>
 if decide (k<(s.length:Int)) then ((idx s k).bind fun x=>(q x).bind fun r=>if r then some (.inr (.inl k)) else some (.inl (aQ k 1))) else some (.inr (.inr ()))
noncomputable def UX {α:Type} (s:Int×Int×List α):Int×List α→Option (Int×Int×List α ⊕ Int×List α):=fun j=>some (.inl (j.1,aQ s.2.1 1,j.2))
noncomputable def YQ {α:Type} (q:α→Option Bool):Int×Int×List α→Option (Int×Int×List α ⊕ Int×List α):=fun s =>
 if decide (s.2.1<(s.2.2.length:Int)) then ((idx s.2.2 s.2.1).bind fun x=>(q x).bind fun r=>if !r then ((idx s.2.2 s.1).bind fun _=>UX s (aQ s.1 1,m7 s.2.2 (l4 s.1) x)) else UX s (s.1,s.2.2)) else some (.inr (s.1,s.2.2))
noncomputable def df {α:Type} (q:α→Option Bool) (z:α) (h:List α):Option (List α):=
 ((aM (UW q h) 0).bind fun x=>match x with | .inl j=>some j | .inr _=>some (-1)).bind fun r2=>if (r2==(-1)) then (some h) else ((aM (YQ q) (r2,(aQ r2 1),h)).bind fun a0=>if (decide ((0:Int)≤a0.1)&&(decide (a0.1≤(a0.2.length:Int))&&decide ((a0.2.length:Int)≤(a0.2.length:Int)))) then ((slc (cpy a0.2 (l4 a0.1) (q8 (l4 (a0.2.length:Int)-l4 a0.1) z)) 0 a0.1).bind fun a1=>some a1) else none)
theorem RM {α R:Type} (l:List α) (body:Int→Option (Int ⊕ R)) (q:α→Bool) (yes:Nat→R) (no:R) (step:∀ (k:Nat) (x:α),l[k]?=some x→body k=if q x then some (.inr (yes k)) else some (.inl ((k+1:Nat):Int))) (fin:body (l.length:Int)=some (.inr no)) :
  aM body 0=some (match l.findIdx? q with | some i=>yes i | none=>no):=by
 have key:∀ (m k:Nat),k+m=l.length→aM body (k:Int)=some (match (l.drop k).findIdx? q with | some i=>yes (k+i) | none=>no):=by
  intro m
  induction m with
  | zero =>
    intro k h;obtain rfl:k=l.length:=by omega
    rw [List.drop_length,dK fin];rfl
  | succ m ih =>
    intro k h
    have hk:k<l.length:=by omega
    have hx:l[k]?=some l[k]:=by simp
    have hs:=step k _ hx
    rw [K7 hk,List.findIdx?_cons]
    cases hq:q l[k] with
    | true=>rw [hq] at hs;rw [dK hs];simp
    | false =>
      rw [hq] at hs
      rw [iY hs,ih (k+1) (by omega)]
      cases (l.drop (k+1)).findIdx? q with
      | none=>rfl
      | some i=>simp;congr 1;omega
 have:=key l.length 0 (by omega)
 simpa using this
theorem XG {α:Type} {q:α→Option Bool} {p:α→Bool} (hq:∀ x,q x=some (p x)) (z:α) {h:List α} (hl:h.length≤100000000):df q z h=some (h.filter fun x=>!p x):=by
 unfold df
 rw [RM h (UW q h) p (fun k=>.inl (k:Int)) (.inr ()) (fun k x hx=>?s) ?f]
 case s =>
  have hk:=aX hx
  have hd:decide ((k:Int)<(h.length:Int))=true:=by simp [hk]
  unfold UW
  simp only [hd,if_true,aW hx,i9,hq,bG k (by omega)]
 case f=>simp [UW]
 cases hf:h.findIdx? p with
 | none =>
   rw [R6] at hf
   have:h.filter (fun x=>!p x)=h:=by
    rw [T9];intro x hx;rw [hf x hx];rfl
   rw [this];rfl
 | some i =>
   obtain ⟨hi,hpi,hmin⟩:=G7.1 hf
   have e1:((i:Int)==-1)=false:=by
    rw [beq_eq_false_iff_ne];omega
   simp only [i9,e1,j9,if_false]
   have fst:(h.take (i+1)).filter (fun x=>!p x)=h.take i:=by
    rw [G5,l8 hi,M9]
    have a1:(h.take i).filter (fun x=>!p x)=h.take i:=by
     rw [T9]
     intro x hx
     obtain ⟨k,hk,rfl⟩:=List.mem_iff_getElem.1 hx
     rw [x7] at hk
     rw [List.getElem_take]
     have:=hmin k (by omega)
     simpa using this
    rw [a1]
    simp [hpi]
   obtain ⟨r,q1,w,s,q2,q3,q4⟩:=mH (fun t:Int×Int×List α=>((h.length:Int)-t.2.1).toNat)
    (fun t:Int×Int×List α=>∃ w k:Nat,t.1=w∧t.2.1=k∧k≤h.length∧w<k∧t.2.2.length=h.length∧t.2.2.take w=(h.take k).filter (fun x=>!p x)∧t.2.2.drop k=h.drop k)
    (fun r:Int×List α=>∃ (w:Nat) (s:List α),r=((w:Int),s)∧w≤s.length∧s.take w=h.filter fun x=>!p x) (YQ q) (by
     rintro ⟨w',k',s⟩ ⟨w,k,hw',hk',hk,hwk,hs,ht,hd⟩
     simp only at hw' hk' hs ht hd ⊢
     subst hw' hk'
     unfold YQ
     by_cases hkn:k<h.length
     ·left
      have hdc:decide ((k:Int)<(s.length:Int))=true:=by simp;omega
      obtain ⟨x,hx⟩:∃ x,h[k]?=some x:=⟨_,l8 hkn⟩
      have hsx:s[k]?=some x:=by
       have:=congrArg (fun l=>l[0]?) hd
       simp only [E8,Nat.add_zero] at this
       rw [this];exact hx
      obtain ⟨y,hy⟩:∃ y,s[w]?=some y:=⟨_,l8 (by omega)⟩
      have htk:h.take (k+1)=h.take k++[x]:=by rw [G5,hx];rfl
      have hdk:s.drop (k+1)=h.drop (k+1):=by
       have:=congrArg List.tail hd
       simpa [List.tail_drop] using this
      simp only [hdc,if_true,aW hsx,i9,hq]
      cases hpx:p x with
      | true =>
        refine ⟨((w:Int),((k+1:Nat):Int),s),by simp [UX,bG k (by omega)],⟨w,k+1,rfl,rfl,by omega,by omega,hs, ?_,hdk⟩,by simp only;omega⟩
        rw [htk,M9,← ht];simp [hpx]
      | false =>
        refine ⟨(((w+1:Nat):Int),((k+1:Nat):Int),s.set w x),by simp [UX,aW hy,bG k (by omega),bG w (by omega)],⟨w+1,k+1,rfl,rfl,by omega,by omega,by simp [hs], ?_, ?_⟩,by simp only;omega⟩
        ·rw [htk,M9,← ht,G5,List.take_set_of_le (v7 w)]
         rw [List.getElem?_set_self (by omega)]
         simp [hpx]
        ·rw [List.drop_set_of_lt (by omega),hdk]
     ·right
      have hdc:decide ((k:Int)<(s.length:Int))=false:=by simp;omega
      refine ⟨((w:Int),s),by simp only [hdc,j9,if_false],w,s,rfl,by omega, ?_⟩
      rw [ht,show k=h.length by omega,E7]) ((i:Int),aQ (i:Int) 1,h)
    ⟨i,i+1,rfl,by simp only [bG i (by omega)],hi,Nat.lt_succ_self i,rfl,by rw [fst],rfl⟩
   subst q2
   rw [q1]
   simp only [i9,y9]
   have c1:(decide ((0:Int)≤(w:Int))&&(decide ((w:Int)≤(s.length:Int))&&decide ((s.length:Int)≤(s.length:Int))))=true:=by simp;exact q3
   rw [c1,if_pos rfl]
   unfold slc cpy
   rw [if_pos ⟨w8 0,by omega,by simp;omega⟩]
   simp only [i9,y9,Int.toNat_zero,Q5]
   rw [K4,M7 (by rw [x7];omega),List.take_take,Nat.min_self,q4]
theorem TV (l:List bD) (hl:l.length≤1000):Aa l=some (l.filter fun s=>!decide (aK s.hi s.lo<2)):=by
 have h:Aa l=(df Bq ⟨0,0⟩ l).bind fun r=>some r:=rfl
 rw [h,XG (q:=Bq) (p:=fun s=>decide (aK s.hi s.lo<2)) (fun x=>rfl) _ (by omega)]
 rfl
theorem UT (a:List aF) (b:List aY) (c d e f g i:Int) (l:List Int) (hl:l.length≤100000000):dH a b c d e f g i l=some (l.filter fun y=>!(decide (y<d) || decide (y>aK (aQ d f) i))):=by
 have h:dH a b c d e f g i l=df (fun y=>lR y a b c d e f g i) 0 l:=rfl
 rw [h,XG (p:=fun y=>decide (y<d) || decide (y>aK (aQ d f) i)) (fun y=>?_) _ hl]
 unfold lR
 cases decide (y<d) <;> rfl
end Go.SM
namespace Go.SM
open Go Go.VI Go.Cells
def So (a w b v:Int):Int:=max 0 (max (b-a-w) (a-b-v))
def ovI (a w b v:Int):Prop:=a<b+v∧b<a+w
instance (a w b v:Int):Decidable (ovI a w b v):=by unfold ovI;infer_instance
def Sg (g:Int) (c:Bool) (r o:aF) (x y:Int):Prop:=
 (ovI (x+r.X) r.W o.X o.W∧ovI (y+r.Y) r.H o.Y o.H)∨(max (So (x+r.X) r.W o.X o.W) (So (y+r.Y) r.H o.Y o.H)<g∧¬ (c=true∧max (So (x+r.X) r.W o.X o.W) (So (y+r.Y) r.H o.Y o.H)=0))
structure BO (o:aY):Prop where
 v:vR o.aF
 g:0≤o.gap∧o.gap≤14400
def inN (l:List bD) (x:Int):Prop:=∃ s ∈ l,s.lo<x∧x<s.hi
theorem Ru (l:List bD) (hl:l.length≤3) (hb:∀ s ∈ l,-16777216≤s.lo∧s.lo≤16777216∧-16777216≤s.hi∧s.hi≤8388608):∃ r,Aa l=some r∧r.length≤3∧(∀ s ∈ r,s.hi≤8388608)∧∀ x,inN l x→inN r x:=by
 refine ⟨_,TV l (by omega),J1 (O0 _ _) hl,fun s hs=>(hb s (O1.1 hs).1).2.2.2,fun x ⟨s,hs,h⟩=>⟨s,O1.2 ⟨hs, ?_⟩,h⟩⟩
 have:=hb s hs
 rw [bP (by omega) (by omega)]
 have:¬ s.hi-s.lo<2:=by omega
 simp [this]
theorem TU {o:aY} {r:aF} {y:Int} (ho:BO o) (hr:vR r) (hy : -4194304≤y∧y≤4194304):∃ l,sU o r y=some l∧l.length≤3∧(∀ s ∈ l,s.hi≤8388608)∧∀ x,Sg o.gap o.common r o.aF x y→inN l x:=by
 obtain ⟨hov,hg⟩:=ho
 unfold vR at hov hr
 unfold sU
 simp (disch:=omega) only [bA,bP,Rb]
 have em:(if decide (r.Y+y<o.aF.Y+o.aF.H)=true then some (decide (o.aF.Y<r.Y+y+r.H)) else some false)=some (decide (r.Y+y<o.aF.Y+o.aF.H∧o.aF.Y<r.Y+y+r.H)):=by by_cases h:r.Y+y<o.aF.Y+o.aF.H <;> simp [h]
 rw [em]
 generalize hu:max (max 0 (o.aF.Y-r.Y-y-r.H)) (r.Y+y-o.aF.Y-o.aF.H)=u
 have eb:∀ a:Int,(a==0)=decide (a=0):=fun a=>by by_cases h:a=0 <;> simp [h]
 simp only [i9,eb]
 by_cases h1:u ≥ o.gap∧u>0
 ·refine ⟨[],by simp [h1.1,h1.2],by simp,by simp,fun x hb=>?_⟩
  unfold Sg ovI So at hb;omega
 have e1:(if decide (u ≥ o.gap)=true then some (decide (u>0)) else some false)=some false:=by
  by_cases h:u ≥ o.gap
  ·have:¬ u>0:=fun q=>h1 ⟨h,q⟩
   simp [h,this]
  ·simp [h]
 simp only [e1,i9,j9,if_false]
 by_cases hc:o.common=true
 ·by_cases hm:r.Y+y<o.aF.Y+o.aF.H∧o.aF.Y<r.Y+y+r.H
  ·obtain ⟨l,q1,q2,q3,q4⟩:=Ru [⟨o.aF.X-r.X-r.W-o.gap,o.aF.X-r.X-r.W⟩,⟨o.aF.X-r.X-r.W,o.aF.X+o.aF.W-r.X⟩,⟨o.aF.X+o.aF.W-r.X,o.aF.X+o.aF.W-r.X+o.gap⟩] (by simp) (by simp;omega)
   refine ⟨l,by simp [hc,hm,q1],q2,q3,fun x hb=>q4 x ?_⟩
   unfold Sg ovI So at hb;unfold inN;simp [hc] at hb ⊢;omega
  ·by_cases h0:u=0
   ·obtain ⟨l,q1,q2,q3,q4⟩:=Ru [⟨o.aF.X-r.X-r.W-o.gap,o.aF.X-r.X-r.W⟩,⟨o.aF.X+o.aF.W-r.X,o.aF.X+o.aF.W-r.X+o.gap⟩] (by simp) (by simp;omega)
    refine ⟨l,by simp [hc,hm,h0,q1],q2,q3,fun x hb=>q4 x ?_⟩
    unfold Sg ovI So at hb;unfold inN;simp [hc] at hb ⊢;omega
   ·obtain ⟨l,q1,q2,q3,q4⟩:=Ru [⟨o.aF.X-r.X-r.W-o.gap,o.aF.X+o.aF.W-r.X+o.gap⟩] (by simp) (by simp;omega)
    refine ⟨l,by simp [hc,hm,h0,q1],q2,q3,fun x hb=>q4 x ?_⟩
    unfold Sg ovI So at hb;unfold inN;simp [hc] at hb ⊢;omega
 ·have hc : o.common=false:=by simpa using hc
  by_cases h2:u=0∧o.gap=0∧¬ (r.Y+y<o.aF.Y+o.aF.H∧o.aF.Y<r.Y+y+r.H)
  ·refine ⟨[],by simp [hc,h2.1,h2.2.1,h2.2.2],by simp,by simp,fun x hb=>?_⟩
   unfold Sg ovI So at hb;omega
  ·obtain ⟨l,q1,q2,q3,q4⟩:=Ru [⟨o.aF.X-r.X-r.W-o.gap,o.aF.X+o.aF.W-r.X+o.gap⟩] (by simp) (by simp;omega)
   have e2:(if decide (u=0)=true then if decide (o.gap=0)=true then some (!decide (r.Y+y<o.aF.Y+o.aF.H∧o.aF.Y<r.Y+y+r.H)) else some false else some false)=some false:=by
    by_cases a:u=0
    ·by_cases b:o.gap=0
     ·have:(r.Y+y<o.aF.Y+o.aF.H∧o.aF.Y<r.Y+y+r.H):=Classical.byContradiction fun q=>h2 ⟨a,b,q⟩
      simp [a,b,this]
     ·simp [b]
    ·simp [a]
   refine ⟨l,by simp only [hc,j9,if_false,i9,e2,q1],q2,q3,fun x hb=>q4 x ?_⟩
   unfold Sg ovI So at hb;unfold inN;simp [hc] at hb ⊢;omega
structure BS (s:gX):Prop where
 r:∀ r ∈ s.tP,vR r
 rl:s.tP.length≤12
 o:∀ o ∈ s.cY,BO o
 ol:s.cY.length≤1000
def Sp (L:List bD) (n:Nat) (B:Int→Prop):Prop:=L.length≤n∧(∀ p ∈ L,p.hi≤8388608)∧∀ x,B x→inN L x
theorem Sp.app {a b:List bD} {n m:Nat} {A B:Int→Prop} (h:Sp a n A) (g:Sp b m B):Sp (a++b) (n+m) (fun x=>A x∨B x):=by
 obtain ⟨a1,a2,a3⟩:=h;obtain ⟨b1,b2,b3⟩:=g
 refine ⟨by rw [E5];omega,fun p hp=>(q9.1 hp).elim (a2 p) (b2 p),fun x q=>?_⟩
 rcases q with q | q
 ·obtain ⟨s,hs,h⟩:=a3 x q;exact ⟨s,I6 _ hs,h⟩
 ·obtain ⟨s,hs,h⟩:=b3 x q;exact ⟨s,I4 _ hs,h⟩
theorem Sp.imp {a:List bD} {n m:Nat} {A B:Int→Prop} (h:Sp a n A) (hn:n≤m) (hi:∀ x,B x→A x):Sp a m B:=⟨J1 h.1 hn,h.2.1,fun x q=>h.2.2 x (hi x q)⟩
theorem GP {s:gX} (h:BS s) {y:Int} (hy : -4194304≤y∧y≤4194304):∃ L,sX s y=some L∧Sp L 100000 fun x=>∃ o ∈ s.cY,∃ r ∈ s.tP,Sg o.gap o.common r o.aF x y:=by
 have hol:=h.ol
 have hrl:=h.rl
 obtain ⟨a,q1,q2⟩:=lJ s.cY (fun k (t:List bD)=>((k:Int),t)) (kB s y) (fun t=>t) (fun k t=>Sp t (36*k) fun x=>∃ o ∈ s.cY.take k,∃ r ∈ s.tP,Sg o.gap o.common r o.aF x y) [] ⟨by simp,by simp,by simp⟩
  (fun k o t ho hI=>by
   have hk:=aX ho
   have hd:decide ((k:Int)<(s.cY.length:Int))=true:=by simp [hk]
   obtain ⟨b,p1,p2⟩:=lJ s.tP (fun k (t:List bD)=>((k:Int),t)) (kA s y o) (fun t=>t) (fun j u=>Sp u (36*k+3*j) fun x=>(∃ o ∈ s.cY.take k,∃ r ∈ s.tP,Sg o.gap o.common r o.aF x y)∨∃ r ∈ s.tP.take j,Sg o.gap o.common r o.aF x y) t (hI.imp (by omega) (by simp))
    (fun j r u hr hJ=>by
     have hj:=aX hr
     have hd:decide ((j:Int)<(s.tP.length:Int))=true:=by simp [hj]
     obtain ⟨l,e1,e2,e3,e4⟩:=TU (h.o o (m5 ho)) (h.r r (m5 hr)) hy
     have u1:=hJ.1
     unfold kA
     simp only [hd,if_true,aW hr,i9,e1,bG j (by omega)]
     rw [iF (by unfold LIM;omega)]
     refine ⟨_,rfl,(hJ.app (B:=fun x=>Sg o.gap o.common r o.aF x y) ⟨e2,e3,e4⟩).imp (by omega) fun x q=>?_⟩
     rw [pN hr] at q
     rcases q with q | ⟨r',hr',q⟩
     ·exact .inl (.inl q)
     ·rcases q9.1 hr' with w | w
      ·exact .inl (.inr ⟨r',w,q⟩)
      ·simp at w;subst w;exact .inr q) (fun u _=>by simp [kA])
   rw [E7] at p2
   have p1':aM (kA s y o) (0,t)=some b:=p1
   unfold kB
   simp only [hd,if_true,aW ho,i9,p1',bG k (by omega)]
   refine ⟨_,rfl,p2.imp (by omega) fun x ⟨o',ho',r,hr,q⟩=>?_⟩
   rw [pN ho] at ho'
   rcases q9.1 ho' with w | w
   ·exact .inl ⟨o',w,r,hr,q⟩
   ·simp at w;subst w;exact .inr ⟨r,hr,q⟩) (fun t _=>by simp [kB])
 rw [E7] at q2
 have a1:=q2.1
 obtain ⟨r,r1,r2⟩:=TS (l:=a) (by omega)
 refine ⟨r, ?_,by rw [r2.length_eq];omega,fun p hp=>q2.2.1 p (r2.mem_iff.1 hp),fun x hx=>?_⟩
 ·have q1':aM (kB s y) (0,[])=some a:=q1
  unfold sX
  simp only [q1',i9,r1]
 ·obtain ⟨t,ht,hh⟩:=q2.2.2 x hx
  exact ⟨t,r2.mem_iff.2 ht,hh⟩
theorem QF (L:List bD) (hL:L.length≤100000) {m hi:Int} (hm:m≤8388608) (hhi:∀ p ∈ L,p.hi≤8388608):∃ x,Le L m hi=some (x,decide (x≤hi))∧m≤x∧¬ inN L x:=by
 have round:∀ x,x≤8388608→∃ t:Int×Bool,aM (yI L m hi) (x,false,0)=some t∧x≤t.1∧t.1≤8388608∧(t.2=false→t.1=x∧∀ p ∈ L,¬ (p.lo<x∧x<p.hi))∧(t.2=true→x<t.1):=fun x hx=>by
  obtain ⟨a,q1,q2⟩:=lJ L (fun k (t:Int×Bool)=>(t.1,t.2,(k:Int))) (yI L m hi) (fun t=>t) (fun k t=>x≤t.1∧t.1≤8388608∧(t.2=false→t.1=x∧∀ p ∈ L.take k,¬ (p.lo<x∧x<p.hi))∧(t.2=true→x<t.1)) (x,false) ⟨w8 x,hx,fun _=>⟨rfl,fun p hp=>by simp at hp⟩,fun q=>by cases q⟩
   (fun k p t hp hI=>by
    obtain ⟨i1,i2,i4,i5⟩:=hI
    have hk:=aX hp
    have hd:decide ((k:Int)<(L.length:Int))=true:=by simp [hk]
    unfold yI Dl
    simp only [hd,if_true,aW hp,i9,bG k (by omega)]
    by_cases hc:p.lo<t.1∧t.1<p.hi
    ·refine ⟨(p.hi,true),by simp [hc.1,hc.2],by simp only;omega,hhi p (m5 hp),fun q=>absurd q (by simp),fun _=>by simp only;omega⟩
    ·have e:(if decide (p.lo<t.1)=true then some (decide (t.1<p.hi)) else some false)=some false:=by
      by_cases a:p.lo<t.1
      ·have:¬ t.1<p.hi:=fun b=>hc ⟨a,b⟩
       simp [a,this]
      ·simp [a]
     refine ⟨t,by simp only [e,i9,j9,if_false],i1,i2,fun q=>⟨(i4 q).1,fun p' hp'=>?_⟩,i5⟩
     rw [pN hp] at hp'
     rcases q9.1 hp' with w | w
     ·exact (i4 q).2 p' w
     ·simp at w;subst w
      rw [(i4 q).1] at hc;exact hc) (fun t _=>by simp [yI])
  rw [E7] at q2
  exact ⟨a,q1,q2⟩
 obtain ⟨r,q1,q2⟩:=mH (fun t:Int×Bool=>(8388608-t.1).toNat*2+(if t.2 then 1 else 0))
  (fun t:Int×Bool=>m≤t.1∧t.1≤8388608∧(t.2=false→¬ inN L t.1))
  (fun x=>m≤x∧¬ inN L x) (Dm L m hi) (by
   rintro ⟨x,b⟩ ⟨i1,i2,i4⟩
   simp only at i1 i2 i4 ⊢
   cases b with
   | true =>
     left
     obtain ⟨⟨x',b'⟩,w1,w2,w3,w5,w6⟩:=round x i2
     refine ⟨(x',b'),by simp [Dm,w1],⟨by simp only at w2 ⊢;omega,w3,fun q ⟨p,hp,hh⟩=>?_⟩, ?_⟩
     ·obtain ⟨e,hn⟩:=w5 q
      simp only at e hh
      rw [e] at hh;exact hn p hp hh
     ·cases b' with
      | true=>have:=w6 rfl;simp only [if_true] at this w3 ⊢;omega
      | false=>obtain ⟨e,_⟩:=w5 rfl;simp only at e;subst e;simp
   | false=>right;exact ⟨x,by simp [Dm],i1,i4 rfl⟩) (m,true)
  ⟨w8 m,hm,fun q=>by cases q⟩
 exact ⟨r,by unfold Le;rw [q1];rfl,q2⟩
theorem HA {s:gX} (h:BS s):∃ ys,sY s=some ys∧ys.length≤100000∧∀ y ∈ ys,s.rB.Y≤y∧y≤aK (aQ s.rB.Y s.rB.H) s.h:=by
 have hol:=h.ol
 have hrl:=h.rl
 have l1:∀ (o:aY) (r:aF) (t:List Int),t.length≤100000→∃ u,aM (kC o r) (0,t)=some u∧u.length≤t.length+4:=fun o r t ht=>by
  obtain ⟨a,q1,q2⟩:=lJ [0,o.gap] (fun k (t:List Int)=>((k:Int),t)) (kC o r) (fun t=>t) (fun k u=>u.length≤t.length+2*k) t (by simp)
   (fun k x u hx hI=>by
    have hk:=aX hx
    have hd:decide ((k:Int)<(([0,o.gap]:List Int).length:Int))=true:=by rw [decide_eq_true_eq];omega
    simp at hk
    unfold kC
    simp only [hd,if_true,aW hx,i9,bG k (by omega)]
    rw [iF (by simp [LIM];omega)]
    exact ⟨_,rfl,by simp;omega⟩) (fun t _=>by simp [kC])
  exact ⟨a,q1,by simpa using q2⟩
 obtain ⟨a,q1,q2⟩:=lJ s.cY (fun k (t:List Int)=>((k:Int),t)) (kE s) (fun t=>t) (fun k t=>t.length≤1+48*k) [s.rB.Y] (by simp)
  (fun k o t ho hI=>by
   have hk:=aX ho
   have hd:decide ((k:Int)<(s.cY.length:Int))=true:=by simp [hk]
   obtain ⟨b,p1,p2⟩:=lJ s.tP (fun k (t:List Int)=>((k:Int),t)) (kD s o) (fun t=>t) (fun j u=>u.length≤t.length+4*j) t (by simp)
    (fun j r u hr hJ=>by
     have hj:=aX hr
     have hd:decide ((j:Int)<(s.tP.length:Int))=true:=by simp [hj]
     obtain ⟨v,v1,v2⟩:=l1 o r u (by omega)
     unfold kD
     simp only [hd,if_true,aW hr,i9,v1,bG j (by omega)]
     exact ⟨_,rfl,by omega⟩) (fun t _=>by simp [kD])
   have p1':aM (kD s o) (0,t)=some b:=p1
   unfold kE
   simp only [hd,if_true,aW ho,i9,p1',bG k (by omega)]
   exact ⟨_,rfl,by omega⟩) (fun t _=>by simp [kE])
 obtain ⟨r,r1,r2,r3⟩:=TQ (l:=a) (by omega)
 have hr:r.length=a.length:=r2.length_eq
 obtain ⟨q,c1,c2,c3⟩:=Wf LL (fun x y a b=>by unfold ltI at a b;simp at a b;omega) (eqb:=fun x y=>x==y) (fun x y=>by simp) (0:Int) (l:=r) (by omega) r3
 have ql:q.length≤r.length:=uW (c2.imp fun h=>by unfold ltI at h;simpa using h) fun x hx=>(c3 x).1 hx
 have q1':aM (kE s) (0,[s.rB.Y])=some a:=q1
 refine ⟨_,by unfold sY;simp only [q1',i9,r1,Oo,c1];rw [UT _ _ _ _ _ _ _ _ _ (by omega)];rfl,J1 (O0 _ _) (by omega),fun y hy=>?_⟩
 have:=(O1.1 hy).2
 simp only [F2,Bool.or_eq_false_iff,decide_eq_false_iff_not] at this
 omega
theorem EX {α β R:Type} (l:List α) (body:Int→Option (Int ⊕ R)) (yes:β→R) (no:R) (Q:β→Prop) (step:∀ (k:Nat) y,l[k]?=some y→(∃ p,body (k:Int)=some (.inr (yes p))∧Q p)∨body (k:Int)=some (.inl ((k+1:Nat):Int))) (fin:body (l.length:Int)=some (.inr no)) :
  ∃ o:Option β,aM body 0=some (match o with | some p=>yes p | none=>no)∧∀ p,o=some p→Q p:=by
 have key:∀ (n k:Nat),k+n=l.length→∃ o:Option β,aM body (k:Int)=some (match o with | some p=>yes p | none=>no)∧∀ p,o=some p→Q p:=by
  intro n
  induction n with
  | zero => intro k h;obtain rfl:k = l.length := by omega
            exact ⟨none,dK fin,by simp⟩
  | succ n ih =>
    intro k h
    rcases step k (l[k]'(by omega)) (l8 (by omega)) with ⟨p,h1,h2⟩ | h1
    ·exact ⟨some p,dK h1,by simpa using h2⟩
    ·rw [iY h1];exact ih (k+1) (by omega)
 exact key l.length 0 (by omega)
def Fe (s:gX) (p:Int×Int):Prop:=s.rB.X≤p.1∧p.1≤s.rB.X+s.rB.W-s.w∧s.rB.Y≤p.2∧p.2≤s.rB.Y+s.rB.H-s.h∧∀ o ∈ s.cY,∀ r ∈ s.tP,¬ Sg o.gap o.common r o.aF p.1 p.2
theorem SI {s:gX} (h:BS s) {m:Int} (hm:0≤m∧m≤14400) (ax:s.rB.X=m) (ay:s.rB.Y=m) (aw:0≤s.rB.W∧s.rB.W≤1048576) (ah:0≤s.rB.H∧s.rB.H≤1048576) (hw:0≤s.w∧s.w≤4194304) (hh:0≤s.h∧s.h≤4194304) :
  ∃ o:Option (Int×Int),vX s=some (match o with | some p=>(p.1,p.2,true) | none=>(0,0,false))∧∀ p,o=some p→Fe s p:=by
 unfold vX
 by_cases c1:s.w>s.rB.W
 ·exact ⟨none,by simp [c1],by simp⟩
 by_cases c2:s.h>s.rB.H
 ·exact ⟨none,by simp [c1,c2],by simp⟩
 obtain ⟨ys,y1,y3,y2⟩:=HA h
 have e1:aK (aQ s.rB.X s.rB.W) s.w=s.rB.X+s.rB.W-s.w:=by rw [bA (by omega) (by omega),bP (by omega) (by omega)]
 rw [bA (by omega) (by omega),bP (by omega) (by omega)] at y2
 obtain ⟨o,q1,q2⟩:=EX ys (rQ s ys) (fun p:Int×Int=>.inl p) (.inr ()) (Fe s) (fun k y hy=>by
  have hk:=aX hy
  obtain ⟨h1,h2⟩:=y2 y (m5 hy)
  have hd:decide ((k:Int)<(ys.length:Int))=true:=by simp [hk]
  obtain ⟨L,b1,b2,b3,b4⟩:=GP h (y:=y) (by omega)
  obtain ⟨x,f1,f2,f3⟩:=QF L b2 (m:=s.rB.X) (hi:=s.rB.X+s.rB.W-s.w) (by omega) b3
  unfold rQ
  simp only [hd,if_true,aW hy,i9,b1,e1,f1,bG k (by omega)]
  by_cases c:x≤s.rB.X+s.rB.W-s.w
  ·exact .inl ⟨(x,y),by simp [c],f2,c,h1,h2,fun o ho r hr hb=>f3 (b4 x ⟨o,ho,r,hr,hb⟩)⟩
  ·exact .inr (by simp [c])) (by simp [rQ])
 refine ⟨o, ?_,q2⟩
 simp only [c1,c2,decide_false,j9,if_false,i9,y1,q1]
 cases o <;> rfl
end Go.SM
namespace Go.SM
open Go Go.VI
theorem EW {α β:Type} (l:List α) (f:α→β) (body:Int×List β→Option ((Int×List β) ⊕ List β)) (hl:l.length≤1000) (step:∀ (k:Nat) x acc,l[k]?=some x→body ((k:Int),acc)=(app acc [f x]).bind fun l'=>some (.inl (((k+1:Nat):Int),l'))) (fin:∀ acc,body ((l.length:Int),acc)=some (.inr acc)) :
  aM body (0,[])=some (l.map f):=by
 refine gN l body (fun k=>((k:Int),(l.take k).map f)) _ (fun k x hx=>?_) ?_
 ·have hk:=(m9.1 hx).1
  rw [step k x _ hx,iF (by unfold LIM;simp;omega)]
  simp only [i9]
  rw [G5,hx]
  simp
 ·rw [fin,E7]
def qR (r:aF):aF:=⟨-(r.Y+r.H),r.X,r.H,r.W⟩
theorem Zm {r:aF} (h:vR r):vR (qR r):=by unfold vR at h ⊢;simp only [qR];omega
theorem D4 {a b:Int} {r:aF} (h:inB a b r):inB (-(b+1048576)) a (qR r):=by unfold inB at h ⊢;simp only [qR];omega
def Good (a b:Int) (l:List aF):Prop:=l.length≤12∧∀ r ∈ l,vR r∧inB a b r
theorem Good.q {a b:Int} {l:List aF} (h:Good a b l):Good (-(b+1048576)) a (l.map qR):=by
 refine ⟨by rw [p9];exact h.1,fun r hr=>?_⟩
 obtain ⟨x,hx,rfl⟩:=E3.1 hr
 exact ⟨Zm (h.2 x hx).1,D4 (h.2 x hx).2⟩
theorem A7 {r:aF} (h:vR r):Bi r=some (qR r):=by
 unfold vR at h
 unfold Bi qR
 rw [Re (by omega) (by omega),bP (by omega) (by omega)]
 congr 2
 omega
theorem Xk {a b:Int} {l:List aF} (h:Good a b l):vG l=some (l.map qR):=by
 unfold vG
 rw [EW l qR (xM l) (by have:=h.1;omega) (fun k x acc hx=>?_) (fun acc=>?_)]
 ·rfl
 ·have hk:=(m9.1 hx).1
  have:=h.1
  unfold xM
  have h1:decide ((k:Int)<(l.length:Int))=true:=by simp;omega
  simp only [h1,if_true,aW hx,i9,A7 (h.2 x (m5 hx)).1]
  rw [bA (a:=(k:Int)) (by omega) (by omega)]
  rfl
 ·simp [xM]
theorem YK (f:Flat) (h:f.qQ=[]):aM (eZ f) (0,[])=some []:=by
 refine dK ?_
 unfold eZ
 rw [h];rfl
theorem IA {a b:Int} {R C F:List aF} (h1:Good a b R) (h2:Good a b C) (h3:Good a b F):Fg ⟨R,C,F,[]⟩=some ⟨R.map qR,C.map qR,F.map qR,[]⟩:=by
 unfold Fg fV
 rw [YK _ rfl,Xk h1,Xk h2,Xk h3]
 rfl
def tq:Nat→List aF→List aF
 | 0,l=>l
 | n+1,l=>(tq n l).map qR
def ta:Nat→Int×Int→Int×Int
 | 0,p=>p
 | n+1,p=>(-((ta n p).2+1048576),(ta n p).1)
theorem Good.tq {l:List aF} (h:Good 0 0 l):∀ n,Good (ta n (0,0)).1 (ta n (0,0)).2 (SM.tq n l)
 | 0=>h
 | n+1=>(Good.tq h n).q
theorem OJ {R C F:List aF} (h1:Good 0 0 R) (h2:Good 0 0 C) (h3:Good 0 0 F) (n:Nat) (hn:n≤3):aM (uU (n:Int)) (0,R,C,F,[])=some (tq n R,tq n C,tq n F,[]):=by
 have:=gN (s9 n) (uU (n:Int)) (fun k=>((k:Int),tq k R,tq k C,tq k F,[])) (tq n R,tq n C,tq n F,[]) (fun k x hx=>?_) ?_
 ·exact this
 ·have hk:=(m9.1 hx).1
  rw [J8] at hk
  unfold uU
  have h1':decide ((k:Int)<(n:Int))=true:=by simp;omega
  simp only [h1',if_true,IA (h1.tq k) (h2.tq k) (h3.tq k),i9]
  rw [bA (a:=(k:Int)) (by omega) (by omega)]
  rfl
 ·simp [uU]
theorem BG (n:Nat) (l:List aF):(tq n l).length=l.length:=by
 induction n with
 | zero=>rfl
 | succ n ih=>rw [tq,p9,ih]
def mvR (x y:Int) (r:aF):aF:=⟨aQ r.X x,aQ r.Y y,r.W,r.H⟩
theorem Ns (a b:Int) (ha : -4194304≤a∧a≤4194304) (hb : -4194304≤b∧b≤4194304):aQ a (xU b)=aK a b:=by
 rw [Re (by omega) (by omega),bA (by omega) (by omega),bP (by omega) (by omega)];omega
theorem mv0 {a b:Int} {l:List aF} (h:Good a b l):l.map (mvR 0 0)=l:=by
 conv=>rhs;rw [← List.map_id l]
 refine G1 fun r hr=>?_
 have hv:=(h.2 r hr).1
 unfold vR at hv
 unfold mvR
 rw [bA (by omega) (by omega),bA (by omega) (by omega),Int.add_zero,Int.add_zero]
 rfl
theorem Na {a b:Int} {l:List aF} (h:Good a b l) (mx my w ht:Int) (hx : -1048576≤mx∧mx≤1048576) (hy : -1048576≤my∧my≤1048576):tF l mx my w ht=some (l.map (mvR (xU mx) (xU my))):=by
 unfold tF
 rw [EW l (mvR (xU mx) (xU my)) (vQ l mx my w ht) (by have:=h.1;omega) (fun k r acc hr=>?_) (fun acc=>?_)]
 ·rfl
 ·have hk:=(m9.1 hr).1
  have:=h.1
  have hv:=(h.2 r (m5 hr)).1
  unfold vR at hv
  unfold vQ Gh
  have h1:decide ((k:Int)<(l.length:Int))=true:=by simp;omega
  simp only [h1,if_true,aW hr,i9,mvR]
  rw [bA (a:=(k:Int)) (by omega) (by omega),Ns _ _ (by omega) (by omega),Ns _ _ (by omega) (by omega)]
  rfl
 ·simp [vQ]
theorem xN {a b mx my:Int} {l:List aF} (h:Good a b l) (hx:a≤mx∧mx≤a+1048576) (hy:b≤my∧my≤b+1048576) (qx : -1048576≤mx∧mx≤1048576) (qy : -1048576≤my∧my≤1048576):Good (a-mx) (b-my) (l.map (mvR (xU mx) (xU my))):=by
 refine ⟨by rw [p9];exact h.1,fun r hr=>?_⟩
 obtain ⟨x,hxm,rfl⟩:=E3.1 hr
 obtain ⟨p1,p2⟩:=h.2 x hxm
 have hv:=p1
 unfold vR at hv
 unfold mvR
 rw [Ns _ _ (by omega) (by omega),Ns _ _ (by omega) (by omega),bP (by omega) (by omega),bP (by omega) (by omega)]
 unfold inB at p2 ⊢
 unfold vR
 simp only
 omega
theorem LX {l:List aF} (hl:l.length≤12) {r:aF} {t:List aF} (hc:l=r::t):∃ w h p q u v,Ik l=some (⟨uJ l r.X,uK l r.Y,w,h⟩,p,q,u,v):=by
 have i0:idx l 0=some r:=by rw [hc];rfl
 have hlt:l.length=t.length+1:=by rw [hc];rfl
 have e1:slc l 1 (l.length:Int)=some t:=by
  unfold slc
  rw [if_pos (by omega)]
  have:(l.length:Int).toNat=l.length:=by omega
  rw [this,E7,hc];rfl
 let F:Int×Int×Int×Int→aF→Int×Int×Int×Int:=fun s x=>(wJ s.1 x.X,wJ s.2.1 x.Y,aK (imax (aQ s.1 s.2.2.1) (aQ x.X x.W)) (wJ s.1 x.X),aK (imax (aQ s.2.1 s.2.2.2) (aQ x.Y x.H)) (wJ s.2.1 x.Y))
 have key:aM (wR t) (0,r.X,r.Y,r.W,r.H)=some (t.foldl F (r.X,r.Y,r.W,r.H)):=by
  refine gN t (wR t) (fun k=>((k:Int),(t.take k).foldl F (r.X,r.Y,r.W,r.H))) _ (fun k x hx=>?_) ?_
  ·have hk:=(m9.1 hx).1
   unfold wR
   have h1:decide ((k:Int)<(t.length:Int))=true:=by simp;omega
   have e:t.take (k+1)=t.take k++[x]:=by rw [G5,hx];rfl
   simp only [h1,if_true,aW hx,i9,e]
   rw [bA (a:=(k:Int)) (by omega) (by omega),K0]
   rfl
  ·simp [wR]
 have hX:∀ (t:List aF) (s:Int×Int×Int×Int),(t.foldl F s).1=t.foldl (fun s r=>min s r.X) s.1∧(t.foldl F s).2.1=t.foldl (fun s r=>min s r.Y) s.2.1:=by
  intro t
  induction t with
  | nil=>intro s;exact ⟨rfl,rfl⟩
  | cons x t ih =>
    intro s
    simp only [y8]
    obtain ⟨a,b⟩:=ih (F s x)
    rw [a,b]
    have q1:(F s x).1=min s.1 x.X:=Rc _ _
    have q2:(F s x).2.1=min s.2.1 x.Y:=Rc _ _
    rw [q1,q2]
    exact ⟨rfl,rfl⟩
 obtain ⟨a,b⟩:=hX t (r.X,r.Y,r.W,r.H)
 refine ⟨(t.foldl F (r.X,r.Y,r.W,r.H)).2.2.1,(t.foldl F (r.X,r.Y,r.W,r.H)).2.2.2,(t.foldl F (r.X,r.Y,r.W,r.H)).1,(t.foldl F (r.X,r.Y,r.W,r.H)).2.1,(t.foldl F (r.X,r.Y,r.W,r.H)).2.2.1,(t.foldl F (r.X,r.Y,r.W,r.H)).2.2.2, ?_⟩
 unfold Ik
 rw [i0]
 simp only [i9,e1,key]
 have c1:uJ l r.X=(t.foldl F (r.X,r.Y,r.W,r.H)).1:=by rw [a,hc];unfold uJ;simp only [y8,Int.min_self]
 have c2:uK l r.Y=(t.foldl F (r.X,r.Y,r.W,r.H)).2.1:=by rw [b,hc];unfold uK;simp only [y8,Int.min_self]
 rw [c1,c2]
theorem HK {a b:Int} {l:List aF} (h:Good a b l) {r:aF} {t:List aF} (hc:l=r::t):(a≤uJ l r.X∧uJ l r.X≤a+1048576∧-1048576≤uJ l r.X∧uJ l r.X≤1048576)∧(b≤uK l r.Y∧uK l r.Y≤b+1048576∧-1048576≤uK l r.Y∧uK l r.Y≤1048576):=by
 have hr:r ∈ l:=by rw [hc];simp
 constructor
 ·obtain ⟨x,hx,e⟩:∃ x ∈ l,uJ l r.X=x.X:=by
   rcases AD (l:=l) (g:=fun r=>r.X) (a:=r.X) with e | ⟨x,hx,e⟩
   ·exact ⟨r,hr,e⟩
   ·exact ⟨x,hx,e⟩
  have p:=h.2 x hx
  unfold vR inB at p
  omega
 ·obtain ⟨x,hx,e⟩:∃ x ∈ l,uK l r.Y=x.Y:=by
   rcases AD (l:=l) (g:=fun r=>r.Y) (a:=r.Y) with e | ⟨x,hx,e⟩
   ·exact ⟨r,hr,e⟩
   ·exact ⟨x,hx,e⟩
  have p:=h.2 x hx
  unfold vR inB at p
  omega
theorem C9 {a b:Int} {l:List aF} (h:Good a b l):aM (xX l) 0=some (.inr ()):=by
 have:=gD l (xX l) (fun k=>(k:Int)) (fun x=>!decide (vR x)) (.inr ()) (.inl ()) rfl (fun k x hx=>?_) ?_
 ·refine this.trans ?_
  have:l.any (fun x=>!decide (vR x))=false:=by
   rw [s7];intro x hx;simp [(h.2 x hx).1]
  rw [this];rfl
 ·have hk:=(m9.1 hx).1
  have:=h.1
  unfold xX
  have h1:decide ((k:Int)<(l.length:Int))=true:=by simp;omega
  simp only [h1,if_true,aW hx,i9,iT]
  rw [bA (a:=(k:Int)) (by omega) (by omega)]
  rfl
 ·simp [xX]
theorem DR {a b:Int} {R C F:List aF} (h1:Good a b R) (h2:Good a b C) (h3:Good a b F) (h0:0<R.length):Gg ⟨R,C,F,[]⟩=some 0:=by
 unfold Gg
 have e0:((R.length:Int)==0)=false:=by rw [beq_eq_false_iff_ne];omega
 have key:aM (xY ⟨R,C,F,[]⟩) 0=some (.inr ()):=by
  have:=gD [R,C,F] (xY ⟨R,C,F,[]⟩) (fun k=>(k:Int)) (fun _=>false) (.inr ()) (.inl ()) rfl (fun k x hx=>?_) ?_
  ·refine this.trans ?_;simp
  ·have hk:=(m9.1 hx).1
   have hm:x=R∨x=C∨x=F:=by have:=m5 hx;simpa using this
   have hg:Good a b x:=by rcases hm with rfl | rfl | rfl <;> assumption
   have h4:decide ((k:Int)<(([R,C,F]:List (List aF)).length:Int))=true:=by rw [decide_eq_true_eq];exact P4.2 hk
   have h5:decide ((x.length:Int)>48)=false:=by have:=hg.1;simp;omega
   have hk':k<3:=hk
   unfold xY
   simp only [h4,if_true,aW hx,i9,h5,j9,if_false,C9 hg]
   rw [bA (a:=(k:Int)) (by omega) (by omega)]
   rfl
  ·simp [xY]
 have b0:aM (Iu ⟨R,C,F,[]⟩) 0=some (.inr ()):=dK (by simp [Iu])
 simp only [e0,j9,if_false,key,b0,i9]
theorem YL (f:Flat) (h:f.qQ=[]) (a b c d:Int):aM (fA f a b c d) (0,[])=some []:=by
 refine dK ?_
 unfold fA
 rw [h];rfl
theorem IP {a b:Int} {R C F:List aF} (h1:Good a b R) (h2:Good a b C) (h3:Good a b F) {r:aF} {t:List aF} (hc:R=r::t) :
  Fh ⟨R,C,F,[]⟩=some (⟨R.map (mvR (xU (uJ R r.X)) (xU (uK R r.Y))),C.map (mvR (xU (uJ R r.X)) (xU (uK R r.Y))),F.map (mvR (xU (uJ R r.X)) (xU (uK R r.Y))),[]⟩,0):=by
 obtain ⟨w,h,p,q,u,v,e⟩:=LX h1.1 hc
 obtain ⟨⟨lx1,lx2,lx3,lx4⟩,ly1,ly2,ly3,ly4⟩:=HK h1 hc
 unfold Fh
 rw [e]
 simp only [i9]
 unfold fW
 rw [YL _ rfl,Na h1 _ _ _ _ ⟨lx3,lx4⟩ ⟨ly3,ly4⟩,Na h2 _ _ _ _ ⟨lx3,lx4⟩ ⟨ly3,ly4⟩,Na h3 _ _ _ _ ⟨lx3,lx4⟩ ⟨ly3,ly4⟩]
 simp only [i9]
 rw [DR (xN h1 ⟨lx1,lx2⟩ ⟨ly1,ly2⟩ ⟨lx3,lx4⟩ ⟨ly3,ly4⟩) (xN h2 ⟨lx1,lx2⟩ ⟨ly1,ly2⟩ ⟨lx3,lx4⟩ ⟨ly3,ly4⟩) (xN h3 ⟨lx1,lx2⟩ ⟨ly1,ly2⟩ ⟨lx3,lx4⟩ ⟨ly3,ly4⟩) (by rw [p9,hc];simp)]
 rfl
theorem Bo {l:List aF} (hl:l.length≤12) (x y:Int):Cq l x y=some (l.map (mvR x y)):=by
 unfold Cq
 have hmk:mk (l.length:Int) (aF.mk 0 0 0 0)=some (q8 l.length ⟨0,0,0,0⟩):=by
  unfold mk;rw [if_pos (by unfold LIM;omega)];simp
 have hc:cpy (q8 l.length (aF.mk 0 0 0 0)) 0 (List.take (min l.length (q8 l.length (aF.mk 0 0 0 0)).length) l)=l:=by
  unfold cpy;simp
 rw [hmk]
 simp only [i9,hc]
 have key:aM (yL l x y (q8 l.length ⟨0,0,0,0⟩)) (0,l)=some (l.map (mvR x y)):=by
  refine gN l (yL l x y (q8 l.length ⟨0,0,0,0⟩)) (fun k=>((k:Int),(l.take k).map (mvR x y)++l.drop k)) _ (fun k r hr=>?_) ?_
  ·have hk:=(m9.1 hr).1
   unfold yL
   rw [hc]
   have h1:decide ((k:Int)<(l.length:Int))=true:=by simp;omega
   have ht:((l.take k).map (mvR x y)).length=k:=by simp;omega
   have ed:l.drop k=r::l.drop (k+1):=by rw [K7 hk];congr 1;exact (m9.1 hr).2
   have i1:∀ z:aF,idx ((l.take k).map (mvR x y)++z::l.drop (k+1)) (k:Int)=some z:=fun z=>aW (by rw [x8 (by omega),ht];simp)
   have s1:∀ z z':aF,m7 ((l.take k).map (mvR x y)++z::l.drop (k+1)) k z'=(l.take k).map (mvR x y)++z'::l.drop (k+1):=fun z z'=>by rw [List.set_append_right _ _ (by omega),ht];simp
   simp only [h1,if_true,ed,i1,s1,i9,y9]
   rw [bA (a:=(k:Int)) (by omega) (by omega)]
   have e:l.take (k+1)=l.take k++[r]:=by rw [G5,hr];rfl
   rw [e,H3,K4]
   rfl
  ·unfold yL
   rw [hc]
   simp
 rw [key]
 rfl
theorem Vr {x:aS} (h:VP x) (n:Nat) (hn:n≤3) {r:aF} {t:List aF} (hc:tq n x.aD=r::t):xL ⟨x.aD,x.bQ,x.Forms,[]⟩ (n:Int)=some (⟨(tq n x.aD).map (mvR (xU (uJ (tq n x.aD) r.X)) (xU (uK (tq n x.aD) r.Y))),(tq n x.bQ).map (mvR (xU (uJ (tq n x.aD) r.X)) (xU (uK (tq n x.aD) r.Y))),(tq n x.Forms).map (mvR (xU (uJ (tq n x.aD) r.X)) (xU (uK (tq n x.aD) r.Y))),[]⟩,0):=by
 have g1:Good 0 0 x.aD:=⟨h.n1,h.v1⟩
 have g2:Good 0 0 x.bQ:=⟨h.n2,h.v2⟩
 have g3:Good 0 0 x.Forms:=⟨h.n3,h.v3⟩
 unfold xL
 have t1:decide ((n:Int)<0)=false:=by simp
 have t2:decide ((n:Int)>3)=false:=by simp;omega
 have t3:aM (Eo ⟨x.aD,x.bQ,x.Forms,[]⟩) ()=some ():=dK (by simp [Eo])
 simp only [DR g1 g2 g3 h.n0,i9,bne_self_eq_false,j9,if_false,t1,t2,OJ g1 g2 g3 n hn,t3,IP (g1.tq n) (g2.tq n) (g3.tq n) hc]
structure Iso (g:aF→aF) (l:List aF):Prop where
 v:∀ a ∈ l,vR a→vR (g a)
 ov:∀ a ∈ l,∀ b ∈ l,iQ (g a) (g b)=iQ a b
 to:∀ a ∈ l,∀ b ∈ l,sH (g a) (g b)=sH a b
 de:∀ a ∈ l,∀ b ∈ l,Ev (g a) (g b)=Ev a b
 ze:∀ a ∈ l,∀ b ∈ l,Sb (g a) (g b)=Sb a b
 th:∀ a ∈ l,(((g a).W==1) || ((g a).H==1))=((a.W==1) || (a.H==1))
def trR (x y:Int) (r:aF):aF:=⟨r.X+x,r.Y+y,r.W,r.H⟩
theorem Ry {a b:aF} (ha:vR a) (hb:vR b):sH a b=some (decide ((min (a.X+a.W) (b.X+b.W)-max a.X b.X=0∧min (a.Y+a.H) (b.Y+b.H)-max a.Y b.Y>0)∨(min (a.Y+a.H) (b.Y+b.H)-max a.Y b.Y=0∧min (a.X+a.W) (b.X+b.W)-max a.X b.X>0))):=by
 unfold vR at ha hb
 unfold sH
 rw [bA (by omega) (by omega),bA (by omega) (by omega),bA (by omega) (by omega),bA (by omega) (by omega)]
 simp only [Rc,Rb]
 rw [bP (by omega) (by omega),bP (by omega) (by omega)]
 generalize min (a.X+a.W) (b.X+b.W)-max a.X b.X=w
 generalize min (a.Y+a.H) (b.Y+b.H)-max a.Y b.Y=h
 by_cases h1:w=0
 ·by_cases h2:h>0
  ·simp [h1,h2]
  ·by_cases h3:h=0
   ·simp [h1,h3]
   ·simp [h1,h2,h3]
 ·by_cases h3:h=0
  ·simp [h1,h3]
  ·simp [h1,h3]
theorem Mi {a b:aF} (ha:vR a) (hb:vR b):Ev a b=decide (a.X>b.X∧a.Y>b.Y∧a.X+a.W<b.X+b.W∧a.Y+a.H<b.Y+b.H):=by
 unfold vR at ha hb
 unfold Ev
 rw [bA (by omega) (by omega),bA (by omega) (by omega),bA (by omega) (by omega),bA (by omega) (by omega)]
 by_cases h1:a.X>b.X <;> by_cases h2:a.Y>b.Y <;> by_cases h3:a.X+a.W<b.X+b.W <;> simp [h1,h2,h3]
theorem ZZ {l:List aF} (h:∀ r ∈ l,vR r):Iso qR l:=by
 refine ⟨fun a _ hv=>Zm hv,fun a ha b hb=>?_,fun a ha b hb=>?_,fun a ha b hb=>?_,fun a ha b hb=>?_,fun a ha=>?_⟩
 ·unfold iQ
  refine decide_eq_decide.2 ?_
  have p1:=h a ha;have p2:=h b hb;have p3:=Zm p1;have p4:=Zm p2
  unfold ovR
  simp only [p1,p2,p3,p4,true_and]
  simp only [qR]
  omega
 ·rw [Ry (Zm (h a ha)) (Zm (h b hb)),Ry (h a ha) (h b hb)]
  congr 1
  refine decide_eq_decide.2 ?_
  simp only [qR]
  omega
 ·rw [Mi (Zm (h a ha)) (Zm (h b hb)),Mi (h a ha) (h b hb)]
  refine decide_eq_decide.2 ?_
  simp only [qR]
  omega
 ·have p1:=h a ha;have p2:=h b hb;have p3:=Zm p1;have p4:=Zm p2
  have:Gf (qR a) (qR b)=Gf a b:=by
   unfold Gf
   rw [if_pos ⟨p3,p4⟩,if_pos ⟨p1,p2⟩]
   simp only [qR]
   omega
  unfold Sb;rw [this]
 ·show ((a.H==1) || (a.W==1))=_
  exact Bool.or_comm _ _
theorem A0 {l:List aF} (x y:Int) (h:∀ r ∈ l,vR r∧vR (trR x y r)):Iso (trR x y) l:=by
 refine ⟨fun a ha _=>(h a ha).2,fun a ha b hb=>?_,fun a ha b hb=>?_,fun a ha b hb=>?_,fun a ha b hb=>?_,fun a ha=>rfl⟩
 ·unfold iQ
  refine decide_eq_decide.2 ?_
  have p1:=(h a ha).1;have p2:=(h b hb).1;have p3:=(h a ha).2;have p4:=(h b hb).2
  unfold ovR
  simp only [p1,p2,p3,p4,true_and]
  simp only [trR]
  omega
 ·rw [Ry (h a ha).2 (h b hb).2,Ry (h a ha).1 (h b hb).1]
  congr 1
  refine decide_eq_decide.2 ?_
  simp only [trR]
  omega
 ·rw [Mi (h a ha).2 (h b hb).2,Mi (h a ha).1 (h b hb).1]
  refine decide_eq_decide.2 ?_
  simp only [trR]
  omega
 ·have:Gf (trR x y a) (trR x y b)=Gf a b:=by
   unfold Gf
   rw [if_pos ⟨(h a ha).2,(h b hb).2⟩,if_pos ⟨(h a ha).1,(h b hb).1⟩]
   simp only [trR]
   omega
  unfold Sb;rw [this]
theorem FD {g:aF→aF} {p:aF→aF→Bool} {l:List aF} (h:∀ a ∈ l,∀ b ∈ l,p (g a) (g b)=p a b) (k:Nat):Mv p (l.map g) k=Mv p l k:=by
 unfold Mv
 rw [p8]
 cases e:l[k]? with
 | none=>rfl
 | some x =>
   have hx:=m5 e
   simp only [s8]
   rw [← List.map_take,List.any_map,V3,E2,E2]
   constructor
   ·rintro ⟨y,hy,q⟩;exact ⟨y,hy,by rw [← h x hx y (G4 hy)];exact q⟩
   ·rintro ⟨y,hy,q⟩;exact ⟨y,hy,by show p (g x) (g y)=true;rw [h x hx y (G4 hy)];exact q⟩
theorem KF {α β:Type} (g:α→β) (l:List α) (i:Int):idx (l.map g) i=(idx l i).map g:=by
 unfold idx
 split
 ·rw [p8]
 ·rfl
theorem UO {g:aF→aF} {l:List aF} (h:∀ a ∈ l,∀ b ∈ l,sH (g a) (g b)=sH a b):mT (l.map g)=mT l:=by
 have mem:∀ {i:Int} {x:aF},idx l i=some x→x ∈ l:=fun {i x} e=>by
  unfold idx at e
  split at e
  ·exact m5 e
  ·cases e
 have b2:∀ x:Int,iJ (l.map g) x=iJ l x:=by
  intro x
  funext s
  unfold iJ
  rw [p9,KF,KF]
  cases e1:idx l x with
  | none=>rfl
  | some u =>
    cases e2:idx l s.1 with
    | none=>rfl
    | some w =>
      simp only [s8,i9]
      rw [h u (mem e1) w (mem e2)]
 have b3:iK (l.map g)=iK l:=by
  funext s
  unfold iK
  simp only [b2]
 unfold mT
 rw [p9,b3]
theorem VG.map {R C F:List aF} {g:aF→aF} (h:VG R C F) (i:Iso g (R++(C++F))):VG (R.map g) (C.map g) (F.map g):=by
 have mR:∀ {a:aF},a ∈ R→a ∈ R++(C++F):=fun h=>q9.2 (.inl h)
 have mC:∀ {a:aF},a ∈ C++F→a ∈ R++(C++F):=fun h=>q9.2 (.inr h)
 refine ⟨by rw [p9];exact h.n1,by rw [p9];exact h.n0,by rw [p9];exact h.n2,by rw [p9];exact h.n3,fun r hr=>?_,fun k hk=>?_, ?_,fun k hk=>?_,fun k hk=>?_⟩
 ·rw [← H3,← H3] at hr
  obtain ⟨a,ha,rfl⟩:=E3.1 hr
  exact i.v a ha (h.v a ha)
 ·rw [FD (fun a ha b hb=>i.ov a (mR ha) b (mR hb))]
  exact h.ov k (by rw [p9] at hk;exact hk)
 ·rw [UO (fun a ha b hb=>i.to a (mR ha) b (mR hb))];exact h.co
 ·rw [← H3,p9] at hk
  obtain ⟨x,h1,h2,h3⟩:=h.ho k hk
  have hx:=m5 h1
  refine ⟨g x,by rw [← H3,p8,h1];rfl, ?_,fun hc=>?_⟩
  ·obtain ⟨r,hr,q⟩:=E2.1 h2
   rw [E2]
   exact ⟨g r,K9 hr,by rw [i.de x (mC hx) r (mR hr)];exact q⟩
  ·rw [i.th x (mC hx)];exact h3 (by rw [p9] at hc;exact hc)
 ·rw [← H3] at hk ⊢
  rw [FD (fun a ha b hb=>i.ze a (mC ha) b (mC hb))]
  exact h.ze k (by rw [p9] at hk;exact hk)
theorem VG.tq {R C F:List aF} (h:VG R C F):∀ n,VG (tq n R) (SM.tq n C) (SM.tq n F)
 | 0=>h
 | n+1=>(VG.tq h n).map (ZZ (VG.tq h n).v)
theorem UC {x:aS} (hn:fI x.Name=some true) (hm:fI x.bH=some true) (hp:(1≤x.cX∧x.cX≤60)∧0≤x.cU∧x.cU≤2) (h:VG x.aD x.bQ x.Forms) {r:aF} (hr:x.aD[0]?=some r) (lx:uJ x.aD r.X=0) (ly:uK x.aD r.Y=0):bM x=some 0:=by
 have i0:idx x.aD 0=some r:=aW (k:=0) hr
 have k1:=h.n1;have k2:=h.n2;have k3:=h.n3;have k0:=h.n0
 have d1:decide ((x.aD.length:Int)>12)=false:=by simp;omega
 have d2:decide ((x.bQ.length:Int)>12)=false:=by simp;omega
 have d3:decide ((x.Forms.length:Int)>12)=false:=by simp;omega
 have d0:((x.aD.length:Int)==0)=false:=by rw [beq_eq_false_iff_ne];omega
 have any0:∀ l:List aF,(∀ r ∈ l,vR r)→(l.any fun x=>!decide (vR x))=false:=fun l hl=>by
  rw [s7];intro y hy;simp [hl y hy]
 have a1:=any0 x.aD fun r hr=>h.v r (q9.2 (.inl hr))
 have a2:=any0 x.bQ fun r hr=>h.v r (q9.2 (.inr (q9.2 (.inl hr))))
 have a3:=any0 x.Forms fun r hr=>h.v r (q9.2 (.inr (q9.2 (.inr hr))))
 have rng:∀ (n:Nat) (p:Nat→Bool),(∀ k,k<n→p k=false)→(s9 n).any p=false:=fun n p hp=>by
  rw [s7];intro k hk;rw [hp k (F5.1 hk)];simp
 have r1:=rng _ _ h.ov
 have r2:=rng _ (Ht x (x.bQ++x.Forms)) fun k hk=>by
  obtain ⟨y,h1,h2,h3⟩:=h.ho k hk
  unfold Ht
  rw [h1]
  simp only [h2,u5,Bool.false_or]
  by_cases hc:k<x.bQ.length
  ·rw [h3 hc,W0]
  ·have:decide ((k:Int)<(x.bQ.length:Int))=false:=by simp;omega
   rw [this,V8]
 have r3:=rng _ _ h.ze
 have ap1:app [] x.bQ=some x.bQ:=by rw [iF (by unfold LIM;simp;omega)];rfl
 have ap2:app x.bQ x.Forms=some (x.bQ++x.Forms):=iF (by unfold LIM;omega)
 have k4:(x.bQ++x.Forms).length≤1000:=by simp;omega
 unfold bM
 simp only [hn,hm,Xx,hp,and_self,decide_true,u5,j9,if_true,if_false,i9,d1,d2,d3,d0,lV x.aD (by omega),lV x.bQ (by omega),lV x.Forms (by omega),a1,a2,a3,E0,i0,EY x (by omega),lx,ly,bne_self_eq_false,ov3 x (by omega),r1,h.co]
 unfold Io
 simp only [ap1,ap2,i9,AE x _ k4 (show x.aD.length≤1000 by omega),r2,in3 _ k4,r3,j9,if_false]
def lo (l:List aF):Int×Int:=match l with
 | []=>(0,0)
 | r::_=>(uJ l r.X,uK l r.Y)
def nrm (R l:List aF):List aF:=l.map (trR (-(lo R).1) (-(lo R).2))
theorem foldl_add (g:aF→Int) (f:aF→aF) (d:Int) (hf:∀ r,g (f r)=g r+d):∀ (l:List aF) (a:Int),(l.map f).foldl (fun s r=>min s (g r)) (a+d)=l.foldl (fun s r=>min s (g r)) a+d
 | [],a=>rfl
 | r::l,a=>by
   simp only [List.map_cons,y8,hf]
   rw [← foldl_add g f d hf l (min a (g r))]
   congr 1
   omega
theorem XM {R:List aF} (hne:R≠[]) (x y:Int):lo (R.map (trR x y))=((lo R).1+x,(lo R).2+y):=by
 cases R with
 | nil=>exact absurd rfl hne
 | cons r t =>
   have h1:=foldl_add (fun r=>r.X) (trR x y) x (fun _=>rfl) (r::t) r.X
   have h2:=foldl_add (fun r=>r.Y) (trR x y) y (fun _=>rfl) (r::t) r.Y
   exact Prod.ext h1 h2
theorem HJ {R:List aF} (hne:R≠[]):lo (nrm R R)=(0,0):=by
 unfold nrm
 rw [XM hne]
 refine Prod.ext ?_ ?_ <;> simp only <;> omega
theorem GD {l:List aF} (n:Nat) (h:0<l.length):tq n l≠[]:=by
 intro e
 have:=BG n l
 rw [e] at this;simp at this;omega
def trn (n:Nat) (R l:List aF):List aF:=nrm (tq n R) (tq n l)
theorem Mb {a b mx my:Int} {l:List aF} (h:Good a b l) (hx : -1048576≤mx∧mx≤1048576) (hy : -1048576≤my∧my≤1048576):l.map (mvR (xU mx) (xU my))=l.map (trR (-mx) (-my)):=by
 refine G1 fun r hr=>?_
 have hv:=(h.2 r hr).1
 unfold vR at hv
 unfold mvR trR
 rw [Re (by omega) (by omega),Re (by omega) (by omega),bA (by omega) (by omega),bA (by omega) (by omega)]
theorem JD {x:aS} (hx:bM x=some 0) (n:Nat) (hn:n≤3):nV x ⟨0,0,0,0,(n:Int)⟩=some (⟨x.Name,x.bH,x.cX,x.cU,trn n x.aD x.aD,trn n x.aD x.bQ,trn n x.aD x.Forms⟩,0,x.Name,x.bH,x.cX,x.cU)∧bM ⟨x.Name,x.bH,x.cX,x.cU,trn n x.aD x.aD,trn n x.aD x.bQ,trn n x.aD x.Forms⟩=some 0:=by
 obtain ⟨z,hz,_,hv⟩:=tZ x
 have h:=hv (w7 (hz.symm.trans hx))
 obtain ⟨hn1,hn2,hn3,vg⟩:=Xq hx
 have g1:Good 0 0 x.aD:=⟨h.n1,h.v1⟩
 have g2:Good 0 0 x.bQ:=⟨h.n2,h.v2⟩
 have g3:Good 0 0 x.Forms:=⟨h.n3,h.v3⟩
 obtain ⟨r,t,hc⟩:∃ r t,tq n x.aD=r::t:=by
  cases e:tq n x.aD with
  | nil=>exact absurd e (GD n h.n0)
  | cons r t=>exact ⟨r,t,rfl⟩
 obtain ⟨⟨lx1,lx2,lx3,lx4⟩,ly1,ly2,ly3,ly4⟩:=HK (g1.tq n) hc
 have k1:=xN (g1.tq n) ⟨lx1,lx2⟩ ⟨ly1,ly2⟩ ⟨lx3,lx4⟩ ⟨ly3,ly4⟩
 have k2:=xN (g2.tq n) ⟨lx1,lx2⟩ ⟨ly1,ly2⟩ ⟨lx3,lx4⟩ ⟨ly3,ly4⟩
 have k3:=xN (g3.tq n) ⟨lx1,lx2⟩ ⟨ly1,ly2⟩ ⟨lx3,lx4⟩ ⟨ly3,ly4⟩
 have hlo:lo (tq n x.aD)=(uJ (tq n x.aD) r.X,uK (tq n x.aD) r.Y):=by
  rw [show lo (tq n x.aD)=lo (r::t) by rw [hc],lo,hc]
 have hQ:=Vr h n hn hc
 rw [Mb (g1.tq n) ⟨lx3,lx4⟩ ⟨ly3,ly4⟩,Mb (g2.tq n) ⟨lx3,lx4⟩ ⟨ly3,ly4⟩,Mb (g3.tq n) ⟨lx3,lx4⟩ ⟨ly3,ly4⟩] at hQ
 rw [Mb (g1.tq n) ⟨lx3,lx4⟩ ⟨ly3,ly4⟩] at k1
 rw [Mb (g2.tq n) ⟨lx3,lx4⟩ ⟨ly3,ly4⟩] at k2
 rw [Mb (g3.tq n) ⟨lx3,lx4⟩ ⟨ly3,ly4⟩] at k3
 have e1:trn n x.aD x.aD=(tq n x.aD).map (trR (-(uJ (tq n x.aD) r.X)) (-(uK (tq n x.aD) r.Y))):=by unfold trn nrm;rw [hlo]
 have e2:trn n x.aD x.bQ=(tq n x.bQ).map (trR (-(uJ (tq n x.aD) r.X)) (-(uK (tq n x.aD) r.Y))):=by unfold trn nrm;rw [hlo]
 have e3:trn n x.aD x.Forms=(tq n x.Forms).map (trR (-(uJ (tq n x.aD) r.X)) (-(uK (tq n x.aD) r.Y))):=by unfold trn nrm;rw [hlo]
 rw [← e1,← e2,← e3] at hQ
 rw [← e1] at k1
 rw [← e2] at k2
 rw [← e3] at k3
 have any0:∀ {a b:Int} {l:List aF},Good a b l→(l.any fun x=>!decide (vR x))=false:=fun {a b l} hl=>by
  rw [s7];intro y hy;simp [(hl.2 y hy).1]
 have n1:=k1.1;have n2:=k2.1;have n3:=k3.1
 refine ⟨?_, ?_⟩
 ·unfold nV
  simp only [hx,i9,bne_self_eq_false,j9,if_false,Fj,show (0≤(n:Int)∧(n:Int)≤3) by omega,show ((-1048576:Int)≤0∧(0:Int)≤1048576) by omega,and_self,decide_true,u5,if_true]
  unfold yN
  simp only [hQ,i9,bne_self_eq_false,j9,if_false,Bo k1.1,Bo k2.1,Bo k3.1,mv0 k1,mv0 k2,mv0 k3,lV _ (show (trn n x.aD x.aD).length≤9223372036854775806 by omega),lV _ (show (trn n x.aD x.bQ).length≤9223372036854775806 by omega),lV _ (show (trn n x.aD x.Forms).length≤9223372036854775806 by omega),any0 k1,any0 k2,any0 k3,E0,u5,if_true]
 ·have hvg:VG (trn n x.aD x.aD) (trn n x.aD x.bQ) (trn n x.aD x.Forms):=by
   rw [e1,e2,e3]
   refine (VG.tq vg n).map (A0 _ _ fun a ha=>⟨(VG.tq vg n).v a ha, ?_⟩)
   rcases q9.1 ha with ha | ha
   ·exact (k1.2 _ (by rw [e1];exact K9 ha)).1
   ·rcases q9.1 ha with ha | ha
    ·exact (k2.2 _ (by rw [e2];exact K9 ha)).1
    ·exact (k3.2 _ (by rw [e3];exact K9 ha)).1
  have hl0:=HJ (GD n h.n0:tq n x.aD≠[])
  have hl0':lo (trn n x.aD x.aD)=(0,0):=hl0
  cases hA:trn n x.aD x.aD with
  | nil=>have:=hvg.n0;rw [hA] at this;simp at this
  | cons r' t' =>
    rw [hA] at hl0'
    have q1:uJ (r'::t') r'.X=0:=congrArg Prod.fst hl0'
    have q2:uK (r'::t') r'.Y=0:=congrArg Prod.snd hl0'
    exact UC (x:=⟨x.Name,x.bH,x.cX,x.cU,r'::t',trn n x.aD x.bQ,trn n x.aD x.Forms⟩) hn1 hn2 hn3 (by rw [← hA];exact hvg) (r:=r') rfl q1 q2
theorem UG {x:aS} {c n m g h q} {p:bK} (hp:nV x p=some (q,c,n,m,g,h)) (hc:c=0):bM x=some 0∧0≤p.Kq∧p.Kq≤3:=by
 subst hc
 obtain ⟨b,b1,_,_⟩:=tZ x
 unfold nV at hp
 rw [b1] at hp
 by_cases hb:b=0
 ·subst hb
  simp only [i9,bne_self_eq_false,j9,if_false,Fj] at hp
  by_cases ht:0≤p.Kq∧p.Kq≤3
  ·exact ⟨b1,ht⟩
  ·simp [ht] at hp
 ·have hb':(b != 0)=true:=by rw [bne_iff_ne];exact hb
  simp only [i9,hb',if_true] at hp
  have:=congrArg (fun o=>(o.getD (q,0,n,m,g,h)).2.1) hp
  exact absurd this hb
theorem Hn {x:aS} (hx:bM x=some 0) (n:Nat) (hn:n≤3):xL ⟨x.aD,x.bQ,x.Forms,[]⟩ (n:Int)=some (⟨trn n x.aD x.aD,trn n x.aD x.bQ,trn n x.aD x.Forms,[]⟩,0)∧∃ a b,Good a b (trn n x.aD x.aD)∧Good a b (trn n x.aD x.bQ)∧Good a b (trn n x.aD x.Forms):=by
 obtain ⟨z,hz,_,hv⟩:=tZ x
 have h:=hv (w7 (hz.symm.trans hx))
 have g1:Good 0 0 x.aD:=⟨h.n1,h.v1⟩
 have g2:Good 0 0 x.bQ:=⟨h.n2,h.v2⟩
 have g3:Good 0 0 x.Forms:=⟨h.n3,h.v3⟩
 obtain ⟨r,t,hc⟩:∃ r t,tq n x.aD=r::t:=by
  cases e:tq n x.aD with
  | nil=>exact absurd e (GD n h.n0)
  | cons r t=>exact ⟨r,t,rfl⟩
 obtain ⟨⟨lx1,lx2,lx3,lx4⟩,ly1,ly2,ly3,ly4⟩:=HK (g1.tq n) hc
 have k1:=xN (g1.tq n) ⟨lx1,lx2⟩ ⟨ly1,ly2⟩ ⟨lx3,lx4⟩ ⟨ly3,ly4⟩
 have k2:=xN (g2.tq n) ⟨lx1,lx2⟩ ⟨ly1,ly2⟩ ⟨lx3,lx4⟩ ⟨ly3,ly4⟩
 have k3:=xN (g3.tq n) ⟨lx1,lx2⟩ ⟨ly1,ly2⟩ ⟨lx3,lx4⟩ ⟨ly3,ly4⟩
 have hlo:lo (tq n x.aD)=(uJ (tq n x.aD) r.X,uK (tq n x.aD) r.Y):=by
  rw [show lo (tq n x.aD)=lo (r::t) by rw [hc],lo,hc]
 have hQ:=Vr h n hn hc
 rw [Mb (g1.tq n) ⟨lx3,lx4⟩ ⟨ly3,ly4⟩,Mb (g2.tq n) ⟨lx3,lx4⟩ ⟨ly3,ly4⟩,Mb (g3.tq n) ⟨lx3,lx4⟩ ⟨ly3,ly4⟩] at hQ
 rw [Mb (g1.tq n) ⟨lx3,lx4⟩ ⟨ly3,ly4⟩] at k1
 rw [Mb (g2.tq n) ⟨lx3,lx4⟩ ⟨ly3,ly4⟩] at k2
 rw [Mb (g3.tq n) ⟨lx3,lx4⟩ ⟨ly3,ly4⟩] at k3
 have e1:trn n x.aD x.aD=(tq n x.aD).map (trR (-(uJ (tq n x.aD) r.X)) (-(uK (tq n x.aD) r.Y))):=by unfold trn nrm;rw [hlo]
 have e2:trn n x.aD x.bQ=(tq n x.bQ).map (trR (-(uJ (tq n x.aD) r.X)) (-(uK (tq n x.aD) r.Y))):=by unfold trn nrm;rw [hlo]
 have e3:trn n x.aD x.Forms=(tq n x.Forms).map (trR (-(uJ (tq n x.aD) r.X)) (-(uK (tq n x.aD) r.Y))):=by unfold trn nrm;rw [hlo]
 rw [← e1,← e2,← e3] at hQ
 rw [← e1] at k1
 rw [← e2] at k2
 rw [← e3] at k3
 exact ⟨hQ,_,_,k1,k2,k3⟩
end Go.SM
namespace Go.SM
open Go Go.VI Go.Cells
theorem BJ (x:aS) (s:aT) (t:Int):∃ b,iD x s t=some b:=by
 unfold iD kP
 cases x.bH.toList==s.bH.toList <;> cases x.cX != s.cX <;> cases decide (0≤t) <;> cases decide (t≤3) <;> cases x.cU==0 <;> cases s.cU==0 <;> exact ⟨_,rfl⟩
theorem RU (x:List aF) (hx:x.length≤1000) (out0:List aY) (h0:out0.length≤100000):aM (nW x) (0,out0)=some (out0++x.map fun r=>⟨r,0,false⟩):=by
 obtain ⟨a,q1,q2⟩:=lJ x (fun k (s:List aY)=>((k:Int),s)) (nW x) (fun s=>s) (fun k s=>s=out0++(x.take k).map fun r=>⟨r,0,false⟩) out0 (by simp)
  (fun k r s hr hI=>by
   have hk:=aX hr
   have hd:decide ((k:Int)<(x.length:Int))=true:=by simp [hk]
   unfold nW
   simp only [hd,if_true,aW hr,i9,bG k (by omega)]
   rw [iF (by rw [hI];simp [LIM];omega)]
   refine ⟨_,rfl, ?_⟩
   rw [pN hr,hI];simp) (fun s _=>by simp [nW])
 rw [E7] at q2
 rw [show ((0:Int),out0)=(((0:Nat):Int),out0) from rfl,q1,q2]
theorem YZ (s:aT) (h1:s.bO.length≤1000) (h2:s.Used.length≤1000):aM (gF s) (0,[])=some ((s.bO++s.Used).map fun r=>⟨r,0,false⟩):=by
 have i0:idx [s.bO,s.Used] 0=some s.bO:=rfl
 have i1:idx [s.bO,s.Used] 1=some s.Used:=rfl
 have d0:decide ((0:Int)<(([s.bO,s.Used]:List (List aF)).length:Int))=true:=rfl
 have d1:decide ((1:Int)<(([s.bO,s.Used]:List (List aF)).length:Int))=true:=rfl
 have d2:decide ((2:Int)<(([s.bO,s.Used]:List (List aF)).length:Int))=false:=rfl
 have s0:gF s (0,[])=some (.inl (1,s.bO.map fun r=>⟨r,0,false⟩)):=by
  unfold gF
  simp only [i0,d0,if_true,i9,RU s.bO h1 [] (by simp),List.nil_append]
  rfl
 have s1:gF s (1,s.bO.map fun r=>⟨r,0,false⟩)=some (.inl (2,(s.bO.map fun r=>(⟨r,0,false⟩:aY))++s.Used.map fun r=>⟨r,0,false⟩)):=by
  unfold gF
  simp only [i1,d1,if_true,i9,RU s.Used h2 _ (show (s.bO.map fun r=>(⟨r,0,false⟩:aY)).length≤100000 by rw [p9];omega)]
  rfl
 have s2:∀ o,gF s (2,o)=some (.inr o):=fun o=>by
  unfold gF
  simp only [d2,j9,if_false]
 rw [iY s0,iY s1,dK (s2 _),H3]
theorem ZA (t:dJ) (x:List aF) (hx:x.length≤1000) (hv:∀ r ∈ x,vR r) (out0:List aY) (h0:out0.length≤100000):aM (nX t x) (0,out0)=some (out0++x.map fun r=>⟨r,t.Gap,t.sA⟩):=by
 obtain ⟨a,q1,q2⟩:=lJ x (fun k (s:List aY)=>((k:Int),s)) (nX t x) (fun s=>s) (fun k s=>s=out0++(x.take k).map fun r=>⟨r,t.Gap,t.sA⟩) out0 (by simp)
  (fun k r s hr hI=>by
   have hk:=aX hr
   have hd:decide ((k:Int)<(x.length:Int))=true:=by simp [hk]
   have vr:=hv r (m5 hr)
   unfold nX sV
   simp only [hd,if_true,aW hr,i9,iT,vr,decide_true,bG k (by omega)]
   rw [iF (by rw [hI];simp [LIM];omega)]
   refine ⟨_,rfl, ?_⟩
   rw [pN hr,hI];simp) (fun s _=>by simp [nX])
 rw [E7] at q2
 rw [show ((0:Int),out0)=(((0:Nat):Int),out0) from rfl,q1,q2]
theorem YT {taken:List (List aF)} (h12:∀ x ∈ taken,x.length≤12):taken.flatten.length≤12*taken.length:=by
 induction taken with
 | nil=>simp
 | cons x t ih =>
   have h1:=ih fun y hy=>h12 y (F7 _ hy)
   have h2:=h12 x F8
   rw [U8,E5,H5];omega
theorem CO {s:aT} {taken:List (List aF)} {t:dJ} (h1:s.bO.length≤4) (h2:s.Used.length≤48) (hl:taken.length≤8) (h12:∀ x ∈ taken,x.length≤12) (hv:∀ x ∈ taken,∀ r ∈ x,vR r) :
  xP s taken t=some ((s.bO++s.Used).map (fun r=>⟨r,0,false⟩)++taken.flatten.map fun r=>⟨r,t.Gap,t.sA⟩):=by
 unfold xP
 rw [YZ s (by omega) (by omega)]
 simp only [i9]
 obtain ⟨a,q1,q2,q3⟩:=lJ taken (fun k (o:List aY)=>((k:Int),o)) (sW taken t) (fun o=>o) (fun k o=>o=((s.bO++s.Used).map fun r=>(⟨r,0,false⟩:aY))++(taken.take k).flatten.map (fun r=>⟨r,t.Gap,t.sA⟩)∧o.length≤52+12*k) ((s.bO++s.Used).map fun r=>⟨r,0,false⟩) ⟨by simp,by rw [p9,E5];omega⟩
  (fun k x o hx hI=>by
   have hk:=aX hx
   have hd:decide ((k:Int)<(taken.length:Int))=true:=by simp [hk]
   obtain ⟨i1,i2⟩:=hI
   have hxm:=m5 hx
   have hx12:=h12 x hxm
   unfold sW
   simp only [hd,if_true,aW hx,i9,ZA t x (by omega) (hv x hxm) o (by omega),bG k (by omega)]
   refine ⟨_,rfl, ?_,by simp only [E5,p9];omega⟩
   rw [pN hx,T7,i1];simp) (fun o _=>by simp [sW])
 rw [E7] at q2
 rw [show ((0:Int),(s.bO++s.Used).map fun r=>(⟨r,0,false⟩:aY))=(((0:Nat):Int),(s.bO++s.Used).map fun r=>(⟨r,0,false⟩:aY)) from rfl,q1,q2]
 rfl
def Zc (l:List aF):Int:=l.foldl (fun a r=>max a (r.X+r.W)) 0
def Zb (l:List aF):Int:=l.foldl (fun a r=>max a (r.Y+r.H)) 0
theorem foldl_max {l:List aF} {g:aF→Int}:∀ {a:Int},a≤l.foldl (fun s r=>max s (g r)) a∧∀ r ∈ l,g r≤l.foldl (fun s r=>max s (g r)) a:=by
 induction l with
 | nil=>intro a;exact ⟨w8 a,fun r hr=>by cases hr⟩
 | cons x l ih =>
   intro a
   rw [y8]
   obtain ⟨h1,h2⟩:=@ih (max a (g x))
   refine ⟨by omega,fun r hr=>?_⟩
   rcases List.mem_cons.1 hr with e | e
   ·subst e;omega
   ·exact h2 r e
theorem Tv {l:List aF} {g:aF→Int} {M:Int} (h:∀ r ∈ l,g r≤M):∀ {a:Int},a≤M→l.foldl (fun s r=>max s (g r)) a≤M:=by
 induction l with
 | nil=>intro a h;exact h
 | cons x l ih =>
   intro a ha
   rw [y8]
   exact ih (fun r hr=>h r (F7 _ hr)) (by have:=h x F8;omega)
theorem KP {l:List aF} (h:∀ r ∈ l,vR r):0≤Zc l∧Zc l≤1048576:=⟨(foldl_max (g:=fun r=>r.X+r.W)).1,Tv (g:=fun r=>r.X+r.W) (fun r hr=>by have:=h r hr;unfold vR at this;omega) (by omega)⟩
theorem KO {l:List aF} (h:∀ r ∈ l,vR r):0≤Zb l∧Zb l≤1048576:=⟨(foldl_max (g:=fun r=>r.Y+r.H)).1,Tv (g:=fun r=>r.Y+r.H) (fun r hr=>by have:=h r hr;unfold vR at this;omega) (by omega)⟩
theorem NJ (r:aS×Int×ByteArray×ByteArray×Int×Int) (hl:r.1.aD.length≤1000) (hv:∀ x ∈ r.1.aD,vR x):aM (Ef r) (0,0,0)=some (Zc r.1.aD,Zb r.1.aD):=by
 obtain ⟨a,q1,q2⟩:=lJ r.1.aD (fun k (s:Int×Int)=>((k:Int),s.1,s.2)) (Ef r) (fun s=>s) (fun k s=>s=(Zc (r.1.aD.take k),Zb (r.1.aD.take k))) (0,0) rfl
  (fun k x s hr hI=>by
   have hk:=aX hr
   have hd:decide ((k:Int)<(r.1.aD.length:Int))=true:=by simp [hk]
   obtain ⟨e1,e2⟩:=JA (hv x (m5 hr))
   unfold Ef
   simp only [hd,if_true,aW hr,i9,e1,e2,Rb,bG k (by omega)]
   refine ⟨(max s.1 (x.X+x.W),max s.2 (x.Y+x.H)),rfl, ?_⟩
   subst hI
   rw [pN hr]
   unfold Zc Zb
   rw [K0,K0];rfl) (fun s _=>by simp [Ef])
 rw [E7] at q2
 rw [show ((0:Int),(0:Int),(0:Int))=(((0:Nat):Int),(0:Int),(0:Int)) from rfl,q1,q2]
theorem QU {s:aT} {m:Int} (hs:VS s) (hm:0≤m∧m≤14400):sG s m=some (⟨m,m,s.dQ-2*m,s.cE-2*m⟩,decide (0<s.dQ-2*m∧0<s.cE-2*m)):=by
 have hw:=hs.w;have hh:=hs.h
 unfold sG
 have e0:gZ 2 m=2*m:=Fl (by omega) (by omega)
 rw [e0,bP (by omega) (by omega),bP (by omega) (by omega),iT]
 simp only [i9]
 congr 2
 exact decide_eq_decide.2 (by unfold vR;simp only;omega)
theorem RO {l:List aF} (h:∀ r ∈ l,vR r) {x y:Int} (hx : -1048576≤x∧x≤1048576) (hy : -1048576≤y∧y≤1048576):l.map (mvR x y)=l.map (trR x y):=by
 refine G1 fun r hr=>?_
 have hv:=h r hr
 unfold vR at hv
 unfold mvR trR
 rw [bA (by omega) (by omega),bA (by omega) (by omega)]
structure TP (x:aS) (n:Nat):Prop where
 q:xL ⟨x.aD,x.bQ,x.Forms,[]⟩ (n:Int)=some (⟨trn n x.aD x.aD,trn n x.aD x.bQ,trn n x.aD x.Forms,[]⟩,0)
 g:VG (trn n x.aD x.aD) (trn n x.aD x.bQ) (trn n x.aD x.Forms)
 v1:∀ r ∈ trn n x.aD x.aD,vR r∧0≤r.X∧0≤r.Y
 v2:∀ c ∈ trn n x.aD x.bQ++trn n x.aD x.Forms,vR c∧∃ r ∈ trn n x.aD x.aD,r.X≤c.X∧r.Y≤c.Y∧c.X+c.W≤r.X+r.W∧c.Y+c.H≤r.Y+r.H
theorem LJ {x:aS} (hx:bM x=some 0) {n:Nat} (hn:n≤3):TP x n:=by
 obtain ⟨_,p2⟩:=JD hx n hn
 obtain ⟨_,_,_,vg⟩:=Xq p2
 obtain ⟨_,_,_,v0⟩:=Xq hx
 have hl:lo (trn n x.aD x.aD)=(0,0):=HJ (GD n v0.n0)
 have v1:∀ r ∈ trn n x.aD x.aD,vR r∧0≤r.X∧0≤r.Y:=fun r hr=>by
  refine ⟨vg.v r (I6 _ hr), ?_⟩
  simp only at vg
  generalize trn n x.aD x.aD=l at hl hr
  cases l with
  | nil=>cases hr
  | cons a t =>
    have h1:=(Qx (l:=a::t) (g:=fun r=>r.X) (a:=a.X)).2 r hr
    have h2:=(Qx (l:=a::t) (g:=fun r=>r.Y) (a:=a.Y)).2 r hr
    have e1:uJ (a::t) a.X=0:=congrArg Prod.fst hl
    have e2:uK (a::t) a.Y=0:=congrArg Prod.snd hl
    unfold uJ at e1;unfold uK at e2
    omega
 refine ⟨(Hn hx n hn).1,vg,v1,fun c hc=>?_⟩
 have vc:=vg.v c (I4 _ hc)
 obtain ⟨k,hk⟩:=u6.1 hc
 obtain ⟨y,h1,h2,_⟩:=vg.ho k (aX hk)
 rw [hk] at h1;injection h1 with h1;subst h1
 obtain ⟨r',hr',hd⟩:=E2.1 h2
 rw [Mi vc (v1 r' hr').1,decide_eq_true_eq] at hd
 exact ⟨vc,r',hr',by omega,by omega,by omega,by omega⟩
theorem KR {x:aS} (hx:bM x=some 0) {n:Nat} (hn:n≤3) (p:bK) (ht:p.Kq=n) (px : -1048576≤p.X∧p.X≤1048576) (py : -1048576≤p.Y∧p.Y≤1048576) (hc:∀ r ∈ trn n x.aD x.aD,vR (trR p.X p.Y r)) :
  ∃ q u1 u2 u3 u4,yN x p=some (q,0,u1,u2,u3,u4)∧nV x p=some (q,0,q.Name,q.bH,q.cX,q.cU)∧q.aD=(trn n x.aD x.aD).map (trR p.X p.Y)∧q.bH=x.bH∧q.cX=x.cX∧q.cU=x.cU:=by
 have tp:=LJ hx hn
 have a1:=tp.g.n1;have a2:=tp.g.n2;have a3:=tp.g.n3
 have m1:=RO (fun r hr=>(tp.v1 r hr).1) px py
 have m2:=RO (l:=trn n x.aD x.bQ) (fun c hc=>(tp.v2 c (I6 _ hc)).1) px py
 have m3:=RO (l:=trn n x.aD x.Forms) (fun c hc=>(tp.v2 c (I4 _ hc)).1) px py
 have hP:nV x p=(yN x p).bind fun r=>some (r.1,r.2.1,r.1.Name,r.1.bH,r.1.cX,r.1.cU):=by
  unfold nV
  simp only [hx,i9,bne_self_eq_false,j9,if_false,Fj,ht,show (0≤(n:Int)∧(n:Int)≤3) by omega,px,py,and_self,decide_true,u5,if_true]
 have inside:∀ c ∈ trn n x.aD x.bQ++trn n x.aD x.Forms,vR (trR p.X p.Y c):=fun c h=>by
  obtain ⟨w1,r,hr',w2,w3,w4,w5⟩:=tp.v2 c h
  have:=hc r hr'
  unfold vR trR at this
  unfold vR at w1
  unfold vR trR
  simp only at this ⊢
  omega
 have any_:∀ l:List aF,(∀ r ∈ l,vR (trR p.X p.Y r))→(l.map (trR p.X p.Y)).any (fun x=>!decide (vR x))=false:=fun l h=>by
  rw [s7]
  intro y hy
  obtain ⟨r,hr,rfl⟩:=E3.1 hy
  simp [h r hr]
 have key:yN x p=some (⟨x.Name,x.bH,x.cX,x.cU,(trn n x.aD x.aD).map (trR p.X p.Y),(trn n x.aD x.bQ).map (trR p.X p.Y),(trn n x.aD x.Forms).map (trR p.X p.Y)⟩,0,x.Name,x.bH,x.cX,x.cU):=by
  unfold yN
  rw [ht,tp.q]
  simp only [i9,bne_self_eq_false,j9,if_false,Bo a1,Bo a2,Bo a3,m1,m2,m3]
  rw [lV _ (by rw [p9];omega),lV _ (by rw [p9];omega),lV _ (by rw [p9];omega)]
  simp only [i9,any_ _ hc,any_ _ fun c h=>inside c (I6 _ h),any_ _ fun c h=>inside c (I4 _ h),E0,u5,if_true,j9,if_false]
 exact ⟨_,_,_,_,_,key,by rw [hP,key];rfl,rfl,rfl,rfl,rfl⟩
structure At (x:aS) (s:aT) (taken:List (List aF)) (t:dJ) (n:Nat) (X Y:Int):Prop where
 n3:n≤3
 al:iD x s (n:Int)=some true
 hX : -1048576≤X∧X≤1048576
 hY : -1048576≤Y∧Y≤1048576
 r:∀ r ∈ trn n x.aD x.aD,vR (trR X Y r)∧pS (trR X Y r) ⟨t.cH,t.cH,s.dQ-2*t.cH,s.cE-2*t.cH⟩∧(∀ o ∈ s.bO++s.Used,¬ ovR (trR X Y r) o)∧∀ l ∈ taken,∀ o ∈ l,blk t (trR X Y r) o=false
section
variable {x:aS} {s:aT} {taken:List (List aF)} {t:dJ} (vs:VS s) (hx:bM x=some 0) (tl:taken.length≤8) (t12:∀ l ∈ taken,l.length≤12) (tv:∀ l ∈ taken,∀ r ∈ l,vR r) (hg:0≤t.Gap∧t.Gap≤14400) (hm:0≤t.cH∧t.cH≤14400)
include vs hx tv hm
theorem ZX {n:Nat} (hn:n≤3) (ha:iD x s (n:Int)=some true) {p:Int×Int}
  (h:Fe ⟨trn n x.aD x.aD,(s.bO++s.Used).map (fun r=>⟨r,0,false⟩)++taken.flatten.map fun r=>⟨r,t.Gap,t.sA⟩,⟨t.cH,t.cH,s.dQ-2*t.cH,s.cE-2*t.cH⟩,Zc (trn n x.aD x.aD),Zb (trn n x.aD x.aD)⟩ p):At x s taken t n p.1 p.2:=by
 obtain ⟨X,Y⟩:=p
 have tp:=LJ hx hn
 have hw:=vs.w;have hh:=vs.h
 have wb:=KP fun r hr=>(tp.v1 r hr).1
 have hb:=KO fun r hr=>(tp.v1 r hr).1
 obtain ⟨f1,f2,f3,f4,f5⟩:=h
 simp only at f1 f2 f3 f4 f5 ⊢
 refine ⟨hn,ha,by omega,by omega,fun r hr=>?_⟩
 obtain ⟨vr,x0,y0⟩:=tp.v1 r hr
 have w1:=(foldl_max (g:=fun r=>r.X+r.W) (a:=0)).2 r hr
 have w2:=(foldl_max (g:=fun r=>r.Y+r.H) (a:=0)).2 r hr
 have e1:r.X+r.W≤Zc (trn n x.aD x.aD):=w1
 have e2:r.Y+r.H≤Zb (trn n x.aD x.aD):=w2
 have vt:vR (trR X Y r):=by
  unfold vR at vr
  unfold vR trR
  simp only
  omega
 refine ⟨vt,⟨vt, ?_, ?_⟩,fun o ho hov=>?_,fun l hl o ho=>?_⟩
 ·unfold vR at vr ⊢
  simp only
  omega
 ·simp only [trR]
  unfold vR at vr
  omega
 ·refine f5 ⟨o,0,false⟩ (I6 _ (E3.2 ⟨o,ho,rfl⟩)) r hr (.inl ?_)
  unfold ovR trR at hov
  unfold ovI
  simp only at hov ⊢
  omega
 ·have nb:=f5 ⟨o,t.Gap,t.sA⟩ (I4 _ (E3.2 ⟨o,M5.2 ⟨l,hl,ho⟩,rfl⟩)) r hr
  have vo:=tv l hl o ho
  cases hb:blk t (trR X Y r) o with
  | false=>rfl
  | true =>
    refine absurd ?_ nb
    have ed:Gf (trR X Y r) o=max (So (X+r.X) r.W o.X o.W) (So (Y+r.Y) r.H o.Y o.H):=by
     unfold Gf So
     rw [if_pos ⟨vt,vo⟩]
     simp only [trR]
     omega
    unfold blk at hb
    rw [ed,F6,o8,decide_eq_true_eq,decide_eq_true_eq,F2,Bool.and_eq_false_iff] at hb
    rcases hb with hb | ⟨h1,h2⟩
    ·left
     unfold ovR trR at hb
     unfold ovI
     simp only at hb ⊢
     omega
    ·refine .inr ⟨h1,fun q=>?_⟩
     rcases h2 with h2 | h2
     ·have:=q.1
      simp only at this
      rw [this] at h2;cases h2
     ·exact (beq_eq_false_iff_ne.1 h2) q.2
include tl t12 hg
theorem YA (hs:eB s=some 0) (ht:eA t=some true):∃ (ok:Bool) (X Y T u1 u2 u3:Int),Rk s taken x t=some (⟨0,0,X,Y,T⟩,ok,0,u1,u2,u3)∧(ok=true→∃ n:Nat,T=n∧At x s taken t n X Y):=by
 have n1:=vs.n1;have n2:=vs.n2;have hw:=vs.w;have hh:=vs.h
 have lf:=YT t12
 have e1:aM (pU taken) 0=some (.inr ()):=gN taken (pU taken) (fun k=>(k:Int)) (.inr ()) (fun k l hl=>by
  have hk:=aX hl
  have hd:decide ((k:Int)<(taken.length:Int))=true:=by simp [hk]
  have:=t12 l (m5 hl)
  have h12:decide ((l.length:Int)>12)=false:=by rw [decide_eq_false_iff_not];omega
  unfold pU
  simp only [hd,if_true,aW hl,i9,h12,j9,if_false,bG k (by omega)]) (by simp [pU])
 have e2:aM (pV taken) 0=some (.inr ()):=gN taken (pV taken) (fun k=>(k:Int)) (.inr ()) (fun k l hl=>by
  have hk:=aX hl
  have hd:decide ((k:Int)<(taken.length:Int))=true:=by simp [hk]
  have hm:=m5 hl
  have:=t12 l hm
  have hv:(l.any fun x=>!decide (vR x))=false:=by rw [s7];intro r hr;simp [tv l hm r hr]
  unfold pV
  simp only [hd,if_true,aW hl,i9,lV l (by omega),hv,E0,u5,j9,if_false,bG k (by omega)]) (by simp [pV])
 have et:zR taken=some 0:=by
  unfold zR
  have:¬ (taken.length:Int)>8:=by omega
  simp only [this,decide_false,j9,if_false,e1,e2,i9]
 unfold Rk
 simp only [hs,et,hx,ht,QU vs hm,i9,bne_self_eq_false,j9,if_false,u5]
 by_cases hi:0<s.dQ-2*t.cH∧0<s.cE-2*t.cH
 case neg=>exact ⟨false,0,0,0,_,_,_,by simp only [hi,decide_false,E0,if_true];rfl,fun q=>by cases q⟩
 have ol:(((s.bO++s.Used).map (fun r=>(⟨r,0,false⟩:aY))++taken.flatten.map fun r=>(⟨r,t.Gap,t.sA⟩:aY))).length≤1000:=by
  simp only [E5,p9];omega
 have ob:∀ o ∈ ((s.bO++s.Used).map (fun r=>(⟨r,0,false⟩:aY))++taken.flatten.map fun r=>(⟨r,t.Gap,t.sA⟩:aY)),BO o:=fun o ho=>by
  rcases q9.1 ho with q | q
  ·obtain ⟨r,hr,rfl⟩:=E3.1 q
   exact ⟨vs.v r hr,show (0:Int)≤0∧(0:Int)≤14400 by omega⟩
  ·obtain ⟨r,hr,rfl⟩:=E3.1 q
   obtain ⟨l,hl,hr⟩:=M5.1 hr
   exact ⟨tv l hl r hr,hg⟩
 simp only [hi,and_self,decide_true,u5,j9,if_false,CO n1 n2 tl t12 tv,i9]
 have fa:=fun (n:Nat) (hn:n≤3) (ha:iD x s (n:Int)=some true) (p:Int×Int)=>ZX vs hx tv hm hn ha (p:=p)
 generalize ((s.bO++s.Used).map (fun r=>(⟨r,0,false⟩:aY))++taken.flatten.map fun r=>(⟨r,t.Gap,t.sA⟩:aY))=obs at ol ob fa
 obtain ⟨a,q1,q2⟩:=lJ (s9 4) (fun k (st:Bool×Int×Int×Int)=>(st.1,(k:Int),st.2.1,st.2.2.1,st.2.2.2)) (As s x (⟨t.cH,t.cH,s.dQ-2*t.cH,s.cE-2*t.cH⟩,true) obs) (fun st=>(st.1,st.2.1,st.2.2.1,st.2.2.2)) (fun _ st=>st.1=true→∃ n:Nat,st.2.2.2=n∧At x s taken t n st.2.1 st.2.2.1) (false,0,0,0) (fun q=>by cases q)
  (fun k n st hk hI=>by
   have hk4:=aX hk
   rw [J8] at hk4
   have hd:decide ((k:Int)<4)=true:=by simp;omega
   obtain ⟨b,hb⟩:=BJ x s (k:Int)
   cases b with
   | false =>
     unfold As wY
     simp only [hd,if_true,hb,i9,E0,bG k (by omega)]
     exact ⟨st,rfl,hI⟩
   | true =>
     have tp:=LJ hx (show k≤3 by omega)
     have hv:=fun r hr=>(tp.v1 r hr).1
     obtain ⟨q,u1,u2,u3,u4,p1,_,p2,_⟩:=KR hx (show k≤3 by omega) ⟨0,0,0,0,(k:Int)⟩ rfl (by simp) (by simp) (fun r hr=>by
      have e:trR 0 0 r=r:=by unfold trR;simp
      show vR (trR 0 0 r);rw [e];exact hv r hr)
     have e0:(trn k x.aD x.aD).map (trR 0 0)=trn k x.aD x.aD:=by
      conv=>rhs;rw [← List.map_id (trn k x.aD x.aD)]
      exact G1 fun r _=>by unfold trR;simp
     have p2':q.aD=trn k x.aD x.aD:=p2.trans e0
     have bw:=KP hv
     have bh:=KO hv
     have bs:BS ⟨trn k x.aD x.aD,obs,⟨t.cH,t.cH,s.dQ-2*t.cH,s.cE-2*t.cH⟩,Zc (trn k x.aD x.aD),Zb (trn k x.aD x.aD)⟩:=⟨hv,tp.g.n1,ob,ol⟩
     obtain ⟨o,o1,o2⟩:=SI bs hm rfl rfl (show 0≤s.dQ-2*t.cH∧s.dQ-2*t.cH≤1048576 by omega) (show 0≤s.cE-2*t.cH∧s.cE-2*t.cH≤1048576 by omega) (show 0≤Zc (trn k x.aD x.aD)∧Zc (trn k x.aD x.aD)≤4194304 by omega) (show 0≤Zb (trn k x.aD x.aD)∧Zb (trn k x.aD x.aD)≤4194304 by omega)
     have pm:=NJ (q,0,u1,u2,u3,u4) (show q.aD.length≤1000 by rw [p2'];have:=tp.g.n1;omega) (show ∀ r ∈ q.aD,vR r by rw [p2'];exact hv)
     simp only [p2'] at pm
     unfold As wY
     simp only [hd,if_true,hb,i9,u5,j9,if_false,p1,bne_self_eq_false,pm,p2',o1,bG k (by omega)]
     cases o with
     | none=>exact ⟨st,by simp,hI⟩
     | some p =>
       have up:=fa k (by omega) hb p (o2 p rfl)
       have upd:∀ g:Bool,True→(true=true→∃ n:Nat,(k:Int)=n∧At x s taken t n p.1 p.2):=fun _ _ _=>⟨k,rfl,up⟩
       obtain ⟨f0,x0,y0,t0⟩:=st
       cases f0 with
       | false=>exact ⟨(true,p.1,p.2,(k:Int)),by simp,upd true trivial⟩
       | true =>
         by_cases c1:p.2<y0
         ·exact ⟨(true,p.1,p.2,(k:Int)),by simp [c1],upd true trivial⟩
         ·by_cases c2:p.2=y0∧p.1<x0
          ·exact ⟨(true,p.1,p.2,(k:Int)),by simp [c2.1,c2.2],upd true trivial⟩
          ·refine ⟨(true,x0,y0,t0), ?_,hI⟩
           by_cases c3:p.2=y0
           ·have:¬ p.1<x0:=fun q=>c2 ⟨c3,q⟩
            simp [c3,this]
           ·simp [c1,c3]) (fun st _=>by simp [As])
 have q1':aM (As s x (⟨t.cH,t.cH,s.dQ-2*t.cH,s.cE-2*t.cH⟩,true) obs) (false,0,0,0,0)=some (a.1,a.2.1,a.2.2.1,a.2.2.2):=q1
 simp only [q1',i9]
 exact ⟨a.1,_,_,_,_,_,_,rfl,q2⟩
end
theorem Ua {a b:List aF} (ha:a.length≤1000) (hb:b.length≤1000):yM a b=some (a.any fun x=>b.any (iQ x)):=by
 have inner:∀ x,aM (tL b x) 0=some (if b.any (iQ x) then .inl () else .inr ()):=by
  intro x
  refine gD b (tL b x) (fun k=>(k:Int)) _ _ _ rfl (fun k y hy=>?_) ?_
  ·have hk:=(m9.1 hy).1
   unfold tL
   have h1:decide ((k:Int)<(b.length:Int))=true:=by simp;omega
   simp only [h1,if_true,aW hy,i9,Ko]
   rw [bA (a:=(k:Int)) (by omega) (by omega)]
   rfl
  ·simp [tL]
 have key:aM (tM a b) 0=some (if (a.any fun x=>b.any (iQ x)) then .inl () else .inr ()):=by
  refine gD a (tM a b) (fun k=>(k:Int)) _ _ _ rfl (fun k x hx=>?_) ?_
  ·have hk:=(m9.1 hx).1
   unfold tM
   have h1:decide ((k:Int)<(a.length:Int))=true:=by simp;omega
   simp only [h1,if_true,aW hx,i9,inner]
   rw [bA (a:=(k:Int)) (by omega) (by omega)]
   cases b.any (iQ x) <;> rfl
  ·simp [tM]
 unfold yM
 rw [key]
 cases (a.any fun x=>b.any (iQ x)) <;> rfl
def lies (l:List aF) (s:aT) (r:aF):Bool:=!(l.any fun x=>!(decide (pS x r)) || (s.bO.any (iQ x) || s.Used.any (iQ x)))
def Hk (s:aT) (m:Int):aF:=⟨m,m,aK s.dQ (gZ 2 m),aK s.cE (gZ 2 m)⟩
theorem EU {x:aS} {s:aT} (t:dJ) (turn:Int) {al:Bool} (hal:iD x s turn=some al) (hl:x.aD.length≤1000) (h0:0<x.aD.length) (h1:s.bO.length≤1000) (h2:s.Used.length≤1000):yJ x s t turn=some (al&&lies x.aD s (Hk s t.cH)):=by
 have hi:sG s t.cH=some (Hk s t.cH,decide (vR (Hk s t.cH))):=by
  unfold sG Hk
  rw [iT];rfl
 have key:aM (tK x (Hk s t.cH,decide (vR (Hk s t.cH)))) 0=some (if (x.aD.any fun y=>!(decide (pS y (Hk s t.cH)))) then .inl () else .inr ()):=by
  refine gD x.aD (tK x (Hk s t.cH,decide (vR (Hk s t.cH)))) (fun k=>(k:Int)) _ _ _ rfl (fun k y hx=>?_) ?_
  ·have hk:=(m9.1 hx).1
   unfold tK
   have hd:decide ((k:Int)<(x.aD.length:Int))=true:=by simp;omega
   simp only [hd,if_true,aW hx,i9,Nf]
   rw [bA (a:=(k:Int)) (by omega) (by omega)]
   rfl
  ·simp [tK]
 unfold yJ
 simp only [hi,i9,hal,key,Ua hl h1,Ua hl h2]
 have hz:lies x.aD s (Hk s t.cH)=(!(x.aD.any fun y=>!(decide (pS y (Hk s t.cH))))&&(!(x.aD.any fun y=>s.bO.any (iQ y))&&!(x.aD.any fun y=>s.Used.any (iQ y)))):=by
  unfold lies
  rw [V3]
  simp only [F2,o8,s7,F6,not_or]
  constructor
  ·intro h;exact ⟨fun y hy=>(h y hy).1,fun y hy=>(h y hy).2.1,fun y hy=>(h y hy).2.2⟩
  ·rintro ⟨a,b,c⟩ y hy;exact ⟨a y hy,b y hy,c y hy⟩
 by_cases hv:vR (Hk s t.cH)
 ·simp only [hv,decide_true,if_true,i9,hz]
  cases al
  ·rfl
  ·cases (x.aD.any fun y=>!(decide (pS y (Hk s t.cH)))) <;> cases (x.aD.any fun y=>s.bO.any (iQ y)) <;> cases (x.aD.any fun y=>s.Used.any (iQ y)) <;> rfl
 ·have:(x.aD.any fun y=>!(decide (pS y (Hk s t.cH))))=true:=by
   rw [E2]
   refine ⟨x.aD[0],F9 h0, ?_⟩
   have:¬ pS x.aD[0] (Hk s t.cH):=fun q=>hv q.2.1
   simp [this]
  rw [hz,this]
  simp only [hv,decide_false,j9,if_false,i9,if_true,u5,V8,W0]
def dup (l:List bK) (p:bK):Bool:=l.any fun q=>q.aS==p.aS
theorem PO (l:List bK) (p:bK) (hl:l.length≤1000):aM (yC p l) 0=some (if dup l p then .inl () else .inr ()):=by
 refine gD l (yC p l) (fun k=>(k:Int)) _ _ _ rfl (fun k x hx=>?_) ?_
 ·have hk:=(m9.1 hx).1
  unfold yC
  have h1:decide ((k:Int)<(l.length:Int))=true:=by simp;omega
  simp only [h1,if_true,aW hx,i9]
  rw [bA (a:=(k:Int)) (by omega) (by omega)]
  rfl
 ·simp [yC]
def FA (t:dJ) (l:List bK) (placed:List aS) (p:bK) (q:aS) (k:Nat):Bool:=match l[k]?,placed[k]? with
 | some a,some b=>(a.aT==p.aT)&&!(clr t q.aD b.aD)
 | _,_=>false
theorem NA (t:dJ) {l:List bK} {placed:List aS} (p:bK) (q:aS×Int×ByteArray×ByteArray×Int×Int) (i:Int) (hl:l.length≤1000) (hp:placed.length=l.length) (hq:q.1.aD.length≤12) (inv:∀ b ∈ placed,b.aD.length≤12) :
  aM (yD t (i,placed) p q l) 0=some (if (s9 l.length).any (FA t l placed p q.1) then .inl () else .inr ()):=by
 refine yB l.length (yD t (i,placed) p q l) (fun k=>(k:Int)) _ _ _ rfl (fun k hk=>?_) ?_
 ·have hx:l[k]?=some l[k]:=by simp
  have hy:placed[k]?=some (placed[k]'(by omega)):=by simp [hp,hk]
  have e4:=inv _ (m5 hy)
  unfold yD FA
  have h1:decide ((k:Int)<(l.length:Int))=true:=by simp;omega
  simp only [h1,if_true,aW hx,aW hy,hx,hy,i9,OO _ _ t (show q.1.aD.length≤_ by omega) (show (placed[k]'(by omega)).aD.length≤_ by omega)]
  rw [bA (a:=(k:Int)) (by omega) (by omega)]
  cases (l[k].aT==p.aT) <;> simp
 ·simp [yD]
def OKp (sheets:List aT) (pieces:List aS) (t:dJ) (l:List bK) (placed:List aS) (p:bK) (q:aS):Prop:=∃ x n m g h s,idx pieces p.aS=some x∧nV x p=some (q,0,n,m,g,h)∧idx sheets p.aT=some s∧dup l p=false∧lies q.aD s (Hk s t.cH)=true∧(s9 l.length).any (FA t l placed p q)=false∧iD q s p.Kq=some true∧0<q.aD.length∧q.aD.length≤12
theorem RH (sheets:List aT) (pieces:List aS):∃ b,Cp sheets pieces=some b∧(b=0→sheets.length≤4∧pieces.length≤8∧(∀ s ∈ sheets,eB s=some 0)∧∀ x ∈ pieces,bM x=some 0):=by
 unfold Cp
 by_cases h1:(sheets.length:Int)>4
 ·exact ⟨4,by simp [h1],fun h=>absurd h (by decide)⟩
 by_cases h2:(pieces.length:Int)>8
 ·exact ⟨4,by simp [h1,h2],fun h=>absurd h (by decide)⟩
 simp only [h1,h2,decide_false,j9,if_false,i9]
 have k1:=Ss sheets eB (Dn sheets) (fun x _=>by obtain ⟨b,h,_⟩:=Hq x;exact ⟨b,h⟩) (fun k x hx=>by
  have hk:=aX hx
  have hd:decide ((k:Int)<(sheets.length:Int))=true:=by simp [hk]
  unfold Dn
  simp only [hd,if_true,aW hx,i9,bG k (by omega)]) (by simp [Dn])
 have k2:=Ss pieces bM (Dp pieces) (fun x _=>by obtain ⟨b,h,_⟩:=tZ x;exact ⟨b,h⟩) (fun k x hx=>by
  have hk:=aX hx
  have hd:decide ((k:Int)<(pieces.length:Int))=true:=by simp [hk]
  unfold Dp
  simp only [hd,if_true,aW hx,i9,bG k (by omega)]) (by simp [Dp])
 rcases k1 with ⟨c,hc,e1⟩ | ⟨e1,g1⟩
 ·rw [e1];exact ⟨c,rfl,fun h=>absurd h hc⟩
 ·rw [e1]
  rcases k2 with ⟨c,hc,e2⟩ | ⟨e2,g2⟩
  ·simp only [i9,e2];exact ⟨c,rfl,fun h=>absurd h hc⟩
  ·simp only [i9,e2];exact ⟨0,rfl,fun _=>⟨by omega,by omega,g1,g2⟩⟩
structure Inv (sheets:List aT) (pieces:List aS) (t:dJ) (i:Nat) (T:List (List (List aF))) (O:List bK) (L:List Int) (Q:List aS):Prop where
 len:T.length=sheets.length
 n:∀ l ∈ T,l.length≤i
 l12:∀ l ∈ T,∀ x ∈ l,x.length≤12
 v:∀ l ∈ T,∀ x ∈ l,∀ r ∈ x,vR r
 ol:O.length≤i
 ll:L.length≤i
 oq:Q.length=O.length
 q12:∀ q ∈ Q,q.aD.length≤12
 lt:∀ a ∈ O,a.aS<(i:Int)
 m1:∀ (j:Nat) a b,O[j]?=some a→Q[j]?=some b→∃ (k:Nat) (l:List (List aF)),a.aT=k∧T[k]?=some l∧b.aD ∈ l
 pl:∀ (j:Nat) a b,O[j]?=some a→Q[j]?=some b→OKp sheets pieces t (O.take j) (Q.take j) a b
theorem Kk {α:Type} {l:List α} {x y:α} {j:Nat} (h:(l++[x])[j]?=some y):(j<l.length∧l[j]?=some y)∨(j=l.length∧y=x):=by
 rcases Nat.lt_or_ge j l.length with q | q
 ·rw [List.getElem?_append_left q] at h;exact .inl ⟨q,h⟩
 ·rw [x8 q] at h
  rcases Nat.eq_zero_or_pos (j-l.length) with e | e
  ·rw [e] at h;simp at h;exact .inr ⟨by omega,h.symm⟩
  ·rw [s5 (by simp;omega)] at h;cases h
section
variable {sheets:List aT} {pieces:List aS} {t:dJ} (hs4:sheets.length≤4) (hp8:pieces.length≤8) (gs:∀ s ∈ sheets,eB s=some 0) (gp:∀ x ∈ pieces,bM x=some 0) (hg:0≤t.Gap∧t.Gap≤14400) (hm:0≤t.cH∧t.cH≤14400)
include gs gp hg hm hs4 hp8
theorem UE {s:aT} (h:s ∈ sheets):VS s:=by
 obtain ⟨z,z1,z3⟩:=Hq s
 exact z3 (w7 (z1.symm.trans (gs s h)))
theorem Inv.put {i:Nat} {T:List (List (List aF))} {O:List bK} {L:List Int} {Q:List aS} (h:Inv sheets pieces t i T O L Q) {x:aS} (hx:pieces[i]?=some x) {k:Nat} {s:aT} {l:List (List aF)} {p:bK} {q:aS} (hs:sheets[k]?=some s) (hl:T[k]?=some l) (pp:p.aS=i) (ps:p.aT=k) {n:Nat} (pt:p.Kq=n) (ha:At x s l t n p.X p.Y)
  (hput:nV x p=some (q,0,q.Name,q.bH,q.cX,q.cU)) (hr:q.aD=(trn n x.aD x.aD).map (trR p.X p.Y)) (h1:q.bH=x.bH) (h2:q.cX=x.cX) (h3:q.cU=x.cU):Inv sheets pieces t (i+1) (T.set k (l++[q.aD])) (O++[p]) L (Q++[q]):=by
 have vx:=gp x (m5 hx)
 have tp:=LJ vx ha.n3
 have vs:=UE hs4 hp8 gs gp hg hm (m5 hs)
 have n1:=vs.n1;have n2:=vs.n2;have sw:=vs.w;have sh:=vs.h
 have lm:=m5 hl
 have kl:=aX hl
 have hoq:=h.oq;have hol:=h.ol
 have q12:q.aD.length≤12:=by rw [hr,p9];exact tp.g.n1
 have q0:0<q.aD.length:=by rw [hr,p9];exact tp.g.n0
 have qv:∀ r ∈ q.aD,vR r:=fun r hr'=>by
  rw [hr] at hr'
  obtain ⟨a,ha',rfl⟩:=E3.1 hr'
  exact (ha.r a ha').1
 have new:∀ l' ∈ T.set k (l++[q.aD]),l' ∈ T∨l'=l++[q.aD]:=fun l' h'=>List.mem_or_eq_of_mem_set h'
 have grow:∀ (k':Nat) l',T[k']?=some l'→∃ l2,(T.set k (l++[q.aD]))[k']?=some l2∧∀ y ∈ l',y ∈ l2:=fun k' l' h'=>by
  by_cases e:k=k'
  ·subst e
   rw [hl] at h';injection h' with h';subst h'
   exact ⟨l++[q.aD],by rw [G6,if_pos rfl,if_pos kl],fun y hy=>I6 _ hy⟩
  ·exact ⟨l',by rw [G6,if_neg e];exact h',fun y hy=>hy⟩
 refine ⟨by rw [v8];exact h.len,fun l' h'=>?_,fun l' h' y hy=>?_,fun l' h' y hy=>?_,by simp;omega,by have:=h.ll;omega,by simp;omega,fun y hy=>?_,fun a ha'=>?_,fun j a b ha' hb=>?_,fun j a b ha' hb=>?_⟩
 ·rcases new l' h' with w | rfl
  ·have:=h.n l' w;omega
  ·have:=h.n l lm;simp;omega
 ·rcases new l' h' with w | rfl
  ·exact h.l12 l' w y hy
  ·rcases q9.1 hy with w | w
   ·exact h.l12 l lm y w
   ·simp at w;subst w;exact q12
 ·rcases new l' h' with w | rfl
  ·exact h.v l' w y hy
  ·rcases q9.1 hy with w | w
   ·exact h.v l lm y w
   ·simp at w;subst w;exact qv
 ·rcases q9.1 hy with w | w
  ·exact h.q12 y w
  ·simp at w;subst w;exact q12
 ·rcases q9.1 ha' with w | w
  ·have:=h.lt a w;omega
  ·simp at w;subst w;omega
 ·rcases Kk ha' with ⟨j1,ha'⟩ | ⟨j1,rfl⟩
  ·rcases Kk hb with ⟨_,hb⟩ | ⟨j2,_⟩
   ·obtain ⟨k2,l2,c1,c2,c3⟩:=h.m1 j a b ha' hb
    obtain ⟨l3,d1,d2⟩:=grow k2 l2 c2
    exact ⟨k2,l3,c1,d1,d2 _ c3⟩
   ·omega
  ·rcases Kk hb with ⟨j2,_⟩ | ⟨_,rfl⟩
   ·omega
   ·exact ⟨k,l++[b.aD],ps,by rw [G6,if_pos rfl,if_pos kl],I4 _ (by simp)⟩
 ·have tk : ∀ {α:Type} (l:List α) (x:α),j≤l.length→(l++[x]).take j=l.take j:=fun l x q=>M7 q
  rcases Kk ha' with ⟨j1,ha'⟩ | ⟨j1,rfl⟩
  ·rcases Kk hb with ⟨_,hb⟩ | ⟨j2,_⟩
   ·rw [tk O p (by omega),tk Q q (by omega)]
    exact h.pl j a b ha' hb
   ·omega
  ·rcases Kk hb with ⟨j2,_⟩ | ⟨_,rfl⟩
   ·omega
   ·subst j1
    rw [tk O a (v7 _),tk Q b (by omega),E7,← hoq,E7]
    refine ⟨x,_,_,_,_,s,by rw [pp];exact aW hx,hput,by rw [ps];exact aW hs, ?_, ?_, ?_, ?_,q0,q12⟩
    ·unfold dup
     rw [s7]
     intro z hz
     have:=h.lt z hz
     simp;omega
    ·unfold lies Hk
     have e0:gZ 2 t.cH=2*t.cH:=Fl (by omega) (by omega)
     rw [F2,s7,e0,bP (by omega) (by omega),bP (by omega) (by omega)]
     intro y hy
     rw [hr] at hy
     obtain ⟨r,hr',rfl⟩:=E3.1 hy
     obtain ⟨_,g1,g2,_⟩:=ha.r r hr'
     have c1:s.bO.any (iQ (trR a.X a.Y r))=false:=by
      rw [s7]
      intro o ho w
      exact g2 o (I6 _ ho) (of_decide_eq_true w)
     have c2:s.Used.any (iQ (trR a.X a.Y r))=false:=by
      rw [s7]
      intro o ho w
      exact g2 o (I4 _ ho) (of_decide_eq_true w)
     rw [c1,c2,decide_eq_true g1];simp
    ·rw [s7]
     intro j' hj'
     rw [F5] at hj'
     obtain ⟨a',ea⟩:∃ a',O[j']?=some a':=⟨_,l8 (by omega)⟩
     obtain ⟨b',eb⟩:∃ b',Q[j']?=some b':=⟨_,l8 (by omega)⟩
     unfold FA
     rw [ea,eb]
     simp only
     by_cases hss:a'.aT=a.aT
     ·obtain ⟨k2,l2,c1,c2,c3⟩:=h.m1 j' a' b' ea eb
      have:k2=k:=by rw [hss,ps] at c1;omega
      subst this
      rw [hl] at c2;injection c2 with c2;subst c2
      have:clr t b.aD b'.aD=true:=by
       unfold clr
       rw [F2,s7]
       intro y hy w
       rw [hr] at hy
       obtain ⟨r,hr',rfl⟩:=E3.1 hy
       obtain ⟨o,ho,w⟩:=E2.1 w
       rw [(ha.r r hr').2.2.2 _ c3 o ho] at w;cases w
      rw [this];simp
     ·have:(a'.aT==a.aT)=false:=by rw [beq_eq_false_iff_ne];exact hss
      rw [this];simp
    ·rw [pt]
     have:iD b s (n:Int)=iD x s (n:Int):=by unfold iD;rw [h1,h2,h3]
     rw [this];exact ha.al
theorem SC (ht:eA t=some true):∃ T O L Q,Inv sheets pieces t pieces.length T O L Q∧aM (Bp sheets pieces t) (0,q8 sheets.length [],[],[])=some (O,L):=by
 have h0:Inv sheets pieces t 0 (q8 sheets.length []) [] [] []:=by
  have r:∀ l ∈ q8 sheets.length ([]:List (List aF)),l=[]:=fun l hl=>List.eq_of_mem_replicate hl
  exact ⟨by simp,fun l hl=>by rw [r l hl];simp,fun l hl=>by rw [r l hl];simp,fun l hl=>by rw [r l hl];simp,by simp,by simp,rfl,by simp,by simp,by simp,by simp⟩
 obtain ⟨a,q1,Q,q2⟩:=lJ pieces (fun k (st:List (List (List aF))×List bK×List Int)=>((k:Int),st.1,st.2.1,st.2.2)) (Bp sheets pieces t) (fun st=>(st.2.1,st.2.2)) (fun k st=>∃ Q,Inv sheets pieces t k st.1 st.2.1 st.2.2 Q) (q8 sheets.length [],[],[]) ⟨[],h0⟩
  (fun i x st hx hI=>by
   obtain ⟨T,O,L⟩:=st
   obtain ⟨Q,h⟩:=hI
   simp only at h
   have vx:=gp x (m5 hx)
   have hi:=aX hx
   have hol:=h.ol;have hll:=h.ll
   obtain ⟨o,p1,p2⟩:=EX sheets (Fp sheets t ((i:Int),T,O,L) x) (fun r:List (List (List aF))×List bK=>.inl r) (.inr ()) (fun r=>∃ Q',Inv sheets pieces t (i+1) r.1 r.2 L Q') (fun k s hs=>by
    have hk:=aX hs
    have hd:decide ((k:Int)<(sheets.length:Int))=true:=by simp [hk]
    have sm:=m5 hs
    obtain ⟨l,hl⟩:∃ l,T[k]?=some l:=⟨_,l8 (by have:=h.len;omega)⟩
    have lm:=m5 hl
    have ln:=h.n l lm
    obtain ⟨ok,X,Y,W,u1,u2,u3,f1,f2⟩:=YA (UE hs4 hp8 gs gp hg hm sm) vx (show l.length≤8 by omega) (h.l12 l lm) (h.v l lm) hg hm (gs s sm) ht
    unfold Fp
    cases ok with
    | false=>exact .inr (by simp only [hd,if_true,aW hs,aW hl,i9,f1,bne_self_eq_false,j9,if_false,E0,bG k (by omega)])
    | true =>
      obtain ⟨n,hn,hat⟩:=f2 rfl
      obtain ⟨q,v1,v2,v3,v4,e1,e2,e3,e4,e5,e6⟩:=KR vx hat.n3 ⟨(i:Int),(k:Int),X,Y,W⟩ hn hat.hX hat.hY fun r hr=>(hat.r r hr).1
      refine .inl ⟨(T.set k (l++[q.aD]),O++[⟨(i:Int),(k:Int),X,Y,W⟩]), ?_,Q++[q],Inv.put hs4 hp8 gs gp hg hm h hx hs hl rfl rfl hn hat e2 e3 e4 e5 e6⟩
      simp only [hd,if_true,aW hs,aW hl,i9,f1,bne_self_eq_false,j9,if_false,u5,e1,y9]
      rw [iF (by simp [LIM];omega)]
      simp only [i9]
      rw [iF (by simp [LIM];omega)]
      rfl) (by simp [Fp])
   have hd:decide ((i:Int)<(pieces.length:Int))=true:=by simp [hi]
   unfold Bp Fo
   simp only [hd,if_true,aW hx,i9,p1,bG i (by omega)]
   cases o with
   | some r=>exact ⟨(r.1,r.2,L),rfl,p2 r rfl⟩
   | none =>
     simp only
     rw [iF (by simp [LIM];omega)]
     exact ⟨(T,O,L++[(i:Int)]),rfl,Q,h.len,fun l hl=>V1 (h.n l hl),h.l12,h.v,V1 hol,by show (L++[(i:Int)]).length≤i+1;simp;omega,h.oq,h.q12,fun a ha=>by have:=h.lt a ha;omega,h.m1,h.pl⟩) (fun st _=>by simp [Bp])
 exact ⟨a.1,a.2.1,a.2.2,Q,q2,q1⟩
theorem HX (hb:Cp sheets pieces=some 0) (ht:eA t=some true) {T:List (List (List aF))} {O:List bK} {L:List Int} {Q:List aS} (h:Inv sheets pieces t pieces.length T O L Q):Gs sheets pieces t O=some (0,0):=by
 have hol:=h.ol
 have hoq:=h.oq
 have key:=gN O (yF sheets pieces t O) (fun j=>((j:Int),Q.take j)) (.inr ()) (fun j a ha=>by
  have hj:=aX ha
  obtain ⟨b,hb⟩:∃ b,Q[j]?=some b:=⟨_,l8 (by omega)⟩
  obtain ⟨x,u1,u2,u3,u4,s,e1,e2,e3,e4,e5,e6,e7,e8,e9⟩:=h.pl j a b ha hb
  have mem:∀ {α:Type} {l:List α} {i:Int} {x:α},idx l i=some x→x ∈ l∧0≤i∧i<(l.length:Int):=fun {α l i x} e=>by
   unfold idx at e
   split at e
   ·exact ⟨m5 e,by omega,by have:=aX e;omega⟩
   ·cases e
  obtain ⟨_,x1,x2⟩:=mem e1
  obtain ⟨sm,s1,s2⟩:=mem e3
  have vs:=UE hs4 hp8 gs gp hg hm sm
  have n1:=vs.n1;have n2:=vs.n2
  have hd:decide ((j:Int)<(O.length:Int))=true:=by simp [hj]
  have f0:aK (pieces.length:Int) 1=(pieces.length:Int)-1:=bP (by omega) (by omega)
  have f1:aK (sheets.length:Int) 1=(sheets.length:Int)-1:=bP (by omega) (by omega)
  have b1:(0≤a.aS∧a.aS≤(pieces.length:Int)-1):=by omega
  have b2:(0≤a.aT∧a.aT≤(sheets.length:Int)-1):=by omega
  have hlw:=EU (x:=b) (s:=s) t a.Kq e7 (by omega) e8 (by omega) (by omega)
  have hlw':yJ (aS.mk b.Name b.bH b.cX b.cU b.aD b.bQ b.Forms) s t a.Kq=some (true&&lies b.aD s (Hk s t.cH)):=hlw
  have nl:=NA t (l:=O.take j) (placed:=Q.take j) a (b,0,u1,u2,u3,u4) (j:Int) (by rw [x7];omega) (by rw [x7,x7];omega) e9 fun b hb=>h.q12 b (G4 hb)
  have dl:=PO (O.take j) a (by rw [x7];omega)
  unfold yF
  simp only [hd,if_true,aW ha,i9,Fj,f0,f1,b1,b2,and_self,decide_true,u5,j9,if_false,e1,e2,bne_self_eq_false,BC (Nat.le_of_lt hj),dl,e4,e3,hlw',e5,Bool.and_self,nl]
  rw [e6]
  simp only [j9,if_false,i9]
  rw [iF (by rw [x7];simp [LIM];omega),bG j (by omega),pN hb]
  rfl) (by simp [yF])
 rw [List.take_zero] at key
 unfold Gs
 have key':aM (yF sheets pieces t O) (0,[])=some (.inr ()):=key
 simp only [hb,ht,key',i9,bne_self_eq_false,j9,if_false,u5]
end
end Go.SM
