/- What the functions compute, part 3. -/
import Derived.Test.YtonmponhpfpokaaGreatRPl2
import Derived.Test.YtonmponhpfpokaaGreatRPl1
set_option linter.unusedVariables false
set_option linter.unusedSimpArgs false
set_option linter.unusedSectionVars false
noncomputable section
namespace Go.SM
open Go Go.VI Go.Cells
def Ci (o:aO) (r:aF):List Int:=[o.aF.Y+o.aF.H+0-r.Y,o.aF.Y-0-r.Y-r.H,o.aF.Y+o.aF.H+o.gap-r.Y,o.aF.Y-o.gap-r.Y-r.H]
theorem LH {o:aO} {r:aF} (ho:BO o) (hr:vR r) (out0:List Int) (h0:out0.length≤100000000):aL (dU o r) (0,out0)=some (out0++Ci o r):=by
 obtain ⟨hov,hg⟩:=ho
 unfold vR at hov hr
 have s0:dU o r (0,out0)=some (.inl (1,out0++[o.aF.Y+o.aF.H+0-r.Y,o.aF.Y-0-r.Y-r.H])):=by
  unfold dU
  have i0:idx [0,o.gap] 0=some 0:=rfl
  have d0:decide ((0:Int)<(([0,o.gap]:List Int).length:Int))=true:=rfl
  simp only [i0,d0,if_true,Option.bind_some]
  rw [pE (by simp [LIM];omega)]
  simp (disch:=omega) only [aP,aU,Option.bind_some]
  rfl
 have s1:∀ out:List Int,out.length≤100000010→dU o r (1,out)=some (.inl (2,out++[o.aF.Y+o.aF.H+o.gap-r.Y,o.aF.Y-o.gap-r.Y-r.H])):=fun out hout=>by
  unfold dU
  have i0:idx [0,o.gap] 1=some o.gap:=rfl
  have d0:decide ((1:Int)<(([0,o.gap]:List Int).length:Int))=true:=rfl
  simp only [i0,d0,if_true,Option.bind_some]
  rw [pE (by simp [LIM];omega)]
  simp (disch:=omega) only [aP,aU,Option.bind_some]
  rfl
 have s2:∀ out:List Int,dU o r (2,out)=some (.inr out):=fun out=>by simp [dU]
 rw [iD s0,iD (s1 _ (by simp;omega)),eK (s2 _),List.append_assoc]
 rfl
section
variable {s:dQ} (h:BS s)
include h
theorem LI {o:aO} (ho:o ∈ s.bH) (out0:List Int) (h0:out0.length≤10000000):aL (jG s o) (0,out0)=some (out0++s.jY.flatMap (Ci o)):=by
 have hrl:=h.rl
 obtain ⟨a,q1,q2,q3⟩:=kI s.jY (fun k (t:List Int)=>((k:Int),t)) (jG s o) (fun t=>t) (fun k t=>t=out0++(s.jY.take k).flatMap (Ci o)∧t.length≤out0.length+4*k) out0 (by simp)
  (fun k r t hr hI=>by
   have hk:=cJ hr
   have hd:decide ((k:Int)<(s.jY.length:Int))=true:=by simp [hk]
   obtain ⟨i1,i2⟩:=hI
   unfold jG
   simp only [hd,if_true,bC hr,Option.bind_some,LH (h.o o ho) (h.r r (List.mem_of_getElem? hr)) t (by omega),bS k (by omega)]
   refine ⟨_,rfl, ?_, ?_⟩
   ·rw [eX hr,List.flatMap_append,i1];simp
   ·simp only [List.length_append,Ci,List.length_cons,List.length_nil];omega) (fun t _=>by simp [jG])
 rw [List.take_length] at q2
 rw [show ((0:Int),out0)=(((0:Nat):Int),out0) from rfl,q1,q2]
def Xr (s:dQ):List Int:=s.bH.flatMap fun o=>s.jY.flatMap (Ci o)
theorem LJ:aL (jH s) (0,[s.jZ.Y])=some (s.jZ.Y::Xr s)∧(Xr s).length≤48000:=by
 have hrl:=h.rl
 have hol:=h.ol
 have hin:∀ o:aO,(s.jY.flatMap (Ci o)).length≤48:=fun o=>by
  have:∀ l:List aF,(l.flatMap (Ci o)).length=4*l.length:=fun l=>by
   induction l with
   | nil=>rfl
   | cons r l ih=>rw [List.flatMap_cons,List.length_append,ih];simp [Ci];omega
  rw [this];omega
 obtain ⟨a,q1,q2,q3⟩:=kI s.bH (fun k (t:List Int)=>((k:Int),t)) (jH s) (fun t=>t) (fun k t=>t=s.jZ.Y::((s.bH.take k).flatMap fun o=>s.jY.flatMap (Ci o))∧t.length≤1+48*k) [s.jZ.Y] (by simp)
  (fun k o t ho hI=>by
   have hk:=cJ ho
   have hd:decide ((k:Int)<(s.bH.length:Int))=true:=by simp [hk]
   obtain ⟨i1,i2⟩:=hI
   have:=hin o
   unfold jH
   simp only [hd,if_true,bC ho,Option.bind_some,LI h (List.mem_of_getElem? ho) t (by omega),bS k (by omega)]
   refine ⟨_,rfl, ?_, ?_⟩
   ·rw [eX ho,List.flatMap_append,i1];simp
   ·simp only [List.length_append];omega) (fun t _=>by simp [jH])
 rw [List.take_length] at q2
 refine ⟨by rw [show ((0:Int),[s.jZ.Y])=(((0:Nat):Int),[s.jZ.Y]) from rfl,q1,q2];rfl, ?_⟩
 have:a=s.jZ.Y::Xr s:=q2
 rw [this] at q3
 simp only [List.length_cons] at q3
 omega
theorem Uk (hA : -1048576≤s.jZ.Y∧s.jZ.Y≤1048576) (hH:0≤s.jZ.H∧s.jZ.H≤1048576) (hh:0≤s.h∧s.h≤4194304):∃ ys:List Int,ys.Pairwise (fun a b=>a<b)∧s.jZ.Y ∈ ys∧EL s.jY (Uv s.bH) ys∧ys.length≤100000 ∧
  pX s=some (ys.filter fun y=>decide (s.jZ.Y≤y)&&decide (y≤s.jZ.Y+s.jZ.H-s.h)):=by
 obtain ⟨c1,c2⟩:=LJ h
 obtain ⟨r,r1,r2,r3⟩:=DV (l:=s.jZ.Y::Xr s) (by simp;omega)
 have hr:r.length=(Xr s).length+1:=by rw [r2.length_eq];simp
 obtain ⟨q,q1,q2,q3⟩:=Uf HY (fun x y a b=>by unfold ltI at a b;simp at a b;omega) (eqb:=fun x y=>x==y) (fun x y=>by simp) (0:Int) (l:=r) (by omega) r3
 have asc:q.Pairwise fun a b=>a<b:=q2.imp fun h=>by unfold ltI at h;simpa using h
 have mem:∀ x,x ∈ q↔x ∈ s.jZ.Y::Xr s:=fun x=>by rw [q3,r2.mem_iff]
 have ql:q.length≤100000:=by
  have:=Lz asc fun x hx=>(mem x).1 hx
  simp only [List.length_cons] at this
  omega
 refine ⟨q,asc,(mem _).2 List.mem_cons_self,fun o' ho' r hr=>?_,ql, ?_⟩
 ·obtain ⟨o,ho,rfl⟩:=List.mem_map.1 ho'
  have m4:∀ z,z ∈ Ci o r→z ∈ q:=fun z hz=>(mem z).2 (List.mem_cons_of_mem _ (List.mem_flatMap.2 ⟨o,ho,List.mem_flatMap.2 ⟨r,hr,hz⟩⟩))
  refine ⟨m4 _ ?_,m4 _ ?_,fun _=>m4 _ ?_⟩
  ·unfold Ci;simp
  ·unfold Ci;simp
  ·have e:o.aF.Y-r.H-r.Y=o.aF.Y-0-r.Y-r.H:=by omega
   show o.aF.Y-r.H-r.Y ∈ Ci o r
   rw [e];unfold Ci;simp
 ·unfold pX
  rw [c1]
  simp only [Option.bind_some,r1,Pf,q1]
  rw [FE _ _ _ _ _ _ _ _ _ (by omega)]
  simp only [Option.bind_some]
  congr 1
  refine List.filter_congr fun y _=>?_
  rw [aP (by omega) (by omega),aU (by omega) (by omega)]
  rw [Bool.eq_iff_iff]
  simp only [Bool.not_eq_true',Bool.or_eq_false_iff,decide_eq_false_iff_not,Bool.and_eq_true,decide_eq_true_eq]
  omega
def fx (S:Int→List (Int×Int)) (m y:Int):Int:=open Classical in if h:∃ x,Ho (S y) m x then Classical.choose h else 0
omit h in
theorem Wo {S:Int→List (Int×Int)} {m y x:Int} (h:Ho (S y) m x):fx S m y=x:=by
 have hx:∃ x,Ho (S y) m x:=⟨x,h⟩
 unfold fx
 rw [dif_pos hx]
 exact Rc (fun _=>Iff.rfl) (Classical.choose_spec hx) h
omit h in
theorem Yv {R:Type} (f:Int→Int) (hx:Int) (l:List Int) (body:Int→Option (Int ⊕ R)) (yes:Int×Int→R) (no:R)
  (step:∀ (k:Nat) y,l[k]?=some y→body (k:Int)=if f y≤hx then some (.inr (yes (f y,y))) else some (.inl ((k+1:Nat):Int))) (fin:body (l.length:Int)=some (.inr no)) :
  aL body 0=some (match scan f hx l with | some p=>yes p | none=>no):=by
 have key:∀ (n k:Nat),k+n=l.length→aL body (k:Int)=some (match scan f hx (l.drop k) with | some p=>yes p | none=>no):=by
  intro n
  induction n with
  | zero =>
    intro k h;obtain rfl:k=l.length:=by omega
    rw [List.drop_length,eK fin];rfl
  | succ n ih =>
    intro k h
    have hk:k<l.length:=by omega
    have hy:l[k]?=some l[k]:=by simp
    have hs:=step k _ hy
    rw [List.drop_eq_getElem_cons hk]
    unfold scan
    by_cases c:f l[k]≤hx
    ·rw [if_pos c] at hs ⊢;rw [eK hs]
    ·rw [if_neg c] at hs ⊢;rw [iD hs,ih (k+1) (by omega)]
 have:=key l.length 0 (by omega)
 simpa using this
theorem KM:EM (Uv s.bH):=fun o' ho'=>by
 obtain ⟨o,ho,rfl⟩:=List.mem_map.1 ho'
 have:=(h.o o ho).v
 unfold vR at this
 exact ⟨show 0<o.aF.W by omega,show 0<o.aF.H by omega,(h.o o ho).g.1⟩
theorem KN:EN s.jY:=fun r hr=>by
 have:=h.r r hr
 unfold vR at this
 exact ⟨by omega,by omega⟩
theorem CV {m:Int} (hm:0≤m∧m≤14400) (ax:s.jZ.X=m) (ay:s.jZ.Y=m) (aw:0≤s.jZ.W∧s.jZ.W≤1048576) (ah:0≤s.jZ.H∧s.jZ.H≤1048576) (hw:0≤s.w∧s.w≤4194304) (hh:0≤s.h∧s.h≤4194304) :
  ∃ o:Option (Int×Int),Lst (Fe s.jY (Uv s.bH) m (m+s.jZ.W-s.w) (m+s.jZ.H-s.h)) o∧sN s=some (match o with | some p=>(p.1,p.2,true) | none=>(0,0,false)):=by
 unfold sN
 by_cases c1:s.w>s.jZ.W
 ·refine ⟨none,fun x y q=>?_,by simp [c1]⟩
  have:=q.1;have:=q.2.1;omega
 by_cases c2:s.h>s.jZ.H
 ·refine ⟨none,fun x y q=>?_,by simp [c1,c2]⟩
  have:=q.2.2.1;have:=q.2.2.2.1;omega
 obtain ⟨ys,y1,y2,y3,y4,y5⟩:=Uk h (by omega) ah hh
 rw [ay] at y2 y5
 have hf:∀ y,m≤y→y≤m+s.jZ.H-s.h→∃ L x,mN s y=some L∧Bq L m (m+s.jZ.W-s.w)=some (x,decide (x≤m+s.jZ.W-s.w))∧Ho (Dh s y) m x:=fun y q1 q2=>by
  obtain ⟨L,b1,b2,b3,b4⟩:=Ue h (y:=y) (by omega)
  obtain ⟨x,f1,f2,f3,f4⟩:=BJ L b2 (m:=m) (hi:=m+s.jZ.W-s.w) (by omega) b4
  have e:∀ z,inS (L.map fun s=>(s.lo,s.hi)) z↔inS (Dh s y) z:=fun z=>(IX L z).trans (b3 z)
  exact ⟨L,x,b1,f1,f2,fun q=>f3 ((e x).2 q),fun z z1 z2=>(e z).1 (f4 z z1 z2)⟩
 refine ⟨_,Tm (KN h) (KM h) y1 y2 y3 (f:=fx (Dh s) m) (sp:=Dh s) (fun y q1 q2=>?_) (fun x y=>Xs h x y), ?_⟩
 ·obtain ⟨L,x,_,_,q⟩:=hf y q1 q2
  rw [Wo q];exact q
 ·simp only [c1,c2,decide_false,Bool.false_eq_true,if_false,Option.bind_some,y5]
  have lp:=Yv (fx (Dh s) m) (m+s.jZ.W-s.w) (ys.filter fun y=>decide (m≤y)&&decide (y≤m+s.jZ.H-s.h)) (oU s (ys.filter fun y=>decide (m≤y)&&decide (y≤m+s.jZ.H-s.h))) (fun p=>.inl p) (.inr ()) (fun k y hy=>by
   have hk:=cJ hy
   have hkl:(ys.filter fun y=>decide (m≤y)&&decide (y≤m+s.jZ.H-s.h)).length≤ys.length:=List.length_filter_le _ _
   have hym:=(List.mem_filter.1 (List.mem_of_getElem? hy)).2
   simp only [Bool.and_eq_true,decide_eq_true_eq] at hym
   obtain ⟨L,x,b1,b2,b3⟩:=hf y hym.1 hym.2
   have hd:decide ((k:Int)<((ys.filter fun y=>decide (m≤y)&&decide (y≤m+s.jZ.H-s.h)).length:Int))=true:=by simp only [decide_eq_true_eq];omega
   have e1:aH (aJ m s.jZ.W) s.w=m+s.jZ.W-s.w:=by
    rw [aP (by omega) (by omega),aU (by omega) (by omega)]
   unfold oU
   simp only [hd,if_true,bC hy,Option.bind_some,b1,ax,e1,b2,bS k (by omega),Wo b3]
   by_cases c:x≤m+s.jZ.W-s.w <;> simp [c]) (by simp [oU])
  rw [lp]
  cases scan (fx (Dh s) m) (m+s.jZ.W-s.w) (ys.filter fun y=>decide (m≤y)&&decide (y≤m+s.jZ.H-s.h)) <;> rfl
end
def mkD (p:Int×Int):aQ:=⟨p.1,p.2⟩
theorem FQ {L:List aQ} {k:Nat} {p:Int×Int} (h:(L.map fun s=>(s.lo,s.hi))[k]?=some p):∃ s,L[k]?=some s∧p=(s.lo,s.hi):=by
 rw [List.getElem?_map] at h
 cases e:L[k]? with
 | none=>rw [e] at h;cases h
 | some s=>rw [e] at h;exact ⟨s,rfl,(Option.some.inj h).symm⟩
theorem Ow (g:Int) (c soft:Bool) (r o:aF) (y:Int):(pN g c soft r o y).length≤3:=by
 unfold pN
 rw [List.length_append]
 have h1:∀ p:Int×Int,(if ovI (y+r.Y) r.H o.Y o.H then [p] else []).length≤1:=fun p=>by split <;> simp
 have h2:∀ (P Q:Prop) [Decidable P] [Decidable Q] (p q s:Int×Int),(if P then ([]:List (Int×Int)) else if Q then [p,q] else [s]).length≤2:=fun P Q _ _ p q s=>by
  split
  ·simp
  ·split <;> simp
 have:=h1 (o.X-r.W-r.X,o.X+o.W-r.X)
 have:=h2 (soft=false∨g≤nV (y+r.Y) r.H o.Y o.H) (c=true∧nV (y+r.Y) r.H o.Y o.H=0) (o.X-r.W-r.X-g,o.X-r.W-r.X) (o.X+o.W-r.X,o.X+o.W-r.X+g) (o.X-r.W-r.X-g,o.X+o.W-r.X+g)
 omega
theorem Qt {g:Int} {c soft:Bool} {r o:aF} {y:Int} (hg:0≤g∧g≤14400) (ho:vR o) (hr:vR r):∀ s ∈ pN g c soft r o y,s.2≤8388608:=by
 unfold vR at ho hr
 unfold pN
 intro s hs
 rcases List.mem_append.1 hs with hs | hs
 ·split at hs
  ·simp at hs;subst hs;simp only;omega
  ·cases hs
 ·split at hs
  ·cases hs
  ·split at hs
   ·simp at hs;rcases hs with rfl | rfl <;> simp only <;> omega
   ·simp at hs;subst hs;simp only;omega
theorem Kz {t:bE} {r o:aF} {y:Int} (soft:Bool) (hg:0≤t.Gap∧t.Gap≤14400) (ho:vR o) (hr:vR r) (hy : -4194304≤y∧y≤4194304):lD r o y t soft=some ((pN t.Gap t.eN soft r o y).map mkD):=by
 unfold vR at ho hr
 unfold lD mV
 simp (disch:=omega) only [aP,aU,Er]
 have eu:max (max 0 (o.Y-(y+r.Y)-r.H)) (y+r.Y-o.Y-o.H)=nV (y+r.Y) r.H o.Y o.H:=by unfold nV;omega
 have ej:(if decide (y+r.Y<o.Y+o.H)=true then some (decide (o.Y<y+r.Y+r.H)) else some false)=some (decide (ovI (y+r.Y) r.H o.Y o.H)):=by
  unfold ovI
  by_cases h1:y+r.Y<o.Y+o.H <;> simp [h1]
 have eb:∀ a:Int,(a==0)=decide (a=0):=fun a=>by by_cases h:a=0 <;> simp [h]
 rw [ej,eu]
 unfold pN
 generalize nV (y+r.Y) r.H o.Y o.H=u
 generalize hv:decide (ovI (y+r.Y) r.H o.Y o.H)=ov
 have hov':ovI (y+r.Y) r.H o.Y o.H↔ov=true:=by rw [← hv,decide_eq_true_eq]
 simp only [Option.bind_some,eb,hov']
 have ap:∀ a b:List aQ,a.length≤100→b.length≤100→app a b=some (a++b):=fun a b h1 h2=>pE (by unfold LIM;omega)
 rw [ap [] _ (by simp) (by simp)]
 cases soft with
 | false=>cases ov <;> rfl
 | true =>
   by_cases h1:t.Gap≤u
   ·cases ov <;> simp [h1] <;> rfl
   ·have h1':¬ (u ≥ t.Gap):=h1
    by_cases h2:u=0
    ·subst h2
     cases ov <;> cases t.eN <;> simp [h1',ap,h1,mkD]
    ·cases ov <;> cases t.eN <;> simp [h1',h2,ap,h1,mkD]
def Ly (hard soft:List aF) (t:bE):List (aF×Int×Bool):=hard.map (fun o=>(o,0,false))++soft.map fun o=>(o,t.Gap,t.eN)
def Az (l hard soft:List aF) (t:bE) (y:Int):List (Int×Int):=
 l.flatMap fun r=>hard.flatMap (fun o=>pN t.Gap t.eN false r o y)++soft.flatMap fun o=>pN t.Gap t.eN true r o y
structure DS (l hard soft:List aF) (t:bE):Prop where
 lv:∀ r ∈ l,vR r
 ll:l.length≤12
 hv:∀ r ∈ hard,vR r
 hl:hard.length≤100
 sv:∀ r ∈ soft,vR r
 sl:soft.length≤100
 g:0≤t.Gap∧t.Gap≤14400
section
variable {l hard soft:List aF} {t:bE} (h:DS l hard soft t)
include h
theorem AH (x y:Int):inS (Az l hard soft t y) x↔∃ o ∈ Ly hard soft t,∃ r ∈ l,En o.2.1 o.2.2 r o.1 x y:=by
 have p:∀ {r:aF},vR r→0<r.W∧0<r.H:=fun {r} hv=>by unfold vR at hv;omega
 unfold Az
 constructor
 ·rintro ⟨q,hq,hx⟩
  obtain ⟨r,hr,hq⟩:=List.mem_flatMap.1 hq
  rcases List.mem_append.1 hq with hq | hq
  ·obtain ⟨o,ho,hq⟩:=List.mem_flatMap.1 hq
   exact ⟨(o,0,false),List.mem_append_left _ (List.mem_map.2 ⟨o,ho,rfl⟩),r,hr,(Li (p (h.lv r hr)).1 (p (h.hv o ho)).1 x y).1 ⟨q,hq,hx⟩⟩
  ·obtain ⟨o,ho,hq⟩:=List.mem_flatMap.1 hq
   exact ⟨(o,t.Gap,t.eN),List.mem_append_right _ (List.mem_map.2 ⟨o,ho,rfl⟩),r,hr,(Lj h.g.1 (p (h.lv r hr)).1 (p (h.sv o ho)).1 (p (h.lv r hr)).2 (p (h.sv o ho)).2 x y).1 ⟨q,hq,hx⟩⟩
 ·rintro ⟨o',ho',r,hr,hb⟩
  rcases List.mem_append.1 ho' with ho' | ho'
  ·obtain ⟨o,ho,rfl⟩:=List.mem_map.1 ho'
   obtain ⟨q,hq,hx⟩:=(Li (g:=t.Gap) (c:=t.eN) (p (h.lv r hr)).1 (p (h.hv o ho)).1 x y).2 hb
   exact ⟨q,List.mem_flatMap.2 ⟨r,hr,List.mem_append_left _ (List.mem_flatMap.2 ⟨o,ho,hq⟩)⟩,hx⟩
  ·obtain ⟨o,ho,rfl⟩:=List.mem_map.1 ho'
   obtain ⟨q,hq,hx⟩:=(Lj h.g.1 (p (h.lv r hr)).1 (p (h.sv o ho)).1 (p (h.lv r hr)).2 (p (h.sv o ho)).2 x y).2 hb
   exact ⟨q,List.mem_flatMap.2 ⟨r,hr,List.mem_append_right _ (List.mem_flatMap.2 ⟨o,ho,hq⟩)⟩,hx⟩
theorem IZ {y:Int} (hy : -4194304≤y∧y≤4194304) {i:Nat} {r:aF} (hr:l[i]?=some r) (b:List aQ) (out0:List aQ) (h0:out0.length≤1000000) :
  aL (gP l hard t y ((i:Int),b)) (0,out0)=some (out0++(hard.flatMap fun o=>pN t.Gap t.eN false r o y).map mkD)∧(hard.flatMap fun o=>pN t.Gap t.eN false r o y).length≤300:=by
 have hhl:=h.hl
 obtain ⟨a,q1,q2,q3⟩:=kI hard (fun k (s:List aQ)=>((k:Int),s)) (gP l hard t y ((i:Int),b)) (fun s=>s) (fun k s=>s=out0++((hard.take k).flatMap fun o=>pN t.Gap t.eN false r o y).map mkD∧((hard.take k).flatMap fun o=>pN t.Gap t.eN false r o y).length≤3*k) out0 (by simp)
  (fun k o s ho hI=>by
   have hk:=cJ ho
   have hd:decide ((k:Int)<(hard.length:Int))=true:=by simp [hk]
   obtain ⟨i1,i2⟩:=hI
   have e:=Kz (t:=t) (y:=y) false h.g (h.hv o (List.mem_of_getElem? ho)) (h.lv r (List.mem_of_getElem? hr)) hy
   have l3:=Ow t.Gap t.eN false r o y
   unfold gP
   simp only [hd,if_true,bC hr,bC ho,Option.bind_some,e,bS k (by omega)]
   rw [pE (by rw [i1];simp only [List.length_append,List.length_map];unfold LIM;omega)]
   refine ⟨_,rfl, ?_, ?_⟩
   ·rw [eX ho,List.flatMap_append,i1];simp
   ·rw [eX ho,List.flatMap_append];simp only [List.flatMap_cons,List.flatMap_nil,List.append_nil,List.length_append];omega) (fun s _=>by simp [gP])
 rw [List.take_length] at q2 q3
 exact ⟨by rw [show ((0:Int),out0)=(((0:Nat):Int),out0) from rfl,q1,q2],by omega⟩
theorem JA {y:Int} (hy : -4194304≤y∧y≤4194304) {i:Nat} {r:aF} (hr:l[i]?=some r) (b:List aQ) (out0:List aQ) (h0:out0.length≤1000000) :
  aL (gQ l soft t y ((i:Int),b)) (0,out0)=some (out0++(soft.flatMap fun o=>pN t.Gap t.eN true r o y).map mkD)∧(soft.flatMap fun o=>pN t.Gap t.eN true r o y).length≤300:=by
 have hhl:=h.sl
 obtain ⟨a,q1,q2,q3⟩:=kI soft (fun k (s:List aQ)=>((k:Int),s)) (gQ l soft t y ((i:Int),b)) (fun s=>s) (fun k s=>s=out0++((soft.take k).flatMap fun o=>pN t.Gap t.eN true r o y).map mkD∧((soft.take k).flatMap fun o=>pN t.Gap t.eN true r o y).length≤3*k) out0 (by simp)
  (fun k o s ho hI=>by
   have hk:=cJ ho
   have hd:decide ((k:Int)<(soft.length:Int))=true:=by simp [hk]
   obtain ⟨i1,i2⟩:=hI
   have e:=Kz (t:=t) (y:=y) true h.g (h.sv o (List.mem_of_getElem? ho)) (h.lv r (List.mem_of_getElem? hr)) hy
   have l3:=Ow t.Gap t.eN true r o y
   unfold gQ
   simp only [hd,if_true,bC hr,bC ho,Option.bind_some,e,bS k (by omega)]
   rw [pE (by rw [i1];simp only [List.length_append,List.length_map];unfold LIM;omega)]
   refine ⟨_,rfl, ?_, ?_⟩
   ·rw [eX ho,List.flatMap_append,i1];simp
   ·rw [eX ho,List.flatMap_append];simp only [List.flatMap_cons,List.flatMap_nil,List.append_nil,List.length_append];omega) (fun s _=>by simp [gQ])
 rw [List.take_length] at q2 q3
 exact ⟨by rw [show ((0:Int),out0)=(((0:Nat):Int),out0) from rfl,q1,q2],by omega⟩
theorem JB {y:Int} (hy : -4194304≤y∧y≤4194304):aL (gR l hard soft t y) (0,[])=some ((Az l hard soft t y).map mkD)∧(Az l hard soft t y).length≤100000:=by
 have hll:=h.ll
 obtain ⟨a,q1,q2,q3⟩:=kI l (fun k (s:List aQ)=>((k:Int),s)) (gR l hard soft t y) (fun s=>s) (fun k s=>s=(Az (l.take k) hard soft t y).map mkD∧(Az (l.take k) hard soft t y).length≤600*k) [] (by simp [Az])
  (fun k r s hr hI=>by
   have hk:=cJ hr
   have hd:decide ((k:Int)<(l.length:Int))=true:=by simp [hk]
   obtain ⟨i1,i2⟩:=hI
   have sl:s.length≤600*k:=by rw [i1,List.length_map];exact i2
   obtain ⟨a1,a2⟩:=IZ h hy hr s s (by omega)
   obtain ⟨b1,b2⟩:=JA h hy hr s (s++(hard.flatMap fun o=>pN t.Gap t.eN false r o y).map mkD) (by simp only [List.length_append,List.length_map];omega)
   unfold gR
   simp only [hd,if_true,a1,b1,Option.bind_some,bS k (by omega)]
   refine ⟨_,rfl, ?_, ?_⟩
   ·rw [eX hr];unfold Az at i1 ⊢;rw [List.flatMap_append,i1];simp
   ·rw [eX hr];unfold Az at i2 ⊢;rw [List.flatMap_append];simp only [List.flatMap_cons,List.flatMap_nil,List.append_nil,List.length_append];omega) (fun s _=>by simp [gR])
 rw [List.take_length] at q2 q3
 exact ⟨by rw [show ((0:Int),([]:List aQ))=(((0:Nat):Int),[]) from rfl,q1,q2],by omega⟩
theorem ER (y:Int):∀ p ∈ Az l hard soft t y,p.2≤8388608:=fun p hp=>by
 obtain ⟨r,hr,hp⟩:=List.mem_flatMap.1 hp
 rcases List.mem_append.1 hp with hp | hp
 ·obtain ⟨o,ho,hp⟩:=List.mem_flatMap.1 hp
  exact Qt h.g (h.hv o ho) (h.lv r hr) p hp
 ·obtain ⟨o,ho,hp⟩:=List.mem_flatMap.1 hp
  exact Qt h.g (h.sv o ho) (h.lv r hr) p hp
theorem Yw {y last:Int} (hy : -4194304≤y∧y≤4194304) (hm:t.aR≤14400):∃ x,mY l hard soft t y last=some (x,decide (x≤last))∧Ho (Az l hard soft t y) t.aR x:=by
 obtain ⟨c1,c2⟩:=JB h hy
 have pr:((Az l hard soft t y).map mkD).map (fun s=>(s.lo,s.hi))=Az l hard soft t y:=by
  rw [List.map_map];exact List.map_id _
 obtain ⟨x,h1,h2⟩:=Qo (Az l hard soft t y) c2 (m:=t.aR) (by omega) (ER h y) (kG ((Az l hard soft t y).map mkD)) (kH ((Az l hard soft t y).map mkD)) (fun k p x b hp=>by
  rw [← pr] at hp
  obtain ⟨s,hs,rfl⟩:=FQ hp
  have hk:=cJ hs
  have hkl:((Az l hard soft t y).map mkD).length≤100000:=by rw [List.length_map];exact c2
  have hd:decide ((k:Int)<(((Az l hard soft t y).map mkD).length:Int))=true:=by simp only [decide_eq_true_eq];omega
  unfold kG oF
  simp only [hd,if_true,bC hs,Option.bind_some,bS k (by omega)]
  by_cases c1:s.lo<x
  ·by_cases c2:x<s.hi <;> simp [c1,c2]
  ·simp [c1]) (fun x b=>by simp [kG]) (fun x=>by simp [kH]) (fun x=>by simp [kH])
 exact ⟨x,by unfold mY;rw [c1];simp only [Option.bind_some,h1],h2⟩
end
structure Gr (t0 t:List Int) (n:Nat):Prop where
 asc:t.Pairwise fun a b=>a<b
 sub:∀ x ∈ t0,x ∈ t
 len:t.length≤t0.length+n
theorem Gr.ins {t0 t r:List Int} {n:Nat} {z:Int} (g:Gr t0 t n) (h1:r.Pairwise fun a b=>a<b) (h2:∀ x,x ∈ r↔x ∈ t∨x=z) (h3:r.length≤t.length+1):Gr t0 r (n+1):=
 ⟨h1,fun x hx=>(h2 x).2 (.inl (g.sub x hx)),by have:=g.len;omega⟩
section
variable {l hard soft:List aF} {t:bE} (h:DS l hard soft t)
include h
theorem KD {i:Nat} {r:aF} (hr:l[i]?=some r) (b:List Int) {t0:List Int} (a0:t0.Pairwise fun a b=>a<b) (l0:t0.length≤8000) :
  ∃ t',aL (gH l hard ((i:Int),b)) (0,t0)=some t'∧Gr t0 t' hard.length∧∀ o ∈ hard,o.Y+o.H-r.Y ∈ t':=by
 have hhl:=h.hl
 have vr:=h.lv r (List.mem_of_getElem? hr)
 unfold vR at vr
 obtain ⟨a,q1,q2,q3⟩:=kI hard (fun k (s:List Int)=>((k:Int),s)) (gH l hard ((i:Int),b)) (fun s=>s) (fun k s=>Gr t0 s k∧∀ o ∈ hard.take k,o.Y+o.H-r.Y ∈ s) t0 ⟨⟨a0,fun _ q=>q,by omega⟩,by simp⟩
  (fun k o s ho hI=>by
   have hk:=cJ ho
   have hd:decide ((k:Int)<(hard.length:Int))=true:=by simp [hk]
   obtain ⟨i1,i2⟩:=hI
   have vo:=h.hv o (List.mem_of_getElem? ho)
   unfold vR at vo
   have:=i1.len
   obtain ⟨r1,e1,e2,e3,e4⟩:=Hc i1.asc (by omega) (o.Y+o.H-r.Y)
   have ee:aH (aJ o.Y o.H) r.Y=o.Y+o.H-r.Y:=by rw [aP (by omega) (by omega),aU (by omega) (by omega)]
   unfold gH
   simp only [hd,if_true,bC hr,bC ho,Option.bind_some,ee,e1,bS k (by omega)]
   refine ⟨_,rfl,i1.ins e2 e3 e4,fun o' ho'=>?_⟩
   rw [eX ho] at ho'
   rcases List.mem_append.1 ho' with q | q
   ·exact (e3 _).2 (.inl (i2 o' q))
   ·simp at q;subst q;exact (e3 _).2 (.inr rfl)) (fun s _=>by simp [gH])
 rw [List.take_length] at q3
 exact ⟨a,q1,q2,q3⟩
theorem KE {i:Nat} {r:aF} (hr:l[i]?=some r) (b:List Int) {t0:List Int} (a0:t0.Pairwise fun a b=>a<b) (l0:t0.length≤8000) :
  ∃ t',aL (gI l soft t ((i:Int),b)) (0,t0)=some t'∧Gr t0 t' (3*soft.length)∧∀ o ∈ soft,o.Y+o.H-r.Y ∈ t'∧o.Y+o.H+t.Gap-r.Y ∈ t'∧o.Y-r.H-r.Y ∈ t':=by
 have hhl:=h.sl
 have hg:=h.g
 have vr:=h.lv r (List.mem_of_getElem? hr)
 unfold vR at vr
 obtain ⟨a,q1,q2,q3⟩:=kI soft (fun k (s:List Int)=>((k:Int),s)) (gI l soft t ((i:Int),b)) (fun s=>s) (fun k s=>Gr t0 s (3*k)∧∀ o ∈ soft.take k,o.Y+o.H-r.Y ∈ s∧o.Y+o.H+t.Gap-r.Y ∈ s∧o.Y-r.H-r.Y ∈ s) t0 ⟨⟨a0,fun _ q=>q,by omega⟩,by simp⟩
  (fun k o s ho hI=>by
   have hk:=cJ ho
   have hd:decide ((k:Int)<(soft.length:Int))=true:=by simp [hk]
   obtain ⟨i1,i2⟩:=hI
   have vo:=h.sv o (List.mem_of_getElem? ho)
   unfold vR at vo
   have:=i1.len
   obtain ⟨r1,e1,e2,e3,e4⟩:=Hc i1.asc (by omega) (o.Y+o.H-r.Y)
   obtain ⟨r2,f1,f2,f3,f4⟩:=Hc e2 (by omega) (o.Y+o.H+t.Gap-r.Y)
   obtain ⟨r3,g1,g2,g3,g4⟩:=Hc f2 (by omega) (o.Y-r.H-r.Y)
   have ee:aH (aJ o.Y o.H) r.Y=o.Y+o.H-r.Y:=by rw [aP (by omega) (by omega),aU (by omega) (by omega)]
   have ef:aH (aJ (aJ o.Y o.H) t.Gap) r.Y=o.Y+o.H+t.Gap-r.Y:=by
    have e0:aJ o.Y o.H=o.Y+o.H:=aP (by omega) (by omega)
    rw [e0,aP (by omega) (by omega),aU (by omega) (by omega)]
   have eg:aH (aH o.Y r.H) r.Y=o.Y-r.H-r.Y:=by
    have e0:aH o.Y r.H=o.Y-r.H:=aU (by omega) (by omega)
    rw [e0,aU (by omega) (by omega)]
   unfold gI
   simp only [hd,if_true,bC hr,bC ho,Option.bind_some,ee,ef,eg,e1,f1,g1,bS k (by omega)]
   refine ⟨_,rfl,((i1.ins e2 e3 e4).ins f2 f3 f4).ins g2 g3 g4,fun o' ho'=>?_⟩
   have up:∀ x ∈ s,x ∈ r3:=fun x hx=>(g3 x).2 (.inl ((f3 x).2 (.inl ((e3 x).2 (.inl hx)))))
   rw [eX ho] at ho'
   rcases List.mem_append.1 ho' with q | q
   ·obtain ⟨b1,b2,b3⟩:=i2 o' q
    exact ⟨up _ b1,up _ b2,up _ b3⟩
   ·simp at q;subst q
    exact ⟨(g3 _).2 (.inl ((f3 _).2 (.inl ((e3 _).2 (.inr rfl))))),(g3 _).2 (.inl ((f3 _).2 (.inr rfl))),(g3 _).2 (.inr rfl)⟩) (fun s _=>by simp [gI])
 rw [List.take_length] at q3
 exact ⟨a,q1,q2,q3⟩
theorem Sp:∃ ys:List Int,qT l hard soft t=some ys∧ys.Pairwise (fun a b=>a<b)∧t.aR ∈ ys∧EL l (Ly hard soft t) ys∧ys.length≤8000:=by
 have hhl:=h.hl
 have hsl:=h.sl
 have hll:=h.ll
 obtain ⟨a,q1,q2,q3,q4⟩:=kI l (fun k (s:List Int)=>((k:Int),s)) (jK l hard soft t) (fun s=>s) (fun k s=>Gr [t.aR] s (400*k)∧(∀ r ∈ l.take k,∀ o ∈ hard,o.Y+o.H-r.Y ∈ s)∧∀ r ∈ l.take k,∀ o ∈ soft,o.Y+o.H-r.Y ∈ s∧o.Y+o.H+t.Gap-r.Y ∈ s∧o.Y-r.H-r.Y ∈ s) [t.aR] ⟨⟨by simp,fun _ q=>q,by omega⟩,by simp,by simp⟩
  (fun k r s hr hI=>by
   have hk:=cJ hr
   have hd:decide ((k:Int)<(l.length:Int))=true:=by simp [hk]
   obtain ⟨i1,i2,i3⟩:=hI
   have l1:=i1.len
   simp only [List.length_cons,List.length_nil] at l1
   obtain ⟨t1,e1,e2,e3⟩:=KD h hr s i1.asc (by omega)
   have l2:=e2.len
   obtain ⟨t2,f1,f2,f3⟩:=KE h hr s e2.asc (by omega)
   have l3:=f2.len
   unfold jK
   simp only [hd,if_true,e1,f1,Option.bind_some,bS k (by omega)]
   refine ⟨_,rfl,⟨f2.asc,fun x hx=>f2.sub x (e2.sub x (i1.sub x hx)),by simp only [List.length_cons,List.length_nil];omega⟩,fun r' hr' o ho=>?_,fun r' hr' o ho=>?_⟩
   ·rw [eX hr] at hr'
    rcases List.mem_append.1 hr' with q | q
    ·exact f2.sub _ (e2.sub _ (i2 r' q o ho))
    ·simp at q;subst q;exact f2.sub _ (e3 o ho)
   ·rw [eX hr] at hr'
    rcases List.mem_append.1 hr' with q | q
    ·obtain ⟨b1,b2,b3⟩:=i3 r' q o ho
     exact ⟨f2.sub _ (e2.sub _ b1),f2.sub _ (e2.sub _ b2),f2.sub _ (e2.sub _ b3)⟩
    ·simp at q;subst q;exact f3 o ho) (fun s _=>by simp [jK])
 rw [List.take_length] at q3 q4
 have lq:=q2.len
 simp only [List.length_cons,List.length_nil] at lq
 refine ⟨a, ?_,q2.asc,q2.sub _ (by simp),fun o' ho' r hr=>?_,by omega⟩
 ·unfold qT
  rw [show ((0:Int),[t.aR])=(((0:Nat):Int),[t.aR]) from rfl,q1];rfl
 ·rcases List.mem_append.1 ho' with q | q
  ·obtain ⟨o,ho,rfl⟩:=List.mem_map.1 q
   have:=q3 r hr o ho
   refine ⟨this, ?_,fun e=>by cases e⟩
   show o.Y+o.H+0-r.Y ∈ a
   rw [Int.add_zero];exact this
  ·obtain ⟨o,ho,rfl⟩:=List.mem_map.1 q
   obtain ⟨b1,b2,b3⟩:=q4 r hr o ho
   exact ⟨b1,b2,fun _=>b3⟩
theorem JF:EM (Ly hard soft t):=fun o' ho'=>by
 rcases List.mem_append.1 ho' with q | q
 ·obtain ⟨o,ho,rfl⟩:=List.mem_map.1 q
  have:=h.hv o ho
  unfold vR at this
  exact ⟨show 0<o.W by omega,show 0<o.H by omega,Int.le_refl 0⟩
 ·obtain ⟨o,ho,rfl⟩:=List.mem_map.1 q
  have:=h.sv o ho
  unfold vR at this
  exact ⟨show 0<o.W by omega,show 0<o.H by omega,h.g.1⟩
theorem JG:EN l:=fun r hr=>by
 have:=h.lv r hr
 unfold vR at this
 exact ⟨by omega,by omega⟩
end
def vJ (l:List aF):Int:=l.foldl (fun a r=>max a (r.X+r.W)) 0
def uI (l:List aF):Int:=l.foldl (fun a r=>max a (r.Y+r.H)) 0
theorem foldl_max {l:List aF} {g:aF→Int}:∀ {a:Int},a≤l.foldl (fun s r=>max s (g r)) a∧∀ r ∈ l,g r≤l.foldl (fun s r=>max s (g r)) a:=by
 induction l with
 | nil=>intro a;exact ⟨Int.le_refl a,fun r hr=>by cases hr⟩
 | cons x l ih =>
   intro a
   rw [List.foldl_cons]
   obtain ⟨h1,h2⟩:=@ih (max a (g x))
   refine ⟨by omega,fun r hr=>?_⟩
   rcases List.mem_cons.1 hr with e | e
   ·subst e;omega
   ·exact h2 r e
theorem Ck {l:List aF} {g:aF→Int} {M:Int} (h:∀ r ∈ l,g r≤M):∀ {a:Int},a≤M→l.foldl (fun s r=>max s (g r)) a≤M:=by
 induction l with
 | nil=>intro a h;exact h
 | cons x l ih =>
   intro a ha
   rw [List.foldl_cons]
   exact ih (fun r hr=>h r (List.mem_cons_of_mem _ hr)) (by have:=h x List.mem_cons_self;omega)
theorem Wx {l:List aF} (h:∀ r ∈ l,vR r):0≤vJ l∧vJ l≤1048576:=⟨(foldl_max (g:=fun r=>r.X+r.W)).1,Ck (g:=fun r=>r.X+r.W) (fun r hr=>by have:=h r hr;unfold vR at this;omega) (by omega)⟩
theorem Ww {l:List aF} (h:∀ r ∈ l,vR r):0≤uI l∧uI l≤1048576:=⟨(foldl_max (g:=fun r=>r.Y+r.H)).1,Ck (g:=fun r=>r.Y+r.H) (fun r hr=>by have:=h r hr;unfold vR at this;omega) (by omega)⟩
theorem Ye (r2:aX×ByteArray×ByteArray×Int×Int) (hl:r2.1.aD.length≤1000) (hv:∀ r ∈ r2.1.aD,vR r):aL (iA r2) (0,0,0)=some (vJ r2.1.aD,uI r2.1.aD):=by
 obtain ⟨a,q1,q2⟩:=kI r2.1.aD (fun k (s:Int×Int)=>(s.1,s.2,(k:Int))) (iA r2) (fun s=>s) (fun k s=>s=(vJ (r2.1.aD.take k),uI (r2.1.aD.take k))) (0,0) rfl
  (fun k r s hr hI=>by
   have hk:=cJ hr
   have hd:decide ((k:Int)<(r2.1.aD.length:Int))=true:=by simp [hk]
   obtain ⟨e1,e2⟩:=EI (hv r (List.mem_of_getElem? hr))
   unfold iA
   simp only [hd,if_true,bC hr,Option.bind_some,e1,e2,Er,bS k (by omega)]
   refine ⟨(max s.1 (r.X+r.W),max s.2 (r.Y+r.H)),rfl, ?_⟩
   subst hI
   rw [eX hr]
   unfold vJ uI
   rw [List.foldl_append,List.foldl_append];rfl) (fun s _=>by simp [iA])
 rw [List.take_length] at q2
 rw [show ((0:Int),(0:Int),(0:Int))=((0:Int),(0:Int),((0:Nat):Int)) from rfl,q1,q2]
theorem Zb (r:aX×Int×ByteArray×ByteArray×Int×Int) (hl:r.1.aD.length≤1000) (hv:∀ x ∈ r.1.aD,vR x):aL (yV r) (0,0,0)=some (vJ r.1.aD,uI r.1.aD):=by
 obtain ⟨a,q1,q2⟩:=kI r.1.aD (fun k (s:Int×Int)=>((k:Int),s.1,s.2)) (yV r) (fun s=>s) (fun k s=>s=(vJ (r.1.aD.take k),uI (r.1.aD.take k))) (0,0) rfl
  (fun k x s hr hI=>by
   have hk:=cJ hr
   have hd:decide ((k:Int)<(r.1.aD.length:Int))=true:=by simp [hk]
   obtain ⟨e1,e2⟩:=EI (hv x (List.mem_of_getElem? hr))
   unfold yV
   simp only [hd,if_true,bC hr,Option.bind_some,e1,e2,Er,bS k (by omega)]
   refine ⟨(max s.1 (x.X+x.W),max s.2 (x.Y+x.H)),rfl, ?_⟩
   subst hI
   rw [eX hr]
   unfold vJ uI
   rw [List.foldl_append,List.foldl_append];rfl) (fun s _=>by simp [yV])
 rw [List.take_length] at q2
 rw [show ((0:Int),(0:Int),(0:Int))=(((0:Nat):Int),(0:Int),(0:Int)) from rfl,q1,q2]
theorem Ur {R:Type} (f:Int→Int) (hx:Int) (ok:Int→Bool) (l:List Int) (body:Int→Option (Int ⊕ R)) (yes:Int×Int→R) (no:R)
  (step:∀ (k:Nat) y,l[k]?=some y→body (k:Int)=if ok y=true∧f y≤hx then some (.inr (yes (f y,y))) else some (.inl ((k+1:Nat):Int))) (fin:body (l.length:Int)=some (.inr no)) :
  aL body 0=some (match scan f hx (l.filter ok) with | some p=>yes p | none=>no):=by
 have key:∀ (n k:Nat),k+n=l.length→aL body (k:Int)=some (match scan f hx ((l.drop k).filter ok) with | some p=>yes p | none=>no):=by
  intro n
  induction n with
  | zero =>
    intro k h;obtain rfl:k=l.length:=by omega
    rw [List.drop_length,eK fin];rfl
  | succ n ih =>
    intro k h
    have hk:k<l.length:=by omega
    have hy:l[k]?=some l[k]:=by simp
    have hs:=step k _ hy
    rw [List.drop_eq_getElem_cons hk,List.filter_cons]
    by_cases o:ok l[k]=true
    ·rw [if_pos o]
     unfold scan
     by_cases c:f l[k]≤hx
     ·rw [if_pos ⟨o,c⟩] at hs;rw [if_pos c,eK hs]
     ·rw [if_neg fun q=>c q.2] at hs;rw [if_neg c,iD hs,ih (k+1) (by omega)]
    ·rw [if_neg fun q=>o q.1] at hs;rw [if_neg o,iD hs,ih (k+1) (by omega)]
 have:=key l.length 0 (by omega)
 simpa using this
theorem Za {x:aX} {turn:Int} {s:bU} {soft:List aF} {t:bE} {q:aX} {n m:ByteArray} {g k:Int} (hT:jI x turn=some (q,n,m,g,k)) (h:DS q.aD (s.aY++s.Used) soft t) (hm:0≤t.aR∧t.aR≤14400) (hw:1≤s.cQ∧s.cQ≤1048576) (hh:1≤s.bJ∧s.bJ≤1048576) :
  ∃ o:Option (Int×Int),Lst (Fe q.aD (Ly (s.aY++s.Used) soft t) t.aR (s.cQ-t.aR-vJ q.aD) (s.bJ-t.aR-uI q.aD)) o ∧
    sF x turn s soft t=some (match o with | some p=>(aZ.mk 0 0 p.1 p.2 turn,true,p.1,p.2,turn) | none=>(aZ.mk 0 0 0 0 0,false,0,0,0)):=by
 obtain ⟨ys,y1,y2,y3,y4,y5⟩:=Sp h
 have hl:=h.hl
 rw [List.length_append] at hl
 have bw:=Wx h.lv
 have bh:=Ww h.lv
 have hf:∀ y,t.aR≤y→y≤s.bJ-t.aR-uI q.aD→∃ x,mY q.aD (s.aY++s.Used) soft t y (s.cQ-t.aR-vJ q.aD)=some (x,decide (x≤s.cQ-t.aR-vJ q.aD))∧Ho (Az q.aD (s.aY++s.Used) soft t y) t.aR x:=fun y q1 q2=>Yw h (by omega) hm.2
 refine ⟨_,Tm (JG h) (JF h) y2 y3 y4 (f:=fx (Az q.aD (s.aY++s.Used) soft t) t.aR) (sp:=Az q.aD (s.aY++s.Used) soft t) (fun y q1 q2=>?_) (fun x y=>AH h x y), ?_⟩
 ·obtain ⟨x,_,e⟩:=hf y q1 q2
  rw [Wo e];exact e
 ·unfold sF
  rw [hT]
  simp only [Option.bind_some,Ye (q,n,m,g,k) (show q.aD.length≤1000 by have:=h.ll;omega) h.lv]
  rw [pE (by simp [LIM];omega)]
  simp only [List.nil_append,Option.bind_some]
  rw [pE (by unfold LIM;omega)]
  simp only [Option.bind_some,y1]
  have lp:=Ur (fx (Az q.aD (s.aY++s.Used) soft t) t.aR) (s.cQ-t.aR-vJ q.aD) (fun y=>decide (t.aR≤y)&&decide (y≤s.bJ-t.aR-uI q.aD)) ys (lE s soft t (q,n,m,g,k) (vJ q.aD,uI q.aD) (s.aY++s.Used) ys) (fun p=>.inl p) (.inr ()) (fun k y hy=>by
   have hk:=cJ hy
   have hd:decide ((k:Int)<(ys.length:Int))=true:=by simp [hk]
   have e1:aH (aH s.bJ t.aR) (uI q.aD)=s.bJ-t.aR-uI q.aD:=by
    have e0:aH s.bJ t.aR=s.bJ-t.aR:=aU (by omega) (by omega)
    rw [e0,aU (by omega) (by omega)]
   have e2:aH (aH s.cQ t.aR) (vJ q.aD)=s.cQ-t.aR-vJ q.aD:=by
    have e0:aH s.cQ t.aR=s.cQ-t.aR:=aU (by omega) (by omega)
    rw [e0,aU (by omega) (by omega)]
   unfold lE pL
   simp only [hd,if_true,bC hy,Option.bind_some,e1,e2,bS k (by omega)]
   by_cases c1:y<t.aR
   ·have:¬ t.aR≤y:=by omega
    simp [c1,this]
   ·have c1':t.aR≤y:=by omega
    by_cases c2:y>s.bJ-t.aR-uI q.aD
    ·have:¬ y≤s.bJ-t.aR-uI q.aD:=by omega
     simp [c1,c2,this]
    ·have c2':y≤s.bJ-t.aR-uI q.aD:=by omega
     obtain ⟨x,b1,b2⟩:=hf y c1' c2'
     rw [Wo b2]
     simp only [c1,c2,c1',c2',decide_false,decide_true,Bool.false_eq_true,if_false,Option.bind_some,b1,Bool.and_self,true_and]
     by_cases c:x≤s.cQ-t.aR-vJ q.aD <;> simp [c]) (by simp [lE])
  rw [lp]
  cases scan (fx (Az q.aD (s.aY++s.Used) soft t) t.aR) (s.cQ-t.aR-vJ q.aD) (ys.filter fun y=>decide (t.aR≤y)&&decide (y≤s.bJ-t.aR-uI q.aD)) <;> rfl
theorem Zp (t:bE):∃ b,iG t=some b∧gV t=some b∧(b=true→(0≤t.Gap∧t.Gap≤14400)∧(0≤t.aR∧t.aR≤14400)):=by
 obtain ⟨b,h1,h2⟩:=Pb t
 refine ⟨b,h1,h2,fun hb=>?_⟩
 subst hb
 unfold iG at h1
 simp only [Al,Option.bind_some] at h1
 by_cases h:0≤t.Gap∧t.Gap≤14400
 ·refine ⟨h, ?_⟩
  simpa [h] using h1
 ·simp [h] at h1
theorem CK (x:List aF) (hx:x.length≤1000) (out0:List aO) (h0:out0.length≤100000):aL (mL x) (0,out0)=some (out0++x.map fun r=>⟨r,0,false⟩):=by
 obtain ⟨a,q1,q2⟩:=kI x (fun k (s:List aO)=>((k:Int),s)) (mL x) (fun s=>s) (fun k s=>s=out0++(x.take k).map fun r=>⟨r,0,false⟩) out0 (by simp)
  (fun k r s hr hI=>by
   have hk:=cJ hr
   have hd:decide ((k:Int)<(x.length:Int))=true:=by simp [hk]
   unfold mL
   simp only [hd,if_true,bC hr,Option.bind_some,bS k (by omega)]
   rw [pE (by rw [hI];simp [LIM];omega)]
   refine ⟨_,rfl, ?_⟩
   rw [eX hr,hI];simp) (fun s _=>by simp [mL])
 rw [List.take_length] at q2
 rw [show ((0:Int),out0)=(((0:Nat):Int),out0) from rfl,q1,q2]
theorem JD (s:bU) (h1:s.aY.length≤1000) (h2:s.Used.length≤1000):aL (fW s) (0,[])=some ((s.aY++s.Used).map fun r=>⟨r,0,false⟩):=by
 have i0:idx [s.aY,s.Used] 0=some s.aY:=rfl
 have i1:idx [s.aY,s.Used] 1=some s.Used:=rfl
 have d0:decide ((0:Int)<(([s.aY,s.Used]:List (List aF)).length:Int))=true:=rfl
 have d1:decide ((1:Int)<(([s.aY,s.Used]:List (List aF)).length:Int))=true:=rfl
 have d2:decide ((2:Int)<(([s.aY,s.Used]:List (List aF)).length:Int))=false:=rfl
 have s0:fW s (0,[])=some (.inl (1,s.aY.map fun r=>⟨r,0,false⟩)):=by
  unfold fW
  simp only [i0,d0,if_true,Option.bind_some,CK s.aY h1 [] (by simp),List.nil_append]
  rfl
 have s1:fW s (1,s.aY.map fun r=>⟨r,0,false⟩)=some (.inl (2,(s.aY.map fun r=>(⟨r,0,false⟩:aO))++s.Used.map fun r=>⟨r,0,false⟩)):=by
  unfold fW
  simp only [i1,d1,if_true,Option.bind_some,CK s.Used h2 _ (show (s.aY.map fun r=>(⟨r,0,false⟩:aO)).length≤100000 by rw [List.length_map];omega)]
  rfl
 have s2:∀ o,fW s (2,o)=some (.inr o):=fun o=>by
  unfold fW
  simp only [d2,Bool.false_eq_true,if_false]
 rw [iD s0,iD s1,eK (s2 _),List.map_append]
theorem JE (t:bE) (x:List aF) (hx:x.length≤1000) (hv:∀ r ∈ x,vR r) (out0:List aO) (h0:out0.length≤100000):aL (mM t x) (0,out0)=some (out0++x.map fun r=>⟨r,t.Gap,t.eN⟩):=by
 obtain ⟨a,q1,q2⟩:=kI x (fun k (s:List aO)=>((k:Int),s)) (mM t x) (fun s=>s) (fun k s=>s=out0++(x.take k).map fun r=>⟨r,t.Gap,t.eN⟩) out0 (by simp)
  (fun k r s hr hI=>by
   have hk:=cJ hr
   have hd:decide ((k:Int)<(x.length:Int))=true:=by simp [hk]
   have vr:=hv r (List.mem_of_getElem? hr)
   unfold mM pV
   simp only [hd,if_true,bC hr,Option.bind_some,oJ,vr,decide_true,bS k (by omega)]
   rw [pE (by rw [hI];simp [LIM];omega)]
   refine ⟨_,rfl, ?_⟩
   rw [eX hr,hI];simp) (fun s _=>by simp [mM])
 rw [List.take_length] at q2
 rw [show ((0:Int),out0)=(((0:Nat):Int),out0) from rfl,q1,q2]
theorem BM {taken:List (List aF)} (h12:∀ x ∈ taken,x.length≤12):taken.flatten.length≤12*taken.length:=by
 induction taken with
 | nil=>simp
 | cons x t ih =>
   have h1:=ih fun y hy=>h12 y (List.mem_cons_of_mem _ hy)
   have h2:=h12 x List.mem_cons_self
   rw [List.flatten_cons,List.length_append,List.length_cons];omega
theorem Ri {s:bU} {taken:List (List aF)} {t:bE} (h1:s.aY.length≤4) (h2:s.Used.length≤48) (hl:taken.length≤8) (h12:∀ x ∈ taken,x.length≤12) (hv:∀ x ∈ taken,∀ r ∈ x,vR r) :
  tT s taken t=some ((s.aY++s.Used).map (fun r=>⟨r,0,false⟩)++taken.flatten.map fun r=>⟨r,t.Gap,t.eN⟩):=by
 unfold tT
 rw [JD s (by omega) (by omega)]
 simp only [Option.bind_some]
 obtain ⟨a,q1,q2,q3⟩:=kI taken (fun k (o:List aO)=>((k:Int),o)) (pW taken t) (fun o=>o) (fun k o=>o=((s.aY++s.Used).map fun r=>(⟨r,0,false⟩:aO))++(taken.take k).flatten.map (fun r=>⟨r,t.Gap,t.eN⟩)∧o.length≤52+12*k) ((s.aY++s.Used).map fun r=>⟨r,0,false⟩) ⟨by simp,by rw [List.length_map,List.length_append];omega⟩
  (fun k x o hx hI=>by
   have hk:=cJ hx
   have hd:decide ((k:Int)<(taken.length:Int))=true:=by simp [hk]
   obtain ⟨i1,i2⟩:=hI
   have hxm:=List.mem_of_getElem? hx
   have hx12:=h12 x hxm
   unfold pW
   simp only [hd,if_true,bC hx,Option.bind_some,JE t x (by omega) (hv x hxm) o (by omega),bS k (by omega)]
   refine ⟨_,rfl, ?_,by simp only [List.length_append,List.length_map];omega⟩
   rw [eX hx,List.flatten_append,i1];simp) (fun o _=>by simp [pW])
 rw [List.take_length] at q2
 rw [show ((0:Int),(s.aY++s.Used).map fun r=>(⟨r,0,false⟩:aO))=(((0:Nat):Int),(s.aY++s.Used).map fun r=>(⟨r,0,false⟩:aO)) from rfl,q1,q2]
 rfl
def Sy (taken:List (List aF)):Bool:=taken.any fun x=>decide (x.length>12)
def Xw (taken:List (List aF)):Bool:=taken.any fun x=>x.any fun r=>!decide (vR r)
theorem EF (taken:List (List aF)):vG taken=some (if taken.length>8 then 4 else if Sy taken then 4 else if Xw taken then 1 else 0):=by
 unfold vG
 by_cases h8:taken.length>8
 ·have:(taken.length:Int)>8:=by omega
  simp [h8,this]
 have h8':¬ (taken.length:Int)>8:=by omega
 simp only [h8,h8',decide_false,Bool.false_eq_true,if_false]
 have e1:aL (nL taken) 0=some (if Sy taken then .inl () else .inr ()):=by
  refine fH taken (nL taken) (fun k=>(k:Int)) (fun x=>decide (x.length>12)) _ _ rfl (fun k x hx=>?_) ?_
  ·have hk:=cJ hx
   have hd:decide ((k:Int)<(taken.length:Int))=true:=by simp [hk]
   unfold nL
   simp only [hd,if_true,bC hx,Option.bind_some,bS k (by omega)]
   by_cases c:x.length>12
   ·have:(x.length:Int)>12:=by omega
    simp [c,this]
   ·have:¬ (x.length:Int)>12:=by omega
    simp [c,this]
  ·simp [nL]
 rw [e1,Option.bind_some]
 cases hL:Sy taken with
 | true=>rfl
 | false =>
   have h12:∀ x ∈ taken,x.length≤12:=fun x hx=>by
    have:=List.any_eq_false.1 hL x hx
    simpa using this
   have e2:aL (nM taken) 0=some (if Xw taken then .inl () else .inr ()):=by
    refine fH taken (nM taken) (fun k=>(k:Int)) (fun x=>x.any fun r=>!decide (vR r)) _ _ rfl (fun k x hx=>?_) ?_
    ·have hk:=cJ hx
     have hd:decide ((k:Int)<(taken.length:Int))=true:=by simp [hk]
     have:=h12 x (List.mem_of_getElem? hx)
     unfold nM
     simp only [hd,if_true,bC hx,Option.bind_some,kR x (by omega),bS k (by omega),Bool.not_not]
    ·simp [nM]
   simp only [Bool.false_eq_true,if_false,e2,Option.bind_some]
   cases Xw taken <;> rfl
theorem Sj {taken:List (List aF)} (h8:taken.length≤8):aL (fJ taken) (0,[])=some (if Sy taken then .inl () else .inr taken.flatten):=by
 have key:∀ (n k:Nat),k+n=taken.length→(∀ x ∈ taken.take k,x.length≤12)→aL (fJ taken) ((k:Int),(taken.take k).flatten)=some (if (taken.drop k).any (fun x=>decide (x.length>12)) then .inl () else .inr taken.flatten):=by
  intro n
  induction n with
  | zero =>
    intro k h _;obtain rfl:k=taken.length:=by omega
    rw [List.drop_length,List.take_length]
    rw [eK (r:=.inr taken.flatten) (by simp [fJ])];rfl
  | succ n ih =>
    intro k h h12
    have hk:k<taken.length:=by omega
    have hx:taken[k]?=some taken[k]:=by simp
    have hd:decide ((k:Int)<(taken.length:Int))=true:=by simp [hk]
    rw [List.drop_eq_getElem_cons hk,List.any_cons]
    by_cases c:taken[k].length>12
    ·have c':(taken[k].length:Int)>12:=by omega
     rw [eK (r:=.inl ()) (by unfold fJ;simp [hk,bC hx,c'])]
     simp [c]
    ·have c':¬ (taken[k].length:Int)>12:=by omega
     have lf:=BM h12
     rw [List.length_take] at lf
     have step:fJ taken ((k:Int),(taken.take k).flatten)=some (.inl (((k+1:Nat):Int),(taken.take (k+1)).flatten)):=by
      unfold fJ
      simp only [hd,if_true,bC hx,Option.bind_some,c',decide_false,Bool.false_eq_true,if_false,bS k (by omega)]
      rw [pE (by unfold LIM;omega),eX hx,List.flatten_append];simp
     rw [iD step,ih (k+1) (by omega) (fun x hx'=>by
      rw [eX hx] at hx'
      rcases List.mem_append.1 hx' with q | q
      ·exact h12 x q
      ·simp at q;subst q;omega)]
     simp [c]
 exact key taken.length 0 (by omega) (by simp)
def upd (st:Bool×Int×Int×Int) (n:Int) (o:Option (Int×Int)):Bool×Int×Int×Int:=match o with
 | none=>st
 | some p=>if st.1=false∨p.2<st.2.2.1∨(p.2=st.2.2.1∧p.1<st.2.1) then (true,p.1,p.2,n) else st
def kA (P:Nat→Option (Int×Int)) (k:Nat):Bool×Int×Int×Int:=(List.range k).foldl (fun st (n:Nat)=>upd st (n:Int) (P n)) (false,0,0,0)
theorem Aw (P:Nat→Option (Int×Int)) (k:Nat):kA P (k+1)=upd (kA P k) (k:Int) (P k):=by
 unfold kA;rw [List.range_succ,List.foldl_append];rfl
structure Pw (x:aX) (s:bU) (obs:List (aF×Int×Bool)) (m:Int) (P:Nat→Option (Int×Int)):Prop where
 al:∀ n:Nat,n<4→iE x s (n:Int)=some true→Lst (Fe (trn n x.aD x.aD) obs m (s.cQ-m-vJ (trn n x.aD x.aD)) (s.bJ-m-uI (trn n x.aD x.aD))) (P n)
 no:∀ n:Nat,n<4→iE x s (n:Int)=some false→P n=none
theorem Pw.same {x:aX} {s:bU} {obs:List (aF×Int×Bool)} {m:Int} {P P':Nat→Option (Int×Int)} (h:Pw x s obs m P) (h':Pw x s obs m P'):∀ n,n<4→P n=P' n:=fun n hn=>by
 obtain ⟨b,h1,_⟩:=tM x s (n:Int)
 cases b with
 | true=>exact Ob (h.al n hn h1) (h'.al n hn h1)
 | false=>rw [h.no n hn h1,h'.no n hn h1]
theorem Ii {P P':Nat→Option (Int×Int)} (h:∀ n,n<4→P n=P' n):∀ k,k≤4→kA P k=kA P' k
 | 0,_=>rfl
 | k+1,hk=>by rw [Aw,Aw,Ii h k (by omega),h k (by omega)]
theorem Mq {x:aX} (hx:bD x=some 0) (n:Nat) (hn:n≤3) :
  (∃ a b c d e f g h i j,tD x ⟨0,0,0,0,(n:Int)⟩=some (⟨a,b,c,d,trn n x.aD x.aD,e,f⟩,0,g,h,i,j))∧(∃ q m k g h,jI x (n:Int)=some (q,m,k,g,h)∧q.aD=trn n x.aD x.aD) ∧
   (∀ r ∈ trn n x.aD x.aD,vR r∧0≤r.X∧0≤r.Y)∧(trn n x.aD x.aD).length≤12∧0<(trn n x.aD x.aD).length:=by
 obtain ⟨z,hz,_,hv⟩:=yP x
 have h:=hv (Option.some.inj (hz.symm.trans hx))
 have g1:Good 0 0 x.aD:=⟨h.n1,h.v1⟩
 obtain ⟨p1,_⟩:=Vy hx n hn
 obtain ⟨r,t,hc⟩:∃ r t,tq n x.aD=r::t:=by
  cases e:tq n x.aD with
  | nil=>exact absurd e (Xk n h.n0)
  | cons r t=>exact ⟨r,t,rfl⟩
 obtain ⟨⟨lx1,lx2,lx3,lx4⟩,ly1,ly2,ly3,ly4⟩:=Rh (g1.tq n) hc
 have k1:=xK (g1.tq n) ⟨lx1,lx2⟩ ⟨ly1,ly2⟩ ⟨lx3,lx4⟩ ⟨ly3,ly4⟩
 have hlo:lo (tq n x.aD)=(mQ (tq n x.aD) r.X,mS (tq n x.aD) r.Y):=by
  rw [show lo (tq n x.aD)=lo (r::t) by rw [hc],lo,hc]
 have e0:=Ib (g1.tq n) ⟨lx3,lx4⟩ ⟨ly3,ly4⟩
 have e1:trn n x.aD x.aD=(tq n x.aD).map (trR (-(mQ (tq n x.aD) r.X)) (-(mS (tq n x.aD) r.Y))):=by unfold trn nrm;rw [hlo]
 have hlen:(trn n x.aD x.aD).length=x.aD.length:=by rw [e1,List.length_map,Kw]
 have hT:=Xm h n hn hc
 refine ⟨?_,⟨_,_,_,_,_,hT,by rw [e1,← e0]⟩,fun q hq=>?_,by rw [hlen];exact h.n1,by rw [hlen];exact h.n0⟩
 ·unfold rO at p1
  simp only [hx,Option.bind_some,bne_self_eq_false,Bool.false_eq_true,if_false,Al,show (0≤(n:Int)∧(n:Int)≤3) by omega,show ((-1048576:Int)≤0∧(0:Int)≤1048576) by omega,and_self,decide_true,Bool.not_true,if_true] at p1
  cases e:tD x ⟨0,0,0,0,(n:Int)⟩ with
  | none=>rw [e] at p1;cases p1
  | some v =>
    rw [e] at p1
    obtain ⟨v1,v2,v3,v4,v5,v6⟩:=v
    simp only [Option.bind_some,Option.some.injEq,Prod.mk.injEq] at p1
    obtain ⟨w1,w2,w3,w4,w5,w6⟩:=p1
    have w1':v1=(⟨x.Name,x.bA,x.dO,x.bW,trn n x.aD x.aD,trn n x.aD x.bQ,trn n x.aD x.Forms⟩:aX):=w1
    subst w1' w2
    exact ⟨_,_,_,_,_,_,_,_,_,_,rfl⟩
 ·have v:=(k1.2 q (by rw [e0,← e1];exact hq)).1
  refine ⟨v, ?_, ?_⟩
  ·rw [e1] at hq
   obtain ⟨a,ha,rfl⟩:=List.mem_map.1 hq
   have:=(Jn (l:=tq n x.aD) (g:=fun r=>r.X) (a:=r.X)).2 a ha
   show 0≤a.X+-(mQ (tq n x.aD) r.X)
   unfold mQ
   omega
  ·rw [e1] at hq
   obtain ⟨a,ha,rfl⟩:=List.mem_map.1 hq
   have:=(Jn (l:=tq n x.aD) (g:=fun r=>r.Y) (a:=r.Y)).2 a ha
   show 0≤a.Y+-(mS (tq n x.aD) r.Y)
   unfold mS
   omega
theorem BL {x:aX} {s:bU} {t:bE} {obs:List aO} (hx:bD x=some 0) (hw:1≤s.cQ∧s.cQ≤1048576) (hh:1≤s.bJ∧s.bJ≤1048576) (hm:0≤t.aR∧t.aR≤14400) (h1:0≤s.cQ-2*t.aR) (h2:0≤s.bJ-2*t.aR) (ob:∀ o ∈ obs,BO o) (ol:obs.length≤1000) (n:Nat) (hn:n<4) :
  ∃ o:Option (Int×Int),(iE x s (n:Int)=some true→Lst (Fe (trn n x.aD x.aD) (Uv obs) t.aR (s.cQ-t.aR-vJ (trn n x.aD x.aD)) (s.bJ-t.aR-uI (trn n x.aD x.aD))) o)∧(iE x s (n:Int)=some false→o=none) ∧
    ∀ st:Bool×Int×Int×Int,rE s x (⟨t.aR,t.aR,s.cQ-2*t.aR,s.bJ-2*t.aR⟩,true) obs (st.1,(n:Int),st.2.1,st.2.2.1,st.2.2.2)=some (.inl ((upd st (n:Int) o).1,((n+1:Nat):Int),(upd st (n:Int) o).2.1,(upd st (n:Int) o).2.2.1,(upd st (n:Int) o).2.2.2)):=by
 obtain ⟨b,hb,_⟩:=tM x s (n:Int)
 have hd:decide ((n:Int)<4)=true:=by simp;omega
 cases b with
 | false =>
   refine ⟨none,fun q=>(by rw [hb] at q;cases q),fun _=>rfl,fun st=>?_⟩
   unfold rE sZ
   simp only [hd,if_true,hb,Option.bind_some,Bool.not_false,bS n (by omega),upd]
 | true =>
   obtain ⟨⟨a,b,c,d,e,f,g,h,i,j,p1⟩,_,p3,p4,p5⟩:=Mq hx n (by omega)
   have hv:∀ r ∈ trn n x.aD x.aD,vR r:=fun r hr=>(p3 r hr).1
   have bw:=Wx hv
   have bh:=Ww hv
   have bs:BS (dQ.mk (trn n x.aD x.aD) obs ⟨t.aR,t.aR,s.cQ-2*t.aR,s.bJ-2*t.aR⟩ (vJ (trn n x.aD x.aD)) (uI (trn n x.aD x.aD))):=⟨hv,p4,ob,ol⟩
   obtain ⟨o,o1,o2⟩:=CV bs hm rfl rfl (show 0≤s.cQ-2*t.aR∧s.cQ-2*t.aR≤1048576 by omega) (show 0≤s.bJ-2*t.aR∧s.bJ-2*t.aR≤1048576 by omega) (show 0≤vJ (trn n x.aD x.aD)∧vJ (trn n x.aD x.aD)≤4194304 by omega) (show 0≤uI (trn n x.aD x.aD)∧uI (trn n x.aD x.aD)≤4194304 by omega)
   simp only at o1
   rw [show t.aR+(s.cQ-2*t.aR)-vJ (trn n x.aD x.aD)=s.cQ-t.aR-vJ (trn n x.aD x.aD) by omega,show t.aR+(s.bJ-2*t.aR)-uI (trn n x.aD x.aD)=s.bJ-t.aR-uI (trn n x.aD x.aD) by omega] at o1
   refine ⟨o,fun _=>o1,fun q=>(by rw [hb] at q;cases q),fun st=>?_⟩
   have pm:=Zb (⟨a,b,c,d,trn n x.aD x.aD,e,f⟩,0,g,h,i,j) (show (trn n x.aD x.aD).length≤1000 by omega) hv
   unfold rE sZ
   simp only [hd,if_true,hb,Option.bind_some,Bool.not_true,Bool.false_eq_true,if_false,p1,bne_self_eq_false,pm,o2,bS n (by omega)]
   cases o with
   | none=>simp [upd]
   | some p =>
     obtain ⟨f0,x0,y0,t0⟩:=st
     simp only [upd,if_true]
     cases f0 with
     | false=>simp
     | true =>
       by_cases c1:p.2<y0
       ·simp [c1]
       ·by_cases c2:p.2=y0
        ·by_cases c3:p.1<x0 <;> simp [c2,c3]
        ·simp [c1,c2]
theorem BK {x:aX} {s:bU} {r:aF×Bool} {obs:List aO} {P:Nat→Option (Int×Int)}
  (h:∀ n:Nat,n<4→∀ st:Bool×Int×Int×Int,rE s x r obs (st.1,(n:Int),st.2.1,st.2.2.1,st.2.2.2)=some (.inl ((upd st (n:Int) (P n)).1,((n+1:Nat):Int),(upd st (n:Int) (P n)).2.1,(upd st (n:Int) (P n)).2.2.1,(upd st (n:Int) (P n)).2.2.2))) :
  aL (rE s x r obs) (false,0,0,0,0)=some ((kA P 4).1,(kA P 4).2.1,(kA P 4).2.2.1,(kA P 4).2.2.2):=by
 obtain ⟨a,q1,q2⟩:=kI (List.range 4) (fun k (st:Bool×Int×Int×Int)=>(st.1,(k:Int),st.2.1,st.2.2.1,st.2.2.2)) (rE s x r obs) (fun st=>(st.1,st.2.1,st.2.2.1,st.2.2.2)) (fun k st=>st=kA P k) (false,0,0,0) rfl
  (fun k n st hk hI=>by
   have hk4:=cJ hk
   rw [List.length_range] at hk4
   exact ⟨_,h k hk4 st,by rw [Aw,hI]⟩) (fun st _=>by simp [rE])
 rw [show ((false,(0:Int),(0:Int),(0:Int),(0:Int)):Bool×Int×Int×Int×Int)=(false,((0:Nat):Int),0,0,0) from rfl]
 exact q1.trans (by rw [q2];rfl)
theorem Yn {x:aX} {s:bU} {soft:List aF} {t:bE} (hx:bD x=some 0) (hs:VS s) (hm:0≤t.aR∧t.aR≤14400) (hg:0≤t.Gap∧t.Gap≤14400) (sv:∀ r ∈ soft,vR r) (sl:soft.length≤100) (n:Nat) (hn:n<4) :
  ∃ o:Option (Int×Int),(iE x s (n:Int)=some true→Lst (Fe (trn n x.aD x.aD) (Ly (s.aY++s.Used) soft t) t.aR (s.cQ-t.aR-vJ (trn n x.aD x.aD)) (s.bJ-t.aR-uI (trn n x.aD x.aD))) o)∧(iE x s (n:Int)=some false→o=none) ∧
    ∀ st:Bool×Int×Int×Int,eB s soft x t (st.1,(n:Int),0,0,st.2.1,st.2.2.1,st.2.2.2)=some (.inl ((upd st (n:Int) o).1,((n+1:Nat):Int),0,0,(upd st (n:Int) o).2.1,(upd st (n:Int) o).2.2.1,(upd st (n:Int) o).2.2.2)):=by
 obtain ⟨b,hb',hb⟩:=tM x s (n:Int)
 have hd:decide ((n:Int)<4)=true:=by simp;omega
 cases b with
 | false =>
   refine ⟨none,fun q=>(by rw [hb'] at q;cases q),fun _=>rfl,fun st=>?_⟩
   unfold eB jJ
   simp only [hd,if_true,hb,Option.bind_some,Bool.not_false,bS n (by omega),upd]
 | true =>
   obtain ⟨_,⟨q,m,k,g,h,p1,p2⟩,p3,p4,p5⟩:=Mq hx n (by omega)
   rw [← p2] at p3 p4 p5 ⊢
   have ds:DS q.aD (s.aY++s.Used) soft t:=⟨fun r hr=>(p3 r hr).1,p4,hs.v,by have:=hs.n1;have:=hs.n2;rw [List.length_append];omega,sv,sl,hg⟩
   obtain ⟨o,o1,o2⟩:=Za p1 ds hm hs.w hs.h
   refine ⟨o,fun _=>o1,fun z=>(by rw [hb'] at z;cases z),fun st=>?_⟩
   unfold eB jJ
   simp only [hd,if_true,hb,Option.bind_some,Bool.not_true,Bool.false_eq_true,if_false,o2,bS n (by omega)]
   cases o with
   | none=>simp [upd]
   | some p =>
     obtain ⟨f0,x0,y0,t0⟩:=st
     simp only [upd,if_true]
     cases f0 with
     | false=>simp
     | true =>
       by_cases c1:p.2<y0
       ·simp [c1]
       ·by_cases c2:p.2=y0
        ·by_cases c3:p.1<x0 <;> simp [c2,c3]
        ·simp [c1,c2]
theorem Ym {x:aX} {s:bU} {soft:List aF} {t:bE} {P:Nat→Option (Int×Int)}
  (h:∀ n:Nat,n<4→∀ st:Bool×Int×Int×Int,eB s soft x t (st.1,(n:Int),0,0,st.2.1,st.2.2.1,st.2.2.2)=some (.inl ((upd st (n:Int) (P n)).1,((n+1:Nat):Int),0,0,(upd st (n:Int) (P n)).2.1,(upd st (n:Int) (P n)).2.2.1,(upd st (n:Int) (P n)).2.2.2))) :
  tZ s soft x t=some (aZ.mk 0 0 (kA P 4).2.1 (kA P 4).2.2.1 (kA P 4).2.2.2,(kA P 4).1,0,0,(kA P 4).2.1,(kA P 4).2.2.1,(kA P 4).2.2.2):=by
 obtain ⟨a,q1,q2⟩:=kI (List.range 4) (fun k (st:Bool×Int×Int×Int)=>(st.1,(k:Int),(0:Int),(0:Int),st.2.1,st.2.2.1,st.2.2.2)) (eB s soft x t) (fun st=>(st.1,0,0,st.2.1,st.2.2.1,st.2.2.2)) (fun k st=>st=kA P k) (false,0,0,0) rfl
  (fun k n st hk hI=>by
   have hk4:=cJ hk
   rw [List.length_range] at hk4
   exact ⟨_,h k hk4 st,by rw [Aw,hI]⟩) (fun st _=>by simp [eB])
 unfold tZ
 have q1':aL (eB s soft x t) (false,0,0,0,0,0,0)=some ((kA P 4).1,0,0,(kA P 4).2.1,(kA P 4).2.2.1,(kA P 4).2.2.2):=q1.trans (by rw [q2];rfl)
 rw [q1'];rfl
theorem Wf {Q:Nat→Option (Int×Int)→Prop} (H:∀ n:Nat,n<4→∃ o,Q n o):∃ P:Nat→Option (Int×Int),∀ n:Nat,n<4→Q n (P n):=by
 refine ⟨fun n=>if hn:n<4 then Classical.choose (H n hn) else none,fun n hn=>?_⟩
 simp only [hn,dite_true]
 exact Classical.choose_spec (H n hn)
theorem JC (s:bU) (taken:List (List aF)) (t:bE):Uv ((s.aY++s.Used).map (fun r=>(⟨r,0,false⟩:aO))++taken.flatten.map fun r=>⟨r,t.Gap,t.eN⟩)=Ly (s.aY++s.Used) taken.flatten t:=by
 unfold Uv Ly
 rw [List.map_append,List.map_map,List.map_map];rfl
theorem BZ {s:bU} {m:Int} (hs:VS s) (hm:0≤m∧m≤14400):vL s m=some (⟨m,m,s.cQ-2*m,s.bJ-2*m⟩,decide (0<s.cQ-2*m∧0<s.bJ-2*m)):=by
 have hw:=hs.w;have hh:=hs.h
 unfold vL
 have e0:eQ 2 m=2*m:=Cq (by omega) (by omega)
 rw [e0,aU (by omega) (by omega),aU (by omega) (by omega),oJ]
 simp only [Option.bind_some]
 congr 2
 exact decide_eq_decide.2 (by unfold vR;simp only;omega)
structure LC (s:bU) (taken:List (List aF)) (x:aX) (t:bE) (pl:aZ) (ok:Bool):Prop where
 vs:VS s
 vx:bD x=some 0
 tl:taken.length≤8
 t12:∀ l ∈ taken,l.length≤12
 tv:∀ l ∈ taken,∀ r ∈ l,vR r
 g:0≤t.Gap∧t.Gap≤14400
 m:0≤t.aR∧t.aR≤14400
 ex:∃ P,Pw x s (Ly (s.aY++s.Used) taken.flatten t) t.aR P∧pl=⟨0,0,(kA P 4).2.1,(kA P 4).2.2.1,(kA P 4).2.2.2⟩∧ok=(kA P 4).1
theorem Tx {x:aX} (hx:bD x=some 0) {n:Nat} (hn:n<4):1≤vJ (trn n x.aD x.aD)∧1≤uI (trn n x.aD x.aD):=by
 obtain ⟨_,_,p3,p4,p5⟩:=Mq hx n (by omega)
 obtain ⟨r,hr⟩:=List.exists_mem_of_ne_nil _ (List.length_pos_iff.1 p5)
 obtain ⟨v,x0,y0⟩:=p3 r hr
 unfold vR at v
 have h1:=(foldl_max (l:=trn n x.aD x.aD) (g:=fun r=>r.X+r.W) (a:=0)).2 r hr
 have h2:=(foldl_max (l:=trn n x.aD x.aD) (g:=fun r=>r.Y+r.H) (a:=0)).2 r hr
 unfold vJ uI
 omega
theorem Xx:kA (fun _=>none) 4=(false,0,0,0):=rfl
theorem AF (s:bU) (taken:List (List aF)) (x:aX) (t:bE):∃ pl ok e u1 u2 u3 w1 w2 w3 w4 w5,Dz s taken x t=some (pl,ok,e,u1,u2,u3)∧Af s taken x t=some (pl,ok,e,w1,w2,w3,w4,w5) ∧
  (e≠0→pl=⟨0,0,0,0,0⟩∧ok=false)∧(e=0→LC s taken x t pl ok):=by
 obtain ⟨a,a1,a2,a3⟩:=Rx s
 obtain ⟨b,b1,b2,b3⟩:=yP x
 obtain ⟨c,c1,c2,c3⟩:=Zp t
 unfold Dz Af
 simp only [a1,a2,Option.bind_some,EF]
 by_cases ha:a=0
 case neg =>
  have ha':(a != 0)=true:=by rw [bne_iff_ne];exact ha
  simp only [ha',if_true]
  exact ⟨_,_,_,_,_,_,_,_,_,_,_,rfl,rfl,fun _=>⟨rfl,rfl⟩,fun q=>absurd q ha⟩
 subst ha
 have vs:=a3 rfl
 simp only [bne_self_eq_false,Bool.false_eq_true,if_false]
 by_cases h8:taken.length>8
 ·have h8':(taken.length:Int)>8:=by omega
  simp only [h8,h8',if_true,decide_true,show ((4:Int) != 0)=true from rfl]
  exact ⟨_,_,_,_,_,_,_,_,_,_,_,rfl,rfl,fun _=>⟨rfl,rfl⟩,fun q=>absurd q (by decide)⟩
 have h8':¬ (taken.length:Int)>8:=by omega
 have tl:taken.length≤8:=by omega
 simp only [h8,h8',if_false,decide_false,Bool.false_eq_true,Sj tl,Option.bind_some]
 cases hL:Sy taken with
 | true =>
   simp only [if_true,show ((4:Int) != 0)=true from rfl]
   exact ⟨_,_,_,_,_,_,_,_,_,_,_,rfl,rfl,fun _=>⟨rfl,rfl⟩,fun q=>absurd q (by decide)⟩
 | false =>
 have t12:∀ l ∈ taken,l.length≤12:=fun l hl=>by
  have:=List.any_eq_false.1 hL l hl
  simpa using this
 have lf:=BM t12
 have hbad:(taken.flatten.any fun r=>!decide (vR r))=Xw taken:=by
  unfold Xw
  rw [Bool.eq_iff_iff,List.any_eq_true,List.any_eq_true]
  constructor
  ·rintro ⟨r,hr,h⟩
   obtain ⟨l,hl,hr⟩:=List.mem_flatten.1 hr
   exact ⟨l,hl,List.any_eq_true.2 ⟨r,hr,h⟩⟩
  ·rintro ⟨l,hl,h⟩
   obtain ⟨r,hr,h⟩:=List.any_eq_true.1 h
   exact ⟨r,List.mem_flatten.2 ⟨l,hl,hr⟩,h⟩
 simp only [Bool.false_eq_true,if_false,Av taken.flatten (by omega),hbad,Option.bind_some]
 cases hB:Xw taken with
 | true =>
   simp only [if_true,show ((1:Int) != 0)=true from rfl,Bool.not_true,Bool.not_false]
   exact ⟨_,_,_,_,_,_,_,_,_,_,_,rfl,rfl,fun _=>⟨rfl,rfl⟩,fun q=>absurd q (by decide)⟩
 | false =>
 have tv:∀ l ∈ taken,∀ r ∈ l,vR r:=fun l hl r hr=>by
  have:=List.any_eq_false.1 (show (taken.flatten.any fun r=>!decide (vR r))=false by rw [hbad,hB]) r (List.mem_flatten.2 ⟨l,hl,hr⟩)
  simpa using this
 simp only [Bool.false_eq_true,if_false,bne_self_eq_false,Bool.not_false,Bool.not_true,b1,b2,Option.bind_some]
 by_cases hb:b=0
 case neg =>
  have hb':(b != 0)=true:=by rw [bne_iff_ne];exact hb
  simp only [hb',if_true]
  exact ⟨_,_,_,_,_,_,_,_,_,_,_,rfl,rfl,fun _=>⟨rfl,rfl⟩,fun q=>absurd q hb⟩
 subst hb
 simp only [bne_self_eq_false,Bool.false_eq_true,if_false,c1,c2,Option.bind_some]
 cases c with
 | false =>
   simp only [Bool.not_false,if_true]
   exact ⟨_,_,_,_,_,_,_,_,_,_,_,rfl,rfl,fun _=>⟨rfl,rfl⟩,fun q=>absurd q (by decide)⟩
 | true =>
 obtain ⟨cg,cm⟩:=c3 rfl
 simp only [Bool.not_true,Bool.false_eq_true,if_false,BZ vs cm,Option.bind_some]
 have n1:=vs.n1;have n2:=vs.n2
 have sv:∀ r ∈ taken.flatten,vR r:=fun r hr=>by
  obtain ⟨l,hl,hr⟩:=List.mem_flatten.1 hr
  exact tv l hl r hr
 obtain ⟨P',hP'⟩:=Wf (fun n hn=>Yn b1 vs cm cg sv (by omega) n hn)
 have T':Pw x s (Ly (s.aY++s.Used) taken.flatten t) t.aR P':=⟨fun n hn=>(hP' n hn).1,fun n hn=>(hP' n hn).2.1⟩
 have fD:=Ym (fun n hn=>(hP' n hn).2.2)
 by_cases hi:0<s.cQ-2*t.aR∧0<s.bJ-2*t.aR
 ·have ol:(((s.aY++s.Used).map (fun r=>(⟨r,0,false⟩:aO))++taken.flatten.map fun r=>(⟨r,t.Gap,t.eN⟩:aO))).length≤1000:=by
   simp only [List.length_append,List.length_map];omega
  have ob:∀ o ∈ ((s.aY++s.Used).map (fun r=>(⟨r,0,false⟩:aO))++taken.flatten.map fun r=>(⟨r,t.Gap,t.eN⟩:aO)),BO o:=fun o ho=>by
   rcases List.mem_append.1 ho with q | q
   ·obtain ⟨r,hr,rfl⟩:=List.mem_map.1 q
    exact ⟨vs.v r hr,show (0:Int)≤0∧(0:Int)≤14400 by omega⟩
   ·obtain ⟨r,hr,rfl⟩:=List.mem_map.1 q
    exact ⟨sv r hr,cg⟩
  obtain ⟨P,hP⟩:=Wf (fun n hn=>BL b1 vs.w vs.h cm (by omega) (by omega) ob ol n hn)
  have T:Pw x s (Ly (s.aY++s.Used) taken.flatten t) t.aR P:=⟨fun n hn=>by rw [← JC];exact (hP n hn).1,fun n hn=>(hP n hn).2.1⟩
  have fP:=BK (fun n hn=>(hP n hn).2.2)
  have eb:kA P 4=kA P' 4:=Ii (T.same T') 4 (Nat.le_refl 4)
  simp only [hi,and_self,decide_true,Bool.not_true,Bool.false_eq_true,if_false,Ri n1 n2 tl t12 tv,Option.bind_some,fP,fD,eb]
  exact ⟨_,_,_,_,_,_,_,_,_,_,_,rfl,rfl,fun q=>absurd rfl q,fun _=>⟨vs,b1,tl,t12,tv,cg,cm,P',T',rfl,rfl⟩⟩
 ·have eb:kA P' 4=(false,0,0,0):=by
   rw [← Xx]
   refine Ii (fun n hn=>?_) 4 (Nat.le_refl 4)
   obtain ⟨al,h1,_⟩:=tM x s (n:Int)
   cases al with
   | false=>exact T'.no n hn h1
   | true =>
     refine Ob (T'.al n hn h1) fun u v q=>hi ?_
     obtain ⟨w1,w2⟩:=Tx b1 hn
     have:=q.1;have:=q.2.1;have:=q.2.2.1;have:=q.2.2.2.1
     omega
  simp only [hi,decide_false,Bool.not_false,if_true,fD,Option.bind_some,eb]
  refine ⟨_,_,_,_,_,_,_,_,_,_,_,rfl,rfl,fun q=>absurd rfl q,fun _=>⟨vs,b1,tl,t12,tv,cg,cm,P',T', ?_, ?_⟩⟩
  ·rw [eb]
  ·rw [eb]
structure TP (x:aX) (n:Nat):Prop where
 q:wO ⟨x.aD,x.bQ,x.Forms,[]⟩ (n:Int)=some (⟨trn n x.aD x.aD,trn n x.aD x.bQ,trn n x.aD x.Forms,[]⟩,0)
 n1:(trn n x.aD x.aD).length≤12
 n0:0<(trn n x.aD x.aD).length
 n2:(trn n x.aD x.bQ).length≤12
 n3:(trn n x.aD x.Forms).length≤12
 v1:∀ r ∈ trn n x.aD x.aD,vR r∧0≤r.X∧0≤r.Y
 v2:∀ c ∈ trn n x.aD x.bQ++trn n x.aD x.Forms,vR c∧∃ r ∈ trn n x.aD x.aD,r.X≤c.X∧r.Y≤c.Y∧c.X+c.W≤r.X+r.W∧c.Y+c.H≤r.Y+r.H
 c0:(∃ r ∈ trn n x.aD x.aD,r.X=0)∧∃ r ∈ trn n x.aD x.aD,r.Y=0
theorem HX {x:aX} (hx:bD x=some 0) {n:Nat} (hn:n≤3):TP x n:=by
 obtain ⟨z,hz,_,hv⟩:=yP x
 have h:=hv (Option.some.inj (hz.symm.trans hx))
 obtain ⟨_,p2⟩:=Vy hx n hn
 obtain ⟨_,_,p3,p4,p5⟩:=Mq hx n hn
 obtain ⟨_,_,_,vg⟩:=Tc p2
 simp only at vg
 have g1:Good 0 0 x.aD:=⟨h.n1,h.v1⟩
 have g2:Good 0 0 x.bQ:=⟨h.n2,h.v2⟩
 have g3:Good 0 0 x.Forms:=⟨h.n3,h.v3⟩
 obtain ⟨r,t,hc⟩:∃ r t,tq n x.aD=r::t:=by
  cases e:tq n x.aD with
  | nil=>exact absurd e (Xk n h.n0)
  | cons r t=>exact ⟨r,t,rfl⟩
 obtain ⟨⟨lx1,lx2,lx3,lx4⟩,ly1,ly2,ly3,ly4⟩:=Rh (g1.tq n) hc
 have hlo:lo (tq n x.aD)=(mQ (tq n x.aD) r.X,mS (tq n x.aD) r.Y):=by
  rw [show lo (tq n x.aD)=lo (r::t) by rw [hc],lo,hc]
 have hQ:=Mx h n hn hc
 rw [Ib (g1.tq n) ⟨lx3,lx4⟩ ⟨ly3,ly4⟩,Ib (g2.tq n) ⟨lx3,lx4⟩ ⟨ly3,ly4⟩,Ib (g3.tq n) ⟨lx3,lx4⟩ ⟨ly3,ly4⟩] at hQ
 have e1:trn n x.aD x.aD=(tq n x.aD).map (trR (-(mQ (tq n x.aD) r.X)) (-(mS (tq n x.aD) r.Y))):=by unfold trn nrm;rw [hlo]
 have e2:trn n x.aD x.bQ=(tq n x.bQ).map (trR (-(mQ (tq n x.aD) r.X)) (-(mS (tq n x.aD) r.Y))):=by unfold trn nrm;rw [hlo]
 have e3:trn n x.aD x.Forms=(tq n x.Forms).map (trR (-(mQ (tq n x.aD) r.X)) (-(mS (tq n x.aD) r.Y))):=by unfold trn nrm;rw [hlo]
 rw [← e1,← e2,← e3] at hQ
 refine ⟨hQ,p4,p5,vg.n2,vg.n3,p3,fun c hc'=>?_, ?_, ?_⟩
 ·have vc:=vg.v c (List.mem_append_right _ hc')
  obtain ⟨k,hk⟩:=List.mem_iff_getElem?.1 hc'
  obtain ⟨y,h1,h2,_⟩:=vg.ho k (cJ hk)
  rw [hk] at h1;injection h1 with h1;subst h1
  obtain ⟨r',hr',hd⟩:=List.any_eq_true.1 h2
  have vr:=(p3 r' hr').1
  rw [Fz vc vr,decide_eq_true_eq] at hd
  exact ⟨vc,r',hr',by omega,by omega,by omega,by omega⟩
 ·rcases Gy (l:=tq n x.aD) (g:=fun r=>r.X) (a:=r.X) with q | ⟨b,hb,q⟩
  ·exact ⟨trR (-(mQ (tq n x.aD) r.X)) (-(mS (tq n x.aD) r.Y)) r,by rw [e1];exact List.mem_map_of_mem (by rw [hc];exact List.mem_cons_self),by show r.X+-(mQ (tq n x.aD) r.X)=0;unfold mQ;rw [q];omega⟩
  ·exact ⟨trR (-(mQ (tq n x.aD) r.X)) (-(mS (tq n x.aD) r.Y)) b,by rw [e1];exact List.mem_map_of_mem hb,by show b.X+-(mQ (tq n x.aD) r.X)=0;unfold mQ;rw [q];omega⟩
 ·rcases Gy (l:=tq n x.aD) (g:=fun r=>r.Y) (a:=r.Y) with q | ⟨b,hb,q⟩
  ·exact ⟨trR (-(mQ (tq n x.aD) r.X)) (-(mS (tq n x.aD) r.Y)) r,by rw [e1];exact List.mem_map_of_mem (by rw [hc];exact List.mem_cons_self),by show r.Y+-(mS (tq n x.aD) r.Y)=0;unfold mS;rw [q];omega⟩
  ·exact ⟨trR (-(mQ (tq n x.aD) r.X)) (-(mS (tq n x.aD) r.Y)) b,by rw [e1];exact List.mem_map_of_mem hb,by show b.Y+-(mS (tq n x.aD) r.Y)=0;unfold mS;rw [q];omega⟩
theorem CI {l:List aF} (h:∀ r ∈ l,vR r) {x y:Int} (hx : -1048576≤x∧x≤1048576) (hy : -1048576≤y∧y≤1048576):l.map (mvR x y)=l.map (trR x y):=by
 refine List.map_congr_left fun r hr=>?_
 have hv:=h r hr
 unfold vR at hv
 unfold mvR trR
 rw [aP (by omega) (by omega),aP (by omega) (by omega)]
theorem GB {x:aX} (hx:bD x=some 0) {n:Nat} (hn:n≤3) (p:aZ) (ht:p.zY=n) (px : -1048576≤p.X∧p.X≤1048576) (py : -1048576≤p.Y∧p.Y≤1048576) :
  ∃ q c u1 u2 u3 u4,tD x p=some (q,c,u1,u2,u3,u4)∧rO x p=some (q,c,q.Name,q.bA,q.dO,q.bW)∧((∀ r ∈ trn n x.aD x.aD,vR (trR p.X p.Y r))→c=0)∧(c=0→q.aD=(trn n x.aD x.aD).map (trR p.X p.Y)∧∀ r ∈ trn n x.aD x.aD,vR (trR p.X p.Y r))∧q.aD.length≤12:=by
 have tp:=HX hx hn
 have a1:=tp.n1;have a2:=tp.n2;have a3:=tp.n3
 have v2:∀ c ∈ trn n x.aD x.bQ,vR c:=fun c hc=>(tp.v2 c (List.mem_append_left _ hc)).1
 have v3:∀ c ∈ trn n x.aD x.Forms,vR c:=fun c hc=>(tp.v2 c (List.mem_append_right _ hc)).1
 have m1:(trn n x.aD x.aD).map (mvR p.X p.Y)=(trn n x.aD x.aD).map (trR p.X p.Y):=CI (fun r hr=>(tp.v1 r hr).1) px py
 have m2:(trn n x.aD x.bQ).map (mvR p.X p.Y)=(trn n x.aD x.bQ).map (trR p.X p.Y):=CI v2 px py
 have m3:(trn n x.aD x.Forms).map (mvR p.X p.Y)=(trn n x.aD x.Forms).map (trR p.X p.Y):=CI v3 px py
 have hP:rO x p=(tD x p).bind fun r=>some (r.1,r.2.1,r.1.Name,r.1.bA,r.1.dO,r.1.bW):=by
  unfold rO
  simp only [hx,Option.bind_some,bne_self_eq_false,Bool.false_eq_true,if_false,Al,ht,show (0≤(n:Int)∧(n:Int)≤3) by omega,px,py,and_self,decide_true,Bool.not_true,if_true]
 have inside:∀ c ∈ trn n x.aD x.bQ++trn n x.aD x.Forms,(∀ r ∈ trn n x.aD x.aD,vR (trR p.X p.Y r))→vR (trR p.X p.Y c):=fun c hc hr=>by
  obtain ⟨w1,r,hr',w2,w3,w4,w5⟩:=tp.v2 c hc
  have:=hr r hr'
  unfold vR trR at this
  unfold vR at w1
  unfold vR trR
  simp only at this ⊢
  omega
 have key:tD x p=some (if (∀ r ∈ trn n x.aD x.aD,vR (trR p.X p.Y r)) then (⟨x.Name,x.bA,x.dO,x.bW,(trn n x.aD x.aD).map (trR p.X p.Y),(trn n x.aD x.bQ).map (trR p.X p.Y),(trn n x.aD x.Forms).map (trR p.X p.Y)⟩,0,x.Name,x.bA,x.dO,x.bW) else (⟨ByteArray.empty,ByteArray.empty,0,0,[],[],[]⟩,4,ByteArray.empty,ByteArray.empty,0,0)):=by
  have any_:∀ l:List aF,(l.map (trR p.X p.Y)).any (fun x=>!decide (vR x))=!decide (∀ r ∈ l,vR (trR p.X p.Y r)):=fun l=>by
   rw [Bool.eq_iff_iff,List.any_eq_true]
   simp only [Bool.not_eq_true',decide_eq_false_iff_not]
   constructor
   ·rintro ⟨y,hy,hv⟩ h
    obtain ⟨r,hr,rfl⟩:=List.mem_map.1 hy
    exact hv (h r hr)
   ·intro h
    refine Classical.byContradiction fun q=>h fun r hr=>Classical.byContradiction fun w=>q ⟨_,List.mem_map_of_mem hr,w⟩
  unfold tD
  rw [ht,tp.q]
  simp only [Option.bind_some,bne_self_eq_false,Bool.false_eq_true,if_false,Dy a1,Dy a2,Dy a3,m1,m2,m3]
  rw [kR _ (by rw [List.length_map];omega),kR _ (by rw [List.length_map];omega),kR _ (by rw [List.length_map];omega)]
  simp only [Option.bind_some,any_,Bool.not_not]
  by_cases hc:∀ r ∈ trn n x.aD x.aD,vR (trR p.X p.Y r)
  ·have hc2:∀ r ∈ trn n x.aD x.bQ,vR (trR p.X p.Y r):=fun c h=>inside c (List.mem_append_left _ h) hc
   have hc3:∀ r ∈ trn n x.aD x.Forms,vR (trR p.X p.Y r):=fun c h=>inside c (List.mem_append_right _ h) hc
   simp only [decide_eq_true hc,decide_eq_true hc2,decide_eq_true hc3,if_true,if_pos hc,Option.bind_some,Bool.not_true,Bool.false_eq_true,if_false]
  ·simp only [decide_eq_false hc,if_neg hc,Bool.false_eq_true,if_false,Bool.not_false,if_true,Option.bind_some]
 by_cases hc:∀ r ∈ trn n x.aD x.aD,vR (trR p.X p.Y r)
 ·rw [if_pos hc] at key
  exact ⟨_,_,_,_,_,_,key,by rw [hP,key];rfl,fun _=>rfl,fun _=>⟨rfl,hc⟩,by simp only [List.length_map];exact a1⟩
 ·rw [if_neg hc] at key
  exact ⟨_,_,_,_,_,_,key,by rw [hP,key];rfl,fun q=>absurd q hc,fun q=>absurd q (by decide),by simp⟩
theorem BI {x:aX} (hx:bD x=some 0) {n:Nat} (hn:n≤3) {s:bU} (vs:VS s) {taken:List (List aF)} (tv:∀ l ∈ taken,∀ r ∈ l,vR r) {t:bE} (hg:0≤t.Gap∧t.Gap≤14400) (hm:0≤t.aR∧t.aR≤14400) {X Y:Int} (hX : -1048576≤X∧X≤1048576) (hY : -1048576≤Y∧Y≤1048576) :
  Fe (trn n x.aD x.aD) (Ly (s.aY++s.Used) taken.flatten t) t.aR (s.cQ-t.aR-vJ (trn n x.aD x.aD)) (s.bJ-t.aR-uI (trn n x.aD x.aD)) X Y ↔
   (∀ r ∈ trn n x.aD x.aD,vR (trR X Y r)∧Bm (trR X Y r) ⟨t.aR,t.aR,s.cQ-2*t.aR,s.bJ-2*t.aR⟩∧(∀ o ∈ s.aY++s.Used,¬ ovR (trR X Y r) o)∧∀ l ∈ taken,∀ o ∈ l,blk t (trR X Y r) o=false):=by
 have tp:=HX hx hn
 have hw:=vs.w;have hh:=vs.h
 have wW:∀ r ∈ trn n x.aD x.aD,r.X+r.W≤vJ (trn n x.aD x.aD):=fun r hr=>(foldl_max (g:=fun r=>r.X+r.W)).2 r hr
 have wH:∀ r ∈ trn n x.aD x.aD,r.Y+r.H≤uI (trn n x.aD x.aD):=fun r hr=>(foldl_max (g:=fun r=>r.Y+r.H)).2 r hr
 -- hard bH
 have bh:∀ r ∈ trn n x.aD x.aD,∀ o,vR o→vR (trR X Y r)→(En 0 false r o X Y↔ovR (trR X Y r) o):=fun r hr o vo vr=>by
  unfold En ovI nV ovR
  unfold vR trR at vr
  have vo':=vo
  unfold vR at vo'
  simp only [Bool.false_eq_true,false_and,not_false_eq_true,and_true]
  constructor
  ·intro h
   refine ⟨by unfold vR trR;simp only at vr ⊢;omega,vo, ?_⟩
   simp only [trR] at vr ⊢
   omega
  ·rintro ⟨_,_,h1,h2,h3,h4⟩
   simp only [trR] at h1 h2 h3 h4
   omega
 have bs:∀ r ∈ trn n x.aD x.aD,∀ o,vR o→vR (trR X Y r)→(En t.Gap t.eN r o X Y↔blk t (trR X Y r) o=true):=fun r hr o vo vr=>by
  have eo:ovR (trR X Y r) o↔(ovI (X+r.X) r.W o.X o.W∧ovI (Y+r.Y) r.H o.Y o.H):=by
   unfold ovR ovI
   constructor
   ·rintro ⟨_,_,h1,h2,h3,h4⟩
    simp only [trR] at h1 h2 h3 h4
    omega
   ·intro h
    refine ⟨vr,vo, ?_⟩
    simp only [trR]
    omega
  have ed:yQ (trR X Y r) o=max (nV (X+r.X) r.W o.X o.W) (nV (Y+r.Y) r.H o.Y o.H):=by
   unfold yQ nV
   rw [if_pos ⟨vr,vo⟩]
   simp only [trR]
   omega
  unfold En blk
  rw [ed,← eo]
  rw [Bool.or_eq_true,Bool.and_eq_true,decide_eq_true_eq,decide_eq_true_eq,Bool.not_eq_true',Bool.and_eq_false_iff]
  have eb:∀ a:Int,((a==0)=false)↔a≠0:=fun a=>beq_eq_false_iff_ne
  rw [eb]
  constructor
  ·rintro (h | ⟨h1,h2⟩)
   ·exact .inl h
   ·refine .inr ⟨h1, ?_⟩
    cases hc:t.eN with
    | false=>exact .inl rfl
    | true=>exact .inr fun q=>h2 ⟨hc,q⟩
  ·rintro (h | ⟨h1,h2⟩)
   ·exact .inl h
   ·refine .inr ⟨h1,fun q=>?_⟩
    rcases h2 with h2 | h2
    ·rw [q.1] at h2;cases h2
    ·exact h2 q.2
 constructor
 ·rintro ⟨f1,f2,f3,f4,f5⟩ r hr
  obtain ⟨vr,x0,y0⟩:=tp.v1 r hr
  have:=wW r hr;have:=wH r hr
  have vt:vR (trR X Y r):=by
   unfold vR at vr
   unfold vR trR
   simp only
   omega
  refine ⟨vt,⟨vt, ?_, ?_⟩,fun o ho hov=>?_,fun l hl o ho=>?_⟩
  ·unfold vR at vr ⊢
   simp only
   omega
  ·simp only [trR]
   unfold vR at vr
   omega
  ·exact f5 (o,0,false) (List.mem_append_left _ (List.mem_map.2 ⟨o,ho,rfl⟩)) r hr ((bh r hr o (vs.v o ho) vt).2 hov)
  ·cases hb:blk t (trR X Y r) o with
   | false=>rfl
   | true=>exact absurd ((bs r hr o (tv l hl o ho) vt).2 hb) (f5 (o,t.Gap,t.eN) (List.mem_append_right _ (List.mem_map.2 ⟨o,List.mem_flatten.2 ⟨l,hl,ho⟩,rfl⟩)) r hr)
 ·intro h
  obtain ⟨⟨r0,hr0,x0⟩,r1,hr1,y0⟩:=tp.c0
  have q0:=(h r0 hr0).2.1
  have q1:=(h r1 hr1).2.1
  obtain ⟨_,_,i1,i2,i3,i4⟩:=q0
  obtain ⟨_,_,j1,j2,j3,j4⟩:=q1
  simp only [trR] at i1 i2 i3 i4 j1 j2 j3 j4
  have v0:=(tp.v1 r0 hr0).1
  have v1:=(tp.v1 r1 hr1).1
  unfold vR at v0 v1
  have mW:vJ (trn n x.aD x.aD)≤s.cQ-t.aR-X:=Ck (g:=fun r=>r.X+r.W) (fun r hr=>by
   obtain ⟨_,_,k1,k2,k3,k4⟩:=(h r hr).2.1
   simp only [trR] at k1 k2 k3 k4
   omega) (by omega)
  have mH:uI (trn n x.aD x.aD)≤s.bJ-t.aR-Y:=Ck (g:=fun r=>r.Y+r.H) (fun r hr=>by
   obtain ⟨_,_,k1,k2,k3,k4⟩:=(h r hr).2.1
   simp only [trR] at k1 k2 k3 k4
   omega) (by omega)
  refine ⟨by omega,by omega,by omega,by omega,fun o' ho' r hr hb=>?_⟩
  obtain ⟨vt,_,h3,h4⟩:=h r hr
  rcases List.mem_append.1 ho' with w | w
  ·obtain ⟨o,ho,rfl⟩:=List.mem_map.1 w
   exact h3 o ho ((bh r hr o (vs.v o ho) vt).1 hb)
  ·obtain ⟨o,ho,rfl⟩:=List.mem_map.1 w
   obtain ⟨l,hl,ho⟩:=List.mem_flatten.1 ho
   have:=(bs r hr o (tv l hl o ho) vt).1 hb
   rw [h4 l hl o ho] at this;cases this
end Go.SM
namespace Go.SM
open Go Go.VI
def iN (s0:bU) (r2:aX×Int×ByteArray×ByteArray×Int×Int) (a2:Int):Int→Option (Int ⊕ (Unit ⊕ Unit)):=fun a0 =>
 if (decide (a0<(s0.aY.length:Int))) then ((idx r2.1.aD a2).bind fun a3=>(idx s0.aY a0).bind fun a4=>(rH a3 a4).bind fun a1=>if a1 then (some (.inr (.inl ()))) else (some (.inl (aJ a0 1)))) else (some (.inr (.inr (()))))
def iO (s0:bU) (r2:aX×Int×ByteArray×ByteArray×Int×Int) (a2:Int):Int→Option (Int ⊕ (Unit ⊕ Unit)):=fun a0 =>
 if (decide (a0<(s0.Used.length:Int))) then ((idx r2.1.aD a2).bind fun a3=>(idx s0.Used a0).bind fun a4=>(rH a3 a4).bind fun a1=>if a1 then (some (.inr (.inl ()))) else (some (.inl (aJ a0 1)))) else (some (.inr (.inr (()))))
def iP (s0:bU) (g:dF) (r2:aX×Int×ByteArray×ByteArray×Int×Int):Int→Option (Int ⊕ (Unit ⊕ Unit)):=fun a0 =>
 if (decide (a0<(r2.1.aD.length:Int))) then ((idx r2.1.aD a0).bind fun a2=>(yS a2 (aF.mk g.Set.aR g.Set.aR (aH s0.cQ (eQ 2 g.Set.aR)) (aH s0.bJ (eQ 2 g.Set.aR)))).bind fun a1=>if (!a1) then (some (.inr (.inl ()))) else ((aL (iN s0 r2 a0) 0).bind fun a3=>match a3 with | .inl a5=>some (.inr (.inl ())) | .inr a6=>(aL (iO s0 r2 a0) 0).bind fun a4=>match a4 with | .inl a7=>some (.inr (.inl ())) | .inr a8=>some (.inl (aJ a0 1)))) else (some (.inr (.inr (()))))
def iQ (taken:(List (List aF))) (g:dF) (r2:aX×Int×ByteArray×ByteArray×Int×Int):Int→Option (Int ⊕ (Unit ⊕ Unit)):=fun a0 =>
 if (decide (a0<(taken.length:Int))) then ((idx taken a0).bind fun a2=>(Eu r2.1.aD a2 g.Set).bind fun a1=>if (!a1) then (some (.inr (.inl ()))) else (some (.inl (aJ a0 1)))) else (some (.inr (.inr (()))))
def iM (s0:bU) (taken:(List (List aF))) (g:dF) (at3:aZ):Option (Bool):=
 (rO g.aX at3).bind fun r2=>(if (r2.2.1 != 0) then (some true) else ((iE g.aX s0 at3.zY).bind fun r8=>some (!r8))).bind fun j7=>if j7 then (some false) else ((aL (iP s0 g r2) 0).bind fun a0=>match a0 with | .inl a2=>some false | .inr a3=>(aL (iQ taken g r2) 0).bind fun a1=>match a1 with | .inl a4=>some false | .inr a5=>some true)
def Lv (sheets:(List bU)) (set2:bE) (a1:Int×(List (List (List aF)))×(List aZ)) (a2:aX):Unit→Option (Unit ⊕ ((List (List (List aF)))×(List aZ))):=fun a9 =>
 if (decide (0<(sheets.length:Int))) then ((idx sheets 0).bind fun a6=>(idx a1.2.1 0).bind fun a7=>(Dz a6 a7 a2 set2).bind fun a0=>if (a0.2.2.1 != 0) then (none) else (if (!a0.2.1) then (none) else ((tD a2 (aZ.mk a1.1 0 a0.1.X a0.1.Y a0.1.zY)).bind fun a5=>(idx a1.2.1 0).bind fun a8=>(app a8 [a5.1.aD]).bind fun a3=>(idx a1.2.1 0).bind fun b0=>(app a1.2.2 [(aZ.mk a1.1 0 a0.1.X a0.1.Y a0.1.zY)]).bind fun a4=>some (.inr ((List.set a1.2.1 (Int.toNat 0) a3),a4))))) else (none)
def Lw (sheets:(List bU)) (pieces:(List aX)) (set2:bE):(Int×(List (List (List aF)))×(List aZ))→Option ((Int×(List (List (List aF)))×(List aZ)) ⊕ (List aZ)):=fun a0 =>
 if (decide (a0.1<(pieces.length:Int))) then ((idx pieces a0.1).bind fun a2=>(aL (Lv sheets set2 a0 a2) ()).bind fun a1=>some (.inl ((aJ a0.1 1),a1.1,a1.2))) else (some (.inr a0.2.2))
def Jy (sheets:(List bU)) (pieces:(List aX)) (set2:bE):Option ((List aZ)×(List Int)×Int):=
 (Og sheets pieces).bind fun r4=>if (r4 != 0) then (none) else ((iG set2).bind fun r8=>if (!r8) then (none) else ((mk (sheets.length:Int) []).bind fun a1=>(aL (Lw sheets pieces set2) (0,a1,[])).bind fun a0=>some (a0,[],0)))
def tX (a:(List aZ)) (b:(List aZ)):Int→Option (Int ⊕ Unit):=fun a2 =>
 if (decide (a2<(a.length:Int))) then ((idx a a2).bind fun a0=>(idx b a2).bind fun a1=>if (!((a0.aX==a1.aX)&&((a0.bU==a1.bU)&&((a0.X==a1.X)&&((a0.Y==a1.Y)&&((a0.zY==a1.zY)&&true)))))) then (none) else (some (.inl (aJ a2 1)))) else (some (.inr ()))
def nX (a:(List aZ)) (b:(List aZ)):Option (Bool):=
 if ((a.length:Int) != (b.length:Int)) then (none) else ((aL (tX a b) 0).bind fun a0=>some true)
def eH:Option (Bool):=
 (Dz (bU.mk (ByteArray.mk #[115]) (ByteArray.mk #[115,116,101,101,108]) 10 0 1000 1000 [] []) [] (aX.mk (ByteArray.mk #[112]) (ByteArray.mk #[115,116,101,101,108]) 10 0 [(aF.mk 0 0 100 50)] [] []) (bE.mk 0 10 false)).bind fun r2=>(Jy [(bU.mk (ByteArray.mk #[115]) (ByteArray.mk #[115,116,101,101,108]) 10 0 1000 1000 [] [])] [(aX.mk (ByteArray.mk #[112]) (ByteArray.mk #[115,116,101,101,108]) 10 0 [(aF.mk 0 0 100 50)] [] []),(aX.mk (ByteArray.mk #[112]) (ByteArray.mk #[115,116,101,101,108]) 10 0 [(aF.mk 0 0 100 50)] [] [])] (bE.mk 5 10 false)).bind fun r4=>if (r2.2.2.1==0) then (if r2.2.1 then (if ((r2.1.aX==0)&&((r2.1.bU==0)&&((r2.1.X==10)&&((r2.1.Y==10)&&((r2.1.zY==0)&&true))))) then (if (r4.2.2==0) then (if ((r4.2.1.length:Int)==0) then ((nX r4.1 [(aZ.mk 0 0 10 10 0),(aZ.mk 1 0 115 10 0)]).bind fun r6=>some r6) else (none)) else (none)) else (none)) else (none)) else (none)
def nO (w:nS) (g:dF) (at2:aZ):Option (Bool):=
 (Dz w.bU w.Mz g.aX g.Set).bind fun r2=>if (r2.2.2.1 != 0) then ((if r2.2.1 then (some false) else (if ((r2.1.aX==0)&&((r2.1.bU==0)&&((r2.1.X==0)&&((r2.1.Y==0)&&((r2.1.zY==0)&&true))))) then ((eH).bind fun r8=>some r8) else (some false))).bind fun j7=>some j7) else ((if r2.2.1 then ((iM w.bU w.Mz g (aZ.mk r2.1.aX r2.1.bU r2.1.X r2.1.Y r2.1.zY)).bind fun a2=>some (true,(!a2))) else (some (false,false))).bind fun a0=>if a0.2 then (some false) else ((iM w.bU w.Mz g at2).bind fun a3=>if (!a3) then ((eH).bind fun a4=>some a4) else ((if a0.1 then (if (decide (r2.1.Y<at2.Y)) then ((eH).bind fun a5=>some a5) else (if (r2.1.Y==at2.Y) then (if (decide (r2.1.X<at2.X)) then ((eH).bind fun a6=>some a6) else (if (r2.1.X==at2.X) then (if (decide (r2.1.zY≤at2.zY)) then ((eH).bind fun a7=>some a7) else (some false)) else (some false))) else (some false))) else (some false)).bind fun a1=>some a1)))
theorem Dx:eH=some true:=by kernel_rfl
end Go.SM
namespace Go.SM
open Go Go.VI Go.Cells
def Sw (a b:Int×Int×Int):Prop:=a.2.1<b.2.1∨(a.2.1=b.2.1∧(a.1<b.1∨(a.1=b.1∧a.2.2≤b.2.2)))
theorem Eo {P:Nat→Option (Int×Int)}:∀ {k:Nat},(kA P k).1=true→∃ n,n<k∧P n=some ((kA P k).2.1,(kA P k).2.2.1)∧(kA P k).2.2.2=(n:Int)
 | 0,h=>by cases h
 | k+1,h=>by
   rw [Aw] at h ⊢
   cases hp:P k with
   | none =>
     rw [hp] at h
     simp only [upd] at h ⊢
     obtain ⟨n,h1,h2,h3⟩:=Eo h
     exact ⟨n,by omega,h2,h3⟩
   | some p =>
     rw [hp] at h
     simp only [upd] at h ⊢
     split
     ·exact ⟨k,Nat.lt_succ_self k,hp,rfl⟩
     ·rename_i hc
      rw [if_neg hc] at h
      obtain ⟨n,h1,h2,h3⟩:=Eo h
      exact ⟨n,by omega,h2,h3⟩
theorem Wb {P:Nat→Option (Int×Int)}:∀ {k n:Nat} {p:Int×Int},n<k→P n=some p→(kA P k).1=true∧Sw (kA P k).2 (p.1,p.2,(n:Int))
 | 0,_,_,h,_=>by omega
 | k+1,n,p,h,hp=>by
   rw [Aw]
   rcases Nat.lt_or_ge n k with q | q
   ·obtain ⟨h1,h2⟩:=Wb q hp
    cases hk:P k with
    | none=>exact ⟨h1,h2⟩
    | some p' =>
      simp only [upd]
      split
      ·rename_i hc
       refine ⟨rfl, ?_⟩
       rcases hc with hc | hc | hc
       ·rw [h1] at hc;cases hc
       ·unfold Sw at h2 ⊢;simp only at h2 ⊢;omega
       ·unfold Sw at h2 ⊢;simp only at h2 ⊢;omega
      ·exact ⟨h1,h2⟩
   ·have e:n=k:=by omega
    subst e
    rw [hp]
    simp only [upd]
    split
    ·exact ⟨rfl,.inr ⟨rfl,.inr ⟨rfl,Int.le_refl _⟩⟩⟩
    ·rename_i hc
     have h1:(kA P n).1=true:=by
      cases hb:(kA P n).1 with
      | true=>rfl
      | false=>exact absurd (.inl hb) hc
     refine ⟨h1, ?_⟩
     obtain ⟨m,m1,m2,m3⟩:=Eo h1
     unfold Sw
     simp only
     have c2:¬ p.2<(kA P n).2.2.1:=fun q=>hc (.inr (.inl q))
     have c3:¬ (p.2=(kA P n).2.2.1∧p.1<(kA P n).2.1):=fun q=>hc (.inr (.inr q))
     omega
def Qa (s:bU) (m:Int) (r:aF):Bool:=!decide (Bm r ⟨m,m,s.cQ-2*m,s.bJ-2*m⟩) || (s.aY.any (vY r) || s.Used.any (vY r))
theorem FX {s:bU} (vs:VS s) {g:dF} (hm:0≤g.Set.aR∧g.Set.aR≤14400) (r2:aX×Int×ByteArray×ByteArray×Int×Int) (hl:r2.1.aD.length≤12):aL (iP s g r2) 0=some (if r2.1.aD.any (Qa s g.Set.aR) then .inl () else .inr ()):=by
 have n1:=vs.n1;have n2:=vs.n2;have hw:=vs.w;have hh:=vs.h
 refine fH r2.1.aD (iP s g r2) (fun k=>(k:Int)) _ _ _ rfl (fun i r hr=>?_) ?_
 ·have hi:=cJ hr
  have hd:decide ((i:Int)<(r2.1.aD.length:Int))=true:=by simp [hi]
  have e1:aL (iN s r2 (i:Int)) 0=some (if s.aY.any (vY r) then .inl () else .inr ()):=by
   refine fH s.aY (iN s r2 (i:Int)) (fun k=>(k:Int)) _ _ _ rfl (fun k o ho=>?_) ?_
   ·have hk:=cJ ho
    have hd:decide ((k:Int)<(s.aY.length:Int))=true:=by simp [hk]
    unfold iN
    simp only [hd,if_true,bC hr,bC ho,Option.bind_some,Ei,bS k (by omega)]
    rfl
   ·simp [iN]
  have e2:aL (iO s r2 (i:Int)) 0=some (if s.Used.any (vY r) then .inl () else .inr ()):=by
   refine fH s.Used (iO s r2 (i:Int)) (fun k=>(k:Int)) _ _ _ rfl (fun k o ho=>?_) ?_
   ·have hk:=cJ ho
    have hd:decide ((k:Int)<(s.Used.length:Int))=true:=by simp [hk]
    unfold iO
    simp only [hd,if_true,bC hr,bC ho,Option.bind_some,Ei,bS k (by omega)]
    rfl
   ·simp [iO]
  have e0:eQ 2 g.Set.aR=2*g.Set.aR:=Cq (by omega) (by omega)
  have ew:aH s.cQ (2*g.Set.aR)=s.cQ-2*g.Set.aR:=aU (by omega) (by omega)
  have eh:aH s.bJ (2*g.Set.aR)=s.bJ-2*g.Set.aR:=aU (by omega) (by omega)
  unfold iP Qa
  simp only [hd,if_true,bC hr,Option.bind_some,e0,ew,eh,Pv,e1,e2,bS i (by omega)]
  cases decide (Bm r ⟨g.Set.aR,g.Set.aR,s.cQ-2*g.Set.aR,s.bJ-2*g.Set.aR⟩) with
  | false=>rfl
  | true =>
    cases s.aY.any (vY r) with
    | true=>rfl
    | false=>cases s.Used.any (vY r) <;> rfl
 ·simp [iP]
theorem FY {taken:List (List aF)} (tl:taken.length≤8) (t12:∀ l ∈ taken,l.length≤12) {g:dF} (r2:aX×Int×ByteArray×ByteArray×Int×Int) (hl:r2.1.aD.length≤12):aL (iQ taken g r2) 0=some (if taken.any (fun l=>!clr g.Set r2.1.aD l) then .inl () else .inr ()):=by
 refine fH taken (iQ taken g r2) (fun k=>(k:Int)) _ _ _ rfl (fun k l hk=>?_) ?_
 ·have hkl:=cJ hk
  have hd:decide ((k:Int)<(taken.length:Int))=true:=by simp [hkl]
  have:=t12 l (List.mem_of_getElem? hk)
  unfold iQ
  simp only [hd,if_true,bC hk,Option.bind_some,AE r2.1.aD l g.Set (by omega) (by omega),bS k (by omega)]
 ·simp [iQ]
theorem Ws {s:bU} {taken:List (List aF)} {g:dF} (vs:VS s) (vx:bD g.aX=some 0) (tl:taken.length≤8) (t12:∀ l ∈ taken,l.length≤12) (tv:∀ l ∈ taken,∀ r ∈ l,vR r) (hg:0≤g.Set.Gap∧g.Set.Gap≤14400) (hm:0≤g.Set.aR∧g.Set.aR≤14400) (p:aZ) :
  ∃ b,iM s taken g p=some b∧(b=true↔∃ n:Nat,n≤3∧p.zY=n∧iE g.aX s (n:Int)=some true∧(-1048576≤p.X∧p.X≤1048576)∧(-1048576≤p.Y∧p.Y≤1048576) ∧
    Fe (trn n g.aX.aD g.aX.aD) (Ly (s.aY++s.Used) taken.flatten g.Set) g.Set.aR (s.cQ-g.Set.aR-vJ (trn n g.aX.aD g.aX.aD)) (s.bJ-g.Set.aR-uI (trn n g.aX.aD g.aX.aD)) p.X p.Y):=by
 unfold iM
 by_cases ht:0≤p.zY∧p.zY≤3
 case neg =>
  refine ⟨false, ?_,by simp;intro n h1 h2;omega⟩
  have:∃ q c u1 u2 u3 u4,rO g.aX p=some (q,c,u1,u2,u3,u4)∧c≠0:=by
   unfold rO
   simp only [vx,Option.bind_some,bne_self_eq_false,Bool.false_eq_true,if_false,Al,ht,decide_false,Bool.not_false,if_true]
   exact ⟨_,_,_,_,_,_,rfl,by decide⟩
  obtain ⟨q,c,u1,u2,u3,u4,e,hc⟩:=this
  have hc':(c != 0)=true:=by rw [bne_iff_ne];exact hc
  simp only [e,Option.bind_some,hc',if_true]
 by_cases hxy:(-1048576≤p.X∧p.X≤1048576)∧(-1048576≤p.Y∧p.Y≤1048576)
 case neg =>
  refine ⟨false, ?_,by simp;intro n h1 h2 h3 h4 h5 h6 h7;exact absurd ⟨⟨h4,h5⟩,h6,h7⟩ hxy⟩
  have:∃ q c u1 u2 u3 u4,rO g.aX p=some (q,c,u1,u2,u3,u4)∧c≠0:=by
   unfold rO
   simp only [vx,Option.bind_some,bne_self_eq_false,Bool.false_eq_true,if_false,Al,ht,and_self,decide_true,Bool.not_true]
   by_cases hx : -1048576≤p.X∧p.X≤1048576
   ·have hy:¬ (-1048576≤p.Y∧p.Y≤1048576):=fun q=>hxy ⟨hx,q⟩
    simp only [hx,hy,and_self,decide_true,decide_false,if_true,Bool.not_false,Option.bind_some]
    exact ⟨_,_,_,_,_,_,rfl,by decide⟩
   ·simp only [hx,decide_false,Bool.false_eq_true,if_false,Option.bind_some,if_true]
    exact ⟨_,_,_,_,_,_,rfl,by decide⟩
  obtain ⟨q,c,u1,u2,u3,u4,e,hc⟩:=this
  have hc':(c != 0)=true:=by rw [bne_iff_ne];exact hc
  simp only [e,Option.bind_some,hc',if_true]
 obtain ⟨hX,hY⟩:=hxy
 obtain ⟨n,hn⟩:∃ n:Nat,p.zY=n:=⟨p.zY.toNat,by omega⟩
 have hn3:n≤3:=by omega
 obtain ⟨q,c,u1,u2,u3,u4,_,e,c1,c2,c3⟩:=GB vx hn3 p hn hX hY
 have uniq:∀ P:Nat→Prop,(∃ m:Nat,m≤3∧p.zY=m∧P m)↔P n:=fun P=>⟨fun ⟨m,_,h2,h3⟩=>by rw [show n=m by omega];exact h3,fun h=>⟨n,hn3,hn,h⟩⟩
 have uniq':∀ P:Nat→Prop,(∃ m:Nat,m≤3∧(n:Int)=m∧P m)↔P n:=fun P=>⟨fun ⟨m,_,h2,h3⟩=>by rw [show n=m by omega];exact h3,fun h=>⟨n,hn3,rfl,h⟩⟩
 obtain ⟨al,ha,_⟩:=tM g.aX s (n:Int)
 simp only [e,Option.bind_some]
 by_cases hc:c=0
 case neg =>
  have hc':(c != 0)=true:=by rw [bne_iff_ne];exact hc
  refine ⟨false,by simp only [hc',if_true,Option.bind_some], ?_⟩
  rw [uniq]
  simp only [Bool.false_eq_true,false_iff]
  rintro ⟨_,_,_,h⟩
  exact hc (c1 fun r hr=>((BI vx hn3 vs tv hg hm hX hY).1 h r hr).1)
 subst hc
 obtain ⟨er,vr⟩:=c2 rfl
 simp only [bne_self_eq_false,Bool.false_eq_true,if_false,hn,ha,Option.bind_some]
 cases al with
 | false =>
   refine ⟨false,by simp, ?_⟩
   rw [uniq']
   simp [ha]
 | true =>
   have l3:=FX vs hm (q,0,q.Name,q.bA,q.dO,q.bW) c3
   have l4:=FY tl t12 (g:=g) (q,0,q.Name,q.bA,q.dO,q.bW) c3
   simp only at l3 l4
   simp only [Bool.not_true,Bool.false_eq_true,if_false,l3,l4,Option.bind_some]
   refine ⟨!(q.aD.any (Qa s g.Set.aR))&&!(taken.any fun l=>!clr g.Set q.aD l), ?_, ?_⟩
   ·cases q.aD.any (Qa s g.Set.aR) with
    | true=>rfl
    | false=>cases taken.any (fun l=>!clr g.Set q.aD l) <;> rfl
   ·rw [uniq',BI vx hn3 vs tv hg hm hX hY,er]
    rw [Bool.and_eq_true,Bool.not_eq_true',Bool.not_eq_true',List.any_eq_false,List.any_eq_false]
    have mm:∀ r ∈ trn n g.aX.aD g.aX.aD,trR p.X p.Y r ∈ (trn n g.aX.aD g.aX.aD).map (trR p.X p.Y):=fun r hr=>List.mem_map_of_mem hr
    constructor
    ·rintro ⟨h1,h2⟩
     refine ⟨ha,hX,hY,fun r hr=>?_⟩
     have b:=h1 _ (mm r hr)
     unfold Qa at b
     simp only [Bool.or_eq_true,not_or,Bool.not_eq_true',decide_eq_false_iff_not,Classical.not_not] at b
     obtain ⟨b1,b2,b3⟩:=b
     refine ⟨vr r hr,b1,fun o ho hov=>?_,fun l hl o ho=>?_⟩
     ·rcases List.mem_append.1 ho with w | w
      ·exact b2 (List.any_eq_true.2 ⟨o,w,decide_eq_true hov⟩)
      ·exact b3 (List.any_eq_true.2 ⟨o,w,decide_eq_true hov⟩)
     ·have w:=h2 l hl
      unfold clr at w
      simp only [Bool.not_not,Bool.not_eq_true] at w
      exact Bool.eq_false_iff.2 fun z=>(List.any_eq_false.1 w _ (mm r hr)) (List.any_eq_true.2 ⟨o,ho,z⟩)
    ·rintro ⟨_,_,_,h⟩
     refine ⟨fun r' hr'=>?_,fun l hl=>?_⟩
     ·obtain ⟨r,hr,rfl⟩:=List.mem_map.1 hr'
      obtain ⟨b0,b1,b2,b3⟩:=h r hr
      unfold Qa
      simp only [Bool.or_eq_true,not_or,Bool.not_eq_true',decide_eq_false_iff_not,Classical.not_not]
      refine ⟨b1,fun z=>?_,fun z=>?_⟩
      ·obtain ⟨o,ho,w⟩:=List.any_eq_true.1 z
       exact b2 o (List.mem_append_left _ ho) (of_decide_eq_true w)
      ·obtain ⟨o,ho,w⟩:=List.any_eq_true.1 z
       exact b2 o (List.mem_append_right _ ho) (of_decide_eq_true w)
     ·unfold clr
      simp only [Bool.not_not,Bool.not_eq_true]
      rw [List.any_eq_false]
      intro r' hr' z
      obtain ⟨r,hr,rfl⟩:=List.mem_map.1 hr'
      obtain ⟨o,ho,w⟩:=List.any_eq_true.1 z
      rw [(h r hr).2.2.2 l hl o ho] at w;cases w
theorem Oa (w:nS) (g:dF) (p:aZ):nO w g p=some true:=by
 obtain ⟨pl,ok,e,u1,u2,u3,_,_,_,_,_,h1,_,h3,h4⟩:=AF w.bU w.Mz g.aX g.Set
 unfold nO
 simp only [h1,Option.bind_some]
 by_cases he:e=0
 case neg =>
  have he':(e != 0)=true:=by rw [bne_iff_ne];exact he
  obtain ⟨rfl,rfl⟩:=h3 he
  simp only [he',if_true,Bool.false_eq_true,if_false,beq_self_eq_true,Bool.and_self,Dx,Option.bind_some]
 subst he
 obtain ⟨vs,vx,tl,t12,tv,hg,hm,P,T,rfl,rfl⟩:=h4 rfl
 simp only [bne_self_eq_false,Bool.false_eq_true,if_false]
 obtain ⟨b0,l0,m0⟩:=Ws vs vx tl t12 tv hg hm ⟨0,0,(kA P 4).2.1,(kA P 4).2.2.1,(kA P 4).2.2.2⟩
 obtain ⟨b1,l1,m1⟩:=Ws vs vx tl t12 tv hg hm p
 have w0:=vs.w;have hh:=vs.h
 have hb0:(kA P 4).1=true→b0=true:=fun hf=>by
  obtain ⟨n,n4,hP,hT⟩:=Eo hf
  obtain ⟨al,ha,_⟩:=tM g.aX w.bU (n:Int)
  cases al with
  | false=>rw [T.no n n4 ha] at hP;cases hP
  | true =>
    have L:=T.al n n4 ha
    rw [hP] at L
    have F:=L.1
    simp only at F
    obtain ⟨tw,th⟩:=Tx vx n4
    have f1:=F.1;have f2:=F.2.1;have f3:=F.2.2.1;have f4:=F.2.2.2.1
    exact m0.2 ⟨n,by omega,hT,ha,by simp only;omega,by simp only;omega,F⟩
 have hj:(if (kA P 4).1=true then ((iM w.bU w.Mz g ⟨0,0,(kA P 4).2.1,(kA P 4).2.2.1,(kA P 4).2.2.2⟩).bind fun r14=>some (true,!r14)) else some (false,false))=some ((kA P 4).1,false):=by
  cases hf:(kA P 4).1 with
  | false=>rfl
  | true =>
    have:=hb0 hf
    subst this
    simp only [if_true]
    rw [l0];rfl
 rw [hj]
 simp only [Option.bind_some,Bool.false_eq_true,if_false,l1]
 cases b1 with
 | false=>simp only [Bool.not_false,if_true,Dx,Option.bind_some]
 | true =>
   obtain ⟨n,n3,hT,ha,hX,hY,F⟩:=m1.1 rfl
   have L:=T.al n (by omega) ha
   cases hP:P n with
   | none=>rw [hP] at L;exact absurd F (L _ _)
   | some q =>
     rw [hP] at L
     have L2:=L.2 _ _ F
     obtain ⟨f1,f2⟩:=Wb (P:=P) (k:=4) (by omega) hP
     unfold Sw at f2
     simp only at f2
     simp only [Bool.not_true,Bool.false_eq_true,if_false,f1,if_true]
     by_cases d1:(kA P 4).2.2.1<p.Y
     ·simp only [d1,decide_true,if_true,Dx,Option.bind_some]
     ·by_cases d2:(kA P 4).2.2.1=p.Y
      ·have d2':((kA P 4).2.2.1==p.Y)=true:=by rw [beq_iff_eq];exact d2
       by_cases d3:(kA P 4).2.1<p.X
       ·simp only [d1,d2',d3,decide_true,decide_false,Bool.false_eq_true,if_false,if_true,Dx,Option.bind_some]
       ·have d4:((kA P 4).2.1==p.X)=true:=by rw [beq_iff_eq];omega
        have d5:(kA P 4).2.2.2≤p.zY:=by omega
        simp only [d1,d2',d3,d4,d5,decide_true,decide_false,Bool.false_eq_true,if_false,if_true,Dx,Option.bind_some]
      ·omega
end Go.SM
end
