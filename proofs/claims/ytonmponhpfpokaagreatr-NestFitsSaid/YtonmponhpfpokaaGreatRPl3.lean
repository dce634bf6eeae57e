/- What the functions compute, part 3. -/
import Derived.Test.YtonmponhpfpokaaGreatRPl2
import Derived.Test.YtonmponhpfpokaaGreatRPl1
set_option linter.unusedVariables false
set_option linter.unusedSimpArgs false
set_option linter.unusedSectionVars false
namespace Go.SM
open Go Go.VI Go.Cells
def Cs (o:aP) (r:aF):List Int:=[o.aF.Y+o.aF.H+0-r.Y,o.aF.Y-0-r.Y-r.H,o.aF.Y+o.aF.H+o.gap-r.Y,o.aF.Y-o.gap-r.Y-r.H]
theorem LN {o:aP} {r:aF} (ho:BO o) (hr:vR r) (out0:List Int) (h0:out0.length≤100000000):aN (eB o r) (0,out0)=some (out0++Cs o r):=by
 obtain ⟨hov,hg⟩:=ho
 unfold vR at hov hr
 have s0:eB o r (0,out0)=some (.inl (1,out0++[o.aF.Y+o.aF.H+0-r.Y,o.aF.Y-0-r.Y-r.H])):=by
  unfold eB
  have i0:idx [0,o.gap] 0=some 0:=rfl
  have d0:decide ((0:Int)<(([0,o.gap]:List Int).length:Int))=true:=rfl
  simp only [i0,d0,if_true,Option.bind_some]
  rw [pO (by simp [LIM];omega)]
  simp (disch:=omega) only [aQ,aX,Option.bind_some]
  rfl
 have s1:∀ out:List Int,out.length≤100000010→eB o r (1,out)=some (.inl (2,out++[o.aF.Y+o.aF.H+o.gap-r.Y,o.aF.Y-o.gap-r.Y-r.H])):=fun out hout=>by
  unfold eB
  have i0:idx [0,o.gap] 1=some o.gap:=rfl
  have d0:decide ((1:Int)<(([0,o.gap]:List Int).length:Int))=true:=rfl
  simp only [i0,d0,if_true,Option.bind_some]
  rw [pO (by simp [LIM];omega)]
  simp (disch:=omega) only [aQ,aX,Option.bind_some]
  rfl
 have s2:∀ out:List Int,eB o r (2,out)=some (.inr out):=fun out=>by simp [eB]
 rw [iQ s0,iQ (s1 _ (by simp;omega)),eN (s2 _),List.append_assoc]
 rfl
section
variable {s:eA} (h:BS s)
include h
theorem LO {o:aP} (ho:o ∈ s.bM) (out0:List Int) (h0:out0.length≤10000000):aN (jM s o) (0,out0)=some (out0++s.kF.flatMap (Cs o)):=by
 have hrl:=h.rl
 obtain ⟨a,q1,q2,q3⟩:=kS s.kF (fun k (t:List Int)=>((k:Int),t)) (jM s o) (fun t=>t) (fun k t=>t=out0++(s.kF.take k).flatMap (Cs o)∧t.length≤out0.length+4*k) out0 (by simp)
  (fun k r t hr hI=>by
   have hk:=dU hr
   have hd:decide ((k:Int)<(s.kF.length:Int))=true:=by simp [hk]
   obtain ⟨i1,i2⟩:=hI
   unfold jM
   simp only [hd,if_true,bF hr,Option.bind_some,LN (h.o o ho) (h.r r (List.mem_of_getElem? hr)) t (by omega),cF k (by omega)]
   refine ⟨_,rfl, ?_, ?_⟩
   ·rw [eX hr,List.flatMap_append,i1];simp
   ·simp only [List.length_append,Cs,List.length_cons,List.length_nil];omega) (fun t _=>by simp [jM])
 rw [List.take_length] at q2
 rw [show ((0:Int),out0)=(((0:Nat):Int),out0) from rfl,q1,q2]
def Yb (s:eA):List Int:=s.bM.flatMap fun o=>s.kF.flatMap (Cs o)
theorem LP:aN (jN s) (0,[s.kG.Y])=some (s.kG.Y::Yb s)∧(Yb s).length≤48000:=by
 have hrl:=h.rl
 have hol:=h.ol
 have hin:∀ o:aP,(s.kF.flatMap (Cs o)).length≤48:=fun o=>by
  have:∀ l:List aF,(l.flatMap (Cs o)).length=4*l.length:=fun l=>by
   induction l with
   | nil=>rfl
   | cons r l ih=>rw [List.flatMap_cons,List.length_append,ih];simp [Cs];omega
  rw [this];omega
 obtain ⟨a,q1,q2,q3⟩:=kS s.bM (fun k (t:List Int)=>((k:Int),t)) (jN s) (fun t=>t) (fun k t=>t=s.kG.Y::((s.bM.take k).flatMap fun o=>s.kF.flatMap (Cs o))∧t.length≤1+48*k) [s.kG.Y] (by simp)
  (fun k o t ho hI=>by
   have hk:=dU ho
   have hd:decide ((k:Int)<(s.bM.length:Int))=true:=by simp [hk]
   obtain ⟨i1,i2⟩:=hI
   have:=hin o
   unfold jN
   simp only [hd,if_true,bF ho,Option.bind_some,LO h (List.mem_of_getElem? ho) t (by omega),cF k (by omega)]
   refine ⟨_,rfl, ?_, ?_⟩
   ·rw [eX ho,List.flatMap_append,i1];simp
   ·simp only [List.length_append];omega) (fun t _=>by simp [jN])
 rw [List.take_length] at q2
 refine ⟨by rw [show ((0:Int),[s.kG.Y])=(((0:Nat):Int),[s.kG.Y]) from rfl,q1,q2];rfl, ?_⟩
 have:a=s.kG.Y::Yb s:=q2
 rw [this] at q3
 simp only [List.length_cons] at q3
 omega
theorem Uv (hA : -1048576≤s.kG.Y∧s.kG.Y≤1048576) (hH:0≤s.kG.H∧s.kG.H≤1048576) (hh:0≤s.h∧s.h≤4194304):∃ ys:List Int,ys.Pairwise (fun a b=>a<b)∧s.kG.Y ∈ ys∧EY s.kF (Vh s.bM) ys∧ys.length≤100000 ∧
  qU s=some (ys.filter fun y=>decide (s.kG.Y≤y)&&decide (y≤s.kG.Y+s.kG.H-s.h)):=by
 obtain ⟨c1,c2⟩:=LP h
 obtain ⟨r,r1,r2,r3⟩:=EF (l:=s.kG.Y::Yb s) (by simp;omega)
 have hr:r.length=(Yb s).length+1:=by rw [r2.length_eq];simp
 obtain ⟨q,q1,q2,q3⟩:=Uq IJ (fun x y a b=>by unfold ltI at a b;simp at a b;omega) (eqb:=fun x y=>x==y) (fun x y=>by simp) (0:Int) (l:=r) (by omega) r3
 have asc:q.Pairwise fun a b=>a<b:=q2.imp fun h=>by unfold ltI at h;simpa using h
 have mem:∀ x,x ∈ q↔x ∈ s.kG.Y::Yb s:=fun x=>by rw [q3,r2.mem_iff]
 have ql:q.length≤100000:=by
  have:=Mk asc fun x hx=>(mem x).1 hx
  simp only [List.length_cons] at this
  omega
 refine ⟨q,asc,(mem _).2 List.mem_cons_self,fun o' ho' r hr=>?_,ql, ?_⟩
 ·obtain ⟨o,ho,rfl⟩:=List.mem_map.1 ho'
  have m4:∀ z,z ∈ Cs o r→z ∈ q:=fun z hz=>(mem z).2 (List.mem_cons_of_mem _ (List.mem_flatMap.2 ⟨o,ho,List.mem_flatMap.2 ⟨r,hr,hz⟩⟩))
  refine ⟨m4 _ ?_,m4 _ ?_,fun _=>m4 _ ?_⟩
  ·unfold Cs;simp
  ·unfold Cs;simp
  ·have e:o.aF.Y-r.H-r.Y=o.aF.Y-0-r.Y-r.H:=by omega
   show o.aF.Y-r.H-r.Y ∈ Cs o r
   rw [e];unfold Cs;simp
 ·unfold qU
  rw [c1]
  simp only [Option.bind_some,r1,Pr,q1]
  rw [FU _ _ _ _ _ _ _ _ _ (by omega)]
  simp only [Option.bind_some]
  congr 1
  refine List.filter_congr fun y _=>?_
  rw [aQ (by omega) (by omega),aX (by omega) (by omega)]
  rw [Bool.eq_iff_iff]
  simp only [Bool.not_eq_true',Bool.or_eq_false_iff,decide_eq_false_iff_not,Bool.and_eq_true,decide_eq_true_eq]
  omega
noncomputable def fx (S:Int→List (Int×Int)) (m y:Int):Int:=open Classical in if h:∃ x,Ht (S y) m x then Classical.choose h else 0
omit h in
theorem Xa {S:Int→List (Int×Int)} {m y x:Int} (h:Ht (S y) m x):fx S m y=x:=by
 have hx:∃ x,Ht (S y) m x:=⟨x,h⟩
 unfold fx
 rw [dif_pos hx]
 exact Rp (fun _=>Iff.rfl) (Classical.choose_spec hx) h
omit h in
theorem Zf {R:Type} (f:Int→Int) (hx:Int) (l:List Int) (body:Int→Option (Int ⊕ R)) (yes:Int×Int→R) (no:R)
  (step:∀ (k:Nat) y,l[k]?=some y→body (k:Int)=if f y≤hx then some (.inr (yes (f y,y))) else some (.inl ((k+1:Nat):Int))) (fin:body (l.length:Int)=some (.inr no)) :
  aN body 0=some (match scan f hx l with | some p=>yes p | none=>no):=by
 have key:∀ (n k:Nat),k+n=l.length→aN body (k:Int)=some (match scan f hx (l.drop k) with | some p=>yes p | none=>no):=by
  intro n
  induction n with
  | zero =>
    intro k h;obtain rfl:k=l.length:=by omega
    rw [List.drop_length,eN fin];rfl
  | succ n ih =>
    intro k h
    have hk:k<l.length:=by omega
    have hy:l[k]?=some l[k]:=by simp
    have hs:=step k _ hy
    rw [List.drop_eq_getElem_cons hk]
    unfold scan
    by_cases c:f l[k]≤hx
    ·rw [if_pos c] at hs ⊢;rw [eN hs]
    ·rw [if_neg c] at hs ⊢;rw [iQ hs,ih (k+1) (by omega)]
 have:=key l.length 0 (by omega)
 simpa using this
theorem KV:EZ (Vh s.bM):=fun o' ho'=>by
 obtain ⟨o,ho,rfl⟩:=List.mem_map.1 ho'
 have:=(h.o o ho).v
 unfold vR at this
 exact ⟨show 0<o.aF.W by omega,show 0<o.aF.H by omega,(h.o o ho).g.1⟩
theorem KW:FA s.kF:=fun r hr=>by
 have:=h.r r hr
 unfold vR at this
 exact ⟨by omega,by omega⟩
theorem DF {m:Int} (hm:0≤m∧m≤14400) (ax:s.kG.X=m) (ay:s.kG.Y=m) (aw:0≤s.kG.W∧s.kG.W≤1048576) (ah:0≤s.kG.H∧s.kG.H≤1048576) (hw:0≤s.w∧s.w≤4194304) (hh:0≤s.h∧s.h≤4194304) :
  ∃ o:Option (Int×Int),Lst (Fe s.kF (Vh s.bM) m (m+s.kG.W-s.w) (m+s.kG.H-s.h)) o∧sS s=some (match o with | some p=>(p.1,p.2,true) | none=>(0,0,false)):=by
 unfold sS
 by_cases c1:s.w>s.kG.W
 ·refine ⟨none,fun x y q=>?_,by simp [c1]⟩
  have:=q.1;have:=q.2.1;omega
 by_cases c2:s.h>s.kG.H
 ·refine ⟨none,fun x y q=>?_,by simp [c1,c2]⟩
  have:=q.2.2.1;have:=q.2.2.2.1;omega
 obtain ⟨ys,y1,y2,y3,y4,y5⟩:=Uv h (by omega) ah hh
 rw [ay] at y2 y5
 have hf:∀ y,m≤y→y≤m+s.kG.H-s.h→∃ L x,nA s y=some L∧Bs L m (m+s.kG.W-s.w)=some (x,decide (x≤m+s.kG.W-s.w))∧Ht (Dv s y) m x:=fun y q1 q2=>by
  obtain ⟨L,b1,b2,b3,b4⟩:=Up h (y:=y) (by omega)
  obtain ⟨x,f1,f2,f3,f4⟩:=BT L b2 (m:=m) (hi:=m+s.kG.W-s.w) (by omega) b4
  have e:∀ z,inS (L.map fun s=>(s.lo,s.hi)) z↔inS (Dv s y) z:=fun z=>(JH L z).trans (b3 z)
  exact ⟨L,x,b1,f1,f2,fun q=>f3 ((e x).2 q),fun z z1 z2=>(e z).1 (f4 z z1 z2)⟩
 refine ⟨_,Tx (KW h) (KV h) y1 y2 y3 (f:=fx (Dv s) m) (sp:=Dv s) (fun y q1 q2=>?_) (fun x y=>Yc h x y), ?_⟩
 ·obtain ⟨L,x,_,_,q⟩:=hf y q1 q2
  rw [Xa q];exact q
 ·simp only [c1,c2,decide_false,Bool.false_eq_true,if_false,Option.bind_some,y5]
  have lp:=Zf (fx (Dv s) m) (m+s.kG.W-s.w) (ys.filter fun y=>decide (m≤y)&&decide (y≤m+s.kG.H-s.h)) (pG s (ys.filter fun y=>decide (m≤y)&&decide (y≤m+s.kG.H-s.h))) (fun p=>.inl p) (.inr ()) (fun k y hy=>by
   have hk:=dU hy
   have hkl:(ys.filter fun y=>decide (m≤y)&&decide (y≤m+s.kG.H-s.h)).length≤ys.length:=List.length_filter_le _ _
   have hym:=(List.mem_filter.1 (List.mem_of_getElem? hy)).2
   simp only [Bool.and_eq_true,decide_eq_true_eq] at hym
   obtain ⟨L,x,b1,b2,b3⟩:=hf y hym.1 hym.2
   have hd:decide ((k:Int)<((ys.filter fun y=>decide (m≤y)&&decide (y≤m+s.kG.H-s.h)).length:Int))=true:=by simp only [decide_eq_true_eq];omega
   have e1:aI (aK m s.kG.W) s.w=m+s.kG.W-s.w:=by
    rw [aQ (by omega) (by omega),aX (by omega) (by omega)]
   unfold pG
   simp only [hd,if_true,bF hy,Option.bind_some,b1,ax,e1,b2,cF k (by omega),Xa b3]
   by_cases c:x≤m+s.kG.W-s.w <;> simp [c]) (by simp [pG])
  rw [lp]
  cases scan (fx (Dv s) m) (m+s.kG.W-s.w) (ys.filter fun y=>decide (m≤y)&&decide (y≤m+s.kG.H-s.h)) <;> rfl
end
def mkD (p:Int×Int):aR:=⟨p.1,p.2⟩
theorem GH {L:List aR} {k:Nat} {p:Int×Int} (h:(L.map fun s=>(s.lo,s.hi))[k]?=some p):∃ s,L[k]?=some s∧p=(s.lo,s.hi):=by
 rw [List.getElem?_map] at h
 cases e:L[k]? with
 | none=>rw [e] at h;cases h
 | some s=>rw [e] at h;exact ⟨s,rfl,(Option.some.inj h).symm⟩
theorem Pf (g:Int) (c soft:Bool) (r o:aF) (y:Int):(pZ g c soft r o y).length≤3:=by
 unfold pZ
 rw [List.length_append]
 have h1:∀ p:Int×Int,(if ovI (y+r.Y) r.H o.Y o.H then [p] else []).length≤1:=fun p=>by split <;> simp
 have h2:∀ (P Q:Prop) [Decidable P] [Decidable Q] (p q s:Int×Int),(if P then ([]:List (Int×Int)) else if Q then [p,q] else [s]).length≤2:=fun P Q _ _ p q s=>by
  split
  ·simp
  ·split <;> simp
 have:=h1 (o.X-r.W-r.X,o.X+o.W-r.X)
 have:=h2 (soft=false∨g≤qF (y+r.Y) r.H o.Y o.H) (c=true∧qF (y+r.Y) r.H o.Y o.H=0) (o.X-r.W-r.X-g,o.X-r.W-r.X) (o.X+o.W-r.X,o.X+o.W-r.X+g) (o.X-r.W-r.X-g,o.X+o.W-r.X+g)
 omega
theorem Rg {g:Int} {c soft:Bool} {r o:aF} {y:Int} (hg:0≤g∧g≤14400) (ho:vR o) (hr:vR r):∀ s ∈ pZ g c soft r o y,s.2≤8388608:=by
 unfold vR at ho hr
 unfold pZ
 intro s hs
 rcases List.mem_append.1 hs with hs | hs
 ·split at hs
  ·simp at hs;subst hs;simp only;omega
  ·cases hs
 ·split at hs
  ·cases hs
  ·split at hs
   ·simp at hs;rcases hs with rfl | rfl <;> simp only <;> omega
   ·simp at hs;subst hs;simp only;omega
theorem Lg {t:bQ} {r o:aF} {y:Int} (soft:Bool) (hg:0≤t.Gap∧t.Gap≤14400) (ho:vR o) (hr:vR r) (hy : -4194304≤y∧y≤4194304):iN r o y t soft=some ((pZ t.Gap t.hU soft r o y).map mkD):=by
 unfold vR at ho hr
 unfold iN iZ
 simp (disch:=omega) only [aQ,aX,Ey]
 have eu:max (max 0 (o.Y-(y+r.Y)-r.H)) (y+r.Y-o.Y-o.H)=qF (y+r.Y) r.H o.Y o.H:=by unfold qF;omega
 have ej:(if decide (y+r.Y<o.Y+o.H)=true then some (decide (o.Y<y+r.Y+r.H)) else some false)=some (decide (ovI (y+r.Y) r.H o.Y o.H)):=by
  unfold ovI
  by_cases h1:y+r.Y<o.Y+o.H <;> simp [h1]
 have eb:∀ a:Int,(a==0)=decide (a=0):=fun a=>by by_cases h:a=0 <;> simp [h]
 rw [ej,eu]
 unfold pZ
 generalize qF (y+r.Y) r.H o.Y o.H=u
 generalize hv:decide (ovI (y+r.Y) r.H o.Y o.H)=ov
 have hov':ovI (y+r.Y) r.H o.Y o.H↔ov=true:=by rw [← hv,decide_eq_true_eq]
 simp only [Option.bind_some,eb,hov']
 have ap:∀ a b:List aR,a.length≤100→b.length≤100→app a b=some (a++b):=fun a b h1 h2=>pO (by unfold LIM;omega)
 rw [ap [] _ (by simp) (by simp)]
 cases soft with
 | false=>cases ov <;> rfl
 | true =>
   by_cases h1:t.Gap≤u
   ·cases ov <;> simp [h1] <;> rfl
   ·have h1':¬ (u ≥ t.Gap):=h1
    by_cases h2:u=0
    ·subst h2
     cases ov <;> cases t.hU <;> simp [h1',ap,h1,mkD]
    ·cases ov <;> cases t.hU <;> simp [h1',h2,ap,h1,mkD]
def Pz (hard soft:List aF) (t:bQ):List (aF×Int×Bool):=hard.map (fun o=>(o,0,false))++soft.map fun o=>(o,t.Gap,t.hU)
def Ba (l hard soft:List aF) (t:bQ) (y:Int):List (Int×Int):=
 l.flatMap fun r=>hard.flatMap (fun o=>pZ t.Gap t.hU false r o y)++soft.flatMap fun o=>pZ t.Gap t.hU true r o y
structure DS (l hard soft:List aF) (t:bQ):Prop where
 lv:∀ r ∈ l,vR r
 ll:l.length≤12
 hv:∀ r ∈ hard,vR r
 hl:hard.length≤100
 sv:∀ r ∈ soft,vR r
 sl:soft.length≤100
 g:0≤t.Gap∧t.Gap≤14400
section
variable {l hard soft:List aF} {t:bQ} (h:DS l hard soft t)
include h
theorem AR (x y:Int):inS (Ba l hard soft t y) x↔∃ o ∈ Pz hard soft t,∃ r ∈ l,Im o.2.1 o.2.2 r o.1 x y:=by
 have p:∀ {r:aF},vR r→0<r.W∧0<r.H:=fun {r} hv=>by unfold vR at hv;omega
 unfold Ba
 constructor
 ·rintro ⟨q,hq,hx⟩
  obtain ⟨r,hr,hq⟩:=List.mem_flatMap.1 hq
  rcases List.mem_append.1 hq with hq | hq
  ·obtain ⟨o,ho,hq⟩:=List.mem_flatMap.1 hq
   exact ⟨(o,0,false),List.mem_append_left _ (List.mem_map.2 ⟨o,ho,rfl⟩),r,hr,(Ls (p (h.lv r hr)).1 (p (h.hv o ho)).1 x y).1 ⟨q,hq,hx⟩⟩
  ·obtain ⟨o,ho,hq⟩:=List.mem_flatMap.1 hq
   exact ⟨(o,t.Gap,t.hU),List.mem_append_right _ (List.mem_map.2 ⟨o,ho,rfl⟩),r,hr,(Lt h.g.1 (p (h.lv r hr)).1 (p (h.sv o ho)).1 (p (h.lv r hr)).2 (p (h.sv o ho)).2 x y).1 ⟨q,hq,hx⟩⟩
 ·rintro ⟨o',ho',r,hr,hb⟩
  rcases List.mem_append.1 ho' with ho' | ho'
  ·obtain ⟨o,ho,rfl⟩:=List.mem_map.1 ho'
   obtain ⟨q,hq,hx⟩:=(Ls (g:=t.Gap) (c:=t.hU) (p (h.lv r hr)).1 (p (h.hv o ho)).1 x y).2 hb
   exact ⟨q,List.mem_flatMap.2 ⟨r,hr,List.mem_append_left _ (List.mem_flatMap.2 ⟨o,ho,hq⟩)⟩,hx⟩
  ·obtain ⟨o,ho,rfl⟩:=List.mem_map.1 ho'
   obtain ⟨q,hq,hx⟩:=(Lt h.g.1 (p (h.lv r hr)).1 (p (h.sv o ho)).1 (p (h.lv r hr)).2 (p (h.sv o ho)).2 x y).2 hb
   exact ⟨q,List.mem_flatMap.2 ⟨r,hr,List.mem_append_right _ (List.mem_flatMap.2 ⟨o,ho,hq⟩)⟩,hx⟩
theorem JJ {y:Int} (hy : -4194304≤y∧y≤4194304) {i:Nat} {r:aF} (hr:l[i]?=some r) (b:List aR) (out0:List aR) (h0:out0.length≤1000000) :
  aN (gX l hard t y ((i:Int),b)) (0,out0)=some (out0++(hard.flatMap fun o=>pZ t.Gap t.hU false r o y).map mkD)∧(hard.flatMap fun o=>pZ t.Gap t.hU false r o y).length≤300:=by
 have hhl:=h.hl
 obtain ⟨a,q1,q2,q3⟩:=kS hard (fun k (s:List aR)=>((k:Int),s)) (gX l hard t y ((i:Int),b)) (fun s=>s) (fun k s=>s=out0++((hard.take k).flatMap fun o=>pZ t.Gap t.hU false r o y).map mkD∧((hard.take k).flatMap fun o=>pZ t.Gap t.hU false r o y).length≤3*k) out0 (by simp)
  (fun k o s ho hI=>by
   have hk:=dU ho
   have hd:decide ((k:Int)<(hard.length:Int))=true:=by simp [hk]
   obtain ⟨i1,i2⟩:=hI
   have e:=Lg (t:=t) (y:=y) false h.g (h.hv o (List.mem_of_getElem? ho)) (h.lv r (List.mem_of_getElem? hr)) hy
   have l3:=Pf t.Gap t.hU false r o y
   unfold gX
   simp only [hd,if_true,bF hr,bF ho,Option.bind_some,e,cF k (by omega)]
   rw [pO (by rw [i1];simp only [List.length_append,List.length_map];unfold LIM;omega)]
   refine ⟨_,rfl, ?_, ?_⟩
   ·rw [eX ho,List.flatMap_append,i1];simp
   ·rw [eX ho,List.flatMap_append];simp only [List.flatMap_cons,List.flatMap_nil,List.append_nil,List.length_append];omega) (fun s _=>by simp [gX])
 rw [List.take_length] at q2 q3
 exact ⟨by rw [show ((0:Int),out0)=(((0:Nat):Int),out0) from rfl,q1,q2],by omega⟩
theorem JL {y:Int} (hy : -4194304≤y∧y≤4194304) {i:Nat} {r:aF} (hr:l[i]?=some r) (b:List aR) (out0:List aR) (h0:out0.length≤1000000) :
  aN (gY l soft t y ((i:Int),b)) (0,out0)=some (out0++(soft.flatMap fun o=>pZ t.Gap t.hU true r o y).map mkD)∧(soft.flatMap fun o=>pZ t.Gap t.hU true r o y).length≤300:=by
 have hhl:=h.sl
 obtain ⟨a,q1,q2,q3⟩:=kS soft (fun k (s:List aR)=>((k:Int),s)) (gY l soft t y ((i:Int),b)) (fun s=>s) (fun k s=>s=out0++((soft.take k).flatMap fun o=>pZ t.Gap t.hU true r o y).map mkD∧((soft.take k).flatMap fun o=>pZ t.Gap t.hU true r o y).length≤3*k) out0 (by simp)
  (fun k o s ho hI=>by
   have hk:=dU ho
   have hd:decide ((k:Int)<(soft.length:Int))=true:=by simp [hk]
   obtain ⟨i1,i2⟩:=hI
   have e:=Lg (t:=t) (y:=y) true h.g (h.sv o (List.mem_of_getElem? ho)) (h.lv r (List.mem_of_getElem? hr)) hy
   have l3:=Pf t.Gap t.hU true r o y
   unfold gY
   simp only [hd,if_true,bF hr,bF ho,Option.bind_some,e,cF k (by omega)]
   rw [pO (by rw [i1];simp only [List.length_append,List.length_map];unfold LIM;omega)]
   refine ⟨_,rfl, ?_, ?_⟩
   ·rw [eX ho,List.flatMap_append,i1];simp
   ·rw [eX ho,List.flatMap_append];simp only [List.flatMap_cons,List.flatMap_nil,List.append_nil,List.length_append];omega) (fun s _=>by simp [gY])
 rw [List.take_length] at q2 q3
 exact ⟨by rw [show ((0:Int),out0)=(((0:Nat):Int),out0) from rfl,q1,q2],by omega⟩
theorem JM {y:Int} (hy : -4194304≤y∧y≤4194304):aN (gZ l hard soft t y) (0,[])=some ((Ba l hard soft t y).map mkD)∧(Ba l hard soft t y).length≤100000:=by
 have hll:=h.ll
 obtain ⟨a,q1,q2,q3⟩:=kS l (fun k (s:List aR)=>((k:Int),s)) (gZ l hard soft t y) (fun s=>s) (fun k s=>s=(Ba (l.take k) hard soft t y).map mkD∧(Ba (l.take k) hard soft t y).length≤600*k) [] (by simp [Ba])
  (fun k r s hr hI=>by
   have hk:=dU hr
   have hd:decide ((k:Int)<(l.length:Int))=true:=by simp [hk]
   obtain ⟨i1,i2⟩:=hI
   have sl:s.length≤600*k:=by rw [i1,List.length_map];exact i2
   obtain ⟨a1,a2⟩:=JJ h hy hr s s (by omega)
   obtain ⟨b1,b2⟩:=JL h hy hr s (s++(hard.flatMap fun o=>pZ t.Gap t.hU false r o y).map mkD) (by simp only [List.length_append,List.length_map];omega)
   unfold gZ
   simp only [hd,if_true,a1,b1,Option.bind_some,cF k (by omega)]
   refine ⟨_,rfl, ?_, ?_⟩
   ·rw [eX hr];unfold Ba at i1 ⊢;rw [List.flatMap_append,i1];simp
   ·rw [eX hr];unfold Ba at i2 ⊢;rw [List.flatMap_append];simp only [List.flatMap_cons,List.flatMap_nil,List.append_nil,List.length_append];omega) (fun s _=>by simp [gZ])
 rw [List.take_length] at q2 q3
 exact ⟨by rw [show ((0:Int),([]:List aR))=(((0:Nat):Int),[]) from rfl,q1,q2],by omega⟩
theorem FF (y:Int):∀ p ∈ Ba l hard soft t y,p.2≤8388608:=fun p hp=>by
 obtain ⟨r,hr,hp⟩:=List.mem_flatMap.1 hp
 rcases List.mem_append.1 hp with hp | hp
 ·obtain ⟨o,ho,hp⟩:=List.mem_flatMap.1 hp
  exact Rg h.g (h.hv o ho) (h.lv r hr) p hp
 ·obtain ⟨o,ho,hp⟩:=List.mem_flatMap.1 hp
  exact Rg h.g (h.sv o ho) (h.lv r hr) p hp
theorem Zg {y last:Int} (hy : -4194304≤y∧y≤4194304) (hm:t.aY≤14400):∃ x,jQ l hard soft t y last=some (x,decide (x≤last))∧Ht (Ba l hard soft t y) t.aY x:=by
 obtain ⟨c1,c2⟩:=JM h hy
 have pr:((Ba l hard soft t y).map mkD).map (fun s=>(s.lo,s.hi))=Ba l hard soft t y:=by
  rw [List.map_map];exact List.map_id _
 obtain ⟨x,h1,h2⟩:=Ra (Ba l hard soft t y) c2 (m:=t.aY) (by omega) (FF h y) (kQ ((Ba l hard soft t y).map mkD)) (kR ((Ba l hard soft t y).map mkD)) (fun k p x b hp=>by
  rw [← pr] at hp
  obtain ⟨s,hs,rfl⟩:=GH hp
  have hk:=dU hs
  have hkl:((Ba l hard soft t y).map mkD).length≤100000:=by rw [List.length_map];exact c2
  have hd:decide ((k:Int)<(((Ba l hard soft t y).map mkD).length:Int))=true:=by simp only [decide_eq_true_eq];omega
  unfold kQ kP
  simp only [hd,if_true,bF hs,Option.bind_some,cF k (by omega)]
  by_cases c1:s.lo<x
  ·by_cases c2:x<s.hi <;> simp [c1,c2]
  ·simp [c1]) (fun x b=>by simp [kQ]) (fun x=>by simp [kR]) (fun x=>by simp [kR])
 exact ⟨x,by unfold jQ;rw [c1];simp only [Option.bind_some,h1],h2⟩
end
structure Gr (t0 t:List Int) (n:Nat):Prop where
 asc:t.Pairwise fun a b=>a<b
 sub:∀ x ∈ t0,x ∈ t
 len:t.length≤t0.length+n
theorem Gr.ins {t0 t r:List Int} {n:Nat} {z:Int} (g:Gr t0 t n) (h1:r.Pairwise fun a b=>a<b) (h2:∀ x,x ∈ r↔x ∈ t∨x=z) (h3:r.length≤t.length+1):Gr t0 r (n+1):=
 ⟨h1,fun x hx=>(h2 x).2 (.inl (g.sub x hx)),by have:=g.len;omega⟩
section
variable {l hard soft:List aF} {t:bQ} (h:DS l hard soft t)
include h
theorem KM {i:Nat} {r:aF} (hr:l[i]?=some r) (b:List Int) {t0:List Int} (a0:t0.Pairwise fun a b=>a<b) (l0:t0.length≤8000) :
  ∃ t',aN (gM l hard ((i:Int),b)) (0,t0)=some t'∧Gr t0 t' hard.length∧∀ o ∈ hard,o.Y+o.H-r.Y ∈ t':=by
 have hhl:=h.hl
 have vr:=h.lv r (List.mem_of_getElem? hr)
 unfold vR at vr
 obtain ⟨a,q1,q2,q3⟩:=kS hard (fun k (s:List Int)=>((k:Int),s)) (gM l hard ((i:Int),b)) (fun s=>s) (fun k s=>Gr t0 s k∧∀ o ∈ hard.take k,o.Y+o.H-r.Y ∈ s) t0 ⟨⟨a0,fun _ q=>q,by omega⟩,by simp⟩
  (fun k o s ho hI=>by
   have hk:=dU ho
   have hd:decide ((k:Int)<(hard.length:Int))=true:=by simp [hk]
   obtain ⟨i1,i2⟩:=hI
   have vo:=h.hv o (List.mem_of_getElem? ho)
   unfold vR at vo
   have:=i1.len
   obtain ⟨r1,e1,e2,e3,e4⟩:=Hj i1.asc (by omega) (o.Y+o.H-r.Y)
   have ee:aI (aK o.Y o.H) r.Y=o.Y+o.H-r.Y:=by rw [aQ (by omega) (by omega),aX (by omega) (by omega)]
   unfold gM
   simp only [hd,if_true,bF hr,bF ho,Option.bind_some,ee,e1,cF k (by omega)]
   refine ⟨_,rfl,i1.ins e2 e3 e4,fun o' ho'=>?_⟩
   rw [eX ho] at ho'
   rcases List.mem_append.1 ho' with q | q
   ·exact (e3 _).2 (.inl (i2 o' q))
   ·simp at q;subst q;exact (e3 _).2 (.inr rfl)) (fun s _=>by simp [gM])
 rw [List.take_length] at q3
 exact ⟨a,q1,q2,q3⟩
theorem KN {i:Nat} {r:aF} (hr:l[i]?=some r) (b:List Int) {t0:List Int} (a0:t0.Pairwise fun a b=>a<b) (l0:t0.length≤8000) :
  ∃ t',aN (gN l soft t ((i:Int),b)) (0,t0)=some t'∧Gr t0 t' (3*soft.length)∧∀ o ∈ soft,o.Y+o.H-r.Y ∈ t'∧o.Y+o.H+t.Gap-r.Y ∈ t'∧o.Y-r.H-r.Y ∈ t':=by
 have hhl:=h.sl
 have hg:=h.g
 have vr:=h.lv r (List.mem_of_getElem? hr)
 unfold vR at vr
 obtain ⟨a,q1,q2,q3⟩:=kS soft (fun k (s:List Int)=>((k:Int),s)) (gN l soft t ((i:Int),b)) (fun s=>s) (fun k s=>Gr t0 s (3*k)∧∀ o ∈ soft.take k,o.Y+o.H-r.Y ∈ s∧o.Y+o.H+t.Gap-r.Y ∈ s∧o.Y-r.H-r.Y ∈ s) t0 ⟨⟨a0,fun _ q=>q,by omega⟩,by simp⟩
  (fun k o s ho hI=>by
   have hk:=dU ho
   have hd:decide ((k:Int)<(soft.length:Int))=true:=by simp [hk]
   obtain ⟨i1,i2⟩:=hI
   have vo:=h.sv o (List.mem_of_getElem? ho)
   unfold vR at vo
   have:=i1.len
   obtain ⟨r1,e1,e2,e3,e4⟩:=Hj i1.asc (by omega) (o.Y+o.H-r.Y)
   obtain ⟨r2,f1,f2,f3,f4⟩:=Hj e2 (by omega) (o.Y+o.H+t.Gap-r.Y)
   obtain ⟨r3,g1,g2,g3,g4⟩:=Hj f2 (by omega) (o.Y-r.H-r.Y)
   have ee:aI (aK o.Y o.H) r.Y=o.Y+o.H-r.Y:=by rw [aQ (by omega) (by omega),aX (by omega) (by omega)]
   have ef:aI (aK (aK o.Y o.H) t.Gap) r.Y=o.Y+o.H+t.Gap-r.Y:=by
    have e0:aK o.Y o.H=o.Y+o.H:=aQ (by omega) (by omega)
    rw [e0,aQ (by omega) (by omega),aX (by omega) (by omega)]
   have eg:aI (aI o.Y r.H) r.Y=o.Y-r.H-r.Y:=by
    have e0:aI o.Y r.H=o.Y-r.H:=aX (by omega) (by omega)
    rw [e0,aX (by omega) (by omega)]
   unfold gN
   simp only [hd,if_true,bF hr,bF ho,Option.bind_some,ee,ef,eg,e1,f1,g1,cF k (by omega)]
   refine ⟨_,rfl,((i1.ins e2 e3 e4).ins f2 f3 f4).ins g2 g3 g4,fun o' ho'=>?_⟩
   have up:∀ x ∈ s,x ∈ r3:=fun x hx=>(g3 x).2 (.inl ((f3 x).2 (.inl ((e3 x).2 (.inl hx)))))
   rw [eX ho] at ho'
   rcases List.mem_append.1 ho' with q | q
   ·obtain ⟨b1,b2,b3⟩:=i2 o' q
    exact ⟨up _ b1,up _ b2,up _ b3⟩
   ·simp at q;subst q
    exact ⟨(g3 _).2 (.inl ((f3 _).2 (.inl ((e3 _).2 (.inr rfl))))),(g3 _).2 (.inl ((f3 _).2 (.inr rfl))),(g3 _).2 (.inr rfl)⟩) (fun s _=>by simp [gN])
 rw [List.take_length] at q3
 exact ⟨a,q1,q2,q3⟩
theorem Te:∃ ys:List Int,mL l hard soft t=some ys∧ys.Pairwise (fun a b=>a<b)∧t.aY ∈ ys∧EY l (Pz hard soft t) ys∧ys.length≤8000:=by
 have hhl:=h.hl
 have hsl:=h.sl
 have hll:=h.ll
 obtain ⟨a,q1,q2,q3,q4⟩:=kS l (fun k (s:List Int)=>((k:Int),s)) (jO l hard soft t) (fun s=>s) (fun k s=>Gr [t.aY] s (400*k)∧(∀ r ∈ l.take k,∀ o ∈ hard,o.Y+o.H-r.Y ∈ s)∧∀ r ∈ l.take k,∀ o ∈ soft,o.Y+o.H-r.Y ∈ s∧o.Y+o.H+t.Gap-r.Y ∈ s∧o.Y-r.H-r.Y ∈ s) [t.aY] ⟨⟨by simp,fun _ q=>q,by omega⟩,by simp,by simp⟩
  (fun k r s hr hI=>by
   have hk:=dU hr
   have hd:decide ((k:Int)<(l.length:Int))=true:=by simp [hk]
   obtain ⟨i1,i2,i3⟩:=hI
   have l1:=i1.len
   simp only [List.length_cons,List.length_nil] at l1
   obtain ⟨t1,e1,e2,e3⟩:=KM h hr s i1.asc (by omega)
   have l2:=e2.len
   obtain ⟨t2,f1,f2,f3⟩:=KN h hr s e2.asc (by omega)
   have l3:=f2.len
   unfold jO
   simp only [hd,if_true,e1,f1,Option.bind_some,cF k (by omega)]
   refine ⟨_,rfl,⟨f2.asc,fun x hx=>f2.sub x (e2.sub x (i1.sub x hx)),by simp only [List.length_cons,List.length_nil];omega⟩,fun r' hr' o ho=>?_,fun r' hr' o ho=>?_⟩
   ·rw [eX hr] at hr'
    rcases List.mem_append.1 hr' with q | q
    ·exact f2.sub _ (e2.sub _ (i2 r' q o ho))
    ·simp at q;subst q;exact f2.sub _ (e3 o ho)
   ·rw [eX hr] at hr'
    rcases List.mem_append.1 hr' with q | q
    ·obtain ⟨b1,b2,b3⟩:=i3 r' q o ho
     exact ⟨f2.sub _ (e2.sub _ b1),f2.sub _ (e2.sub _ b2),f2.sub _ (e2.sub _ b3)⟩
    ·simp at q;subst q;exact f3 o ho) (fun s _=>by simp [jO])
 rw [List.take_length] at q3 q4
 have lq:=q2.len
 simp only [List.length_cons,List.length_nil] at lq
 refine ⟨a, ?_,q2.asc,q2.sub _ (by simp),fun o' ho' r hr=>?_,by omega⟩
 ·unfold mL
  rw [show ((0:Int),[t.aY])=(((0:Nat):Int),[t.aY]) from rfl,q1];rfl
 ·rcases List.mem_append.1 ho' with q | q
  ·obtain ⟨o,ho,rfl⟩:=List.mem_map.1 q
   have:=q3 r hr o ho
   refine ⟨this, ?_,fun e=>by cases e⟩
   show o.Y+o.H+0-r.Y ∈ a
   rw [Int.add_zero];exact this
  ·obtain ⟨o,ho,rfl⟩:=List.mem_map.1 q
   obtain ⟨b1,b2,b3⟩:=q4 r hr o ho
   exact ⟨b1,b2,fun _=>b3⟩
theorem JQ:EZ (Pz hard soft t):=fun o' ho'=>by
 rcases List.mem_append.1 ho' with q | q
 ·obtain ⟨o,ho,rfl⟩:=List.mem_map.1 q
  have:=h.hv o ho
  unfold vR at this
  exact ⟨show 0<o.W by omega,show 0<o.H by omega,Int.le_refl 0⟩
 ·obtain ⟨o,ho,rfl⟩:=List.mem_map.1 q
  have:=h.sv o ho
  unfold vR at this
  exact ⟨show 0<o.W by omega,show 0<o.H by omega,h.g.1⟩
theorem JR:FA l:=fun r hr=>by
 have:=h.lv r hr
 unfold vR at this
 exact ⟨by omega,by omega⟩
end
def xN (l:List aF):Int:=l.foldl (fun a r=>max a (r.X+r.W)) 0
def wZ (l:List aF):Int:=l.foldl (fun a r=>max a (r.Y+r.H)) 0
theorem foldl_max {l:List aF} {g:aF→Int}:∀ {a:Int},a≤l.foldl (fun s r=>max s (g r)) a∧∀ r ∈ l,g r≤l.foldl (fun s r=>max s (g r)) a:=by
 induction l with
 | nil=>intro a;exact ⟨Int.le_refl a,fun r hr=>by cases hr⟩
 | cons x l ih =>
   intro a
   rw [List.foldl_cons]
   obtain ⟨h1,h2⟩:=@ih (max a (g x))
   refine ⟨by omega,fun r hr=>?_⟩
   rcases List.mem_cons.1 hr with e | e
   ·subst e;omega
   ·exact h2 r e
theorem Lh {l:List aF} {g:aF→Int} {M:Int} (h:∀ r ∈ l,g r≤M):∀ {a:Int},a≤M→l.foldl (fun s r=>max s (g r)) a≤M:=by
 induction l with
 | nil=>intro a h;exact h
 | cons x l ih =>
   intro a ha
   rw [List.foldl_cons]
   exact ih (fun r hr=>h r (List.mem_cons_of_mem _ hr)) (by have:=h x List.mem_cons_self;omega)
theorem Xi {l:List aF} (h:∀ r ∈ l,vR r):0≤xN l∧xN l≤1048576:=⟨(foldl_max (g:=fun r=>r.X+r.W)).1,Lh (g:=fun r=>r.X+r.W) (fun r hr=>by have:=h r hr;unfold vR at this;omega) (by omega)⟩
theorem Xh {l:List aF} (h:∀ r ∈ l,vR r):0≤wZ l∧wZ l≤1048576:=⟨(foldl_max (g:=fun r=>r.Y+r.H)).1,Lh (g:=fun r=>r.Y+r.H) (fun r hr=>by have:=h r hr;unfold vR at this;omega) (by omega)⟩
theorem Yn (r2:bG×ByteArray×ByteArray×Int×Int) (hl:r2.1.aH.length≤1000) (hv:∀ r ∈ r2.1.aH,vR r):aN (iO r2) (0,0,0)=some (xN r2.1.aH,wZ r2.1.aH):=by
 obtain ⟨a,q1,q2⟩:=kS r2.1.aH (fun k (s:Int×Int)=>(s.1,s.2,(k:Int))) (iO r2) (fun s=>s) (fun k s=>s=(xN (r2.1.aH.take k),wZ (r2.1.aH.take k))) (0,0) rfl
  (fun k r s hr hI=>by
   have hk:=dU hr
   have hd:decide ((k:Int)<(r2.1.aH.length:Int))=true:=by simp [hk]
   obtain ⟨e1,e2⟩:=EV (hv r (List.mem_of_getElem? hr))
   unfold iO
   simp only [hd,if_true,bF hr,Option.bind_some,e1,e2,Ey,cF k (by omega)]
   refine ⟨(max s.1 (r.X+r.W),max s.2 (r.Y+r.H)),rfl, ?_⟩
   subst hI
   rw [eX hr]
   unfold xN wZ
   rw [List.foldl_append,List.foldl_append];rfl) (fun s _=>by simp [iO])
 rw [List.take_length] at q2
 rw [show ((0:Int),(0:Int),(0:Int))=((0:Int),(0:Int),((0:Nat):Int)) from rfl,q1,q2]
theorem Zl (r:bG×Int×ByteArray×ByteArray×Int×Int) (hl:r.1.aH.length≤1000) (hv:∀ x ∈ r.1.aH,vR x):aN (yS r) (0,0,0)=some (xN r.1.aH,wZ r.1.aH):=by
 obtain ⟨a,q1,q2⟩:=kS r.1.aH (fun k (s:Int×Int)=>((k:Int),s.1,s.2)) (yS r) (fun s=>s) (fun k s=>s=(xN (r.1.aH.take k),wZ (r.1.aH.take k))) (0,0) rfl
  (fun k x s hr hI=>by
   have hk:=dU hr
   have hd:decide ((k:Int)<(r.1.aH.length:Int))=true:=by simp [hk]
   obtain ⟨e1,e2⟩:=EV (hv x (List.mem_of_getElem? hr))
   unfold yS
   simp only [hd,if_true,bF hr,Option.bind_some,e1,e2,Ey,cF k (by omega)]
   refine ⟨(max s.1 (x.X+x.W),max s.2 (x.Y+x.H)),rfl, ?_⟩
   subst hI
   rw [eX hr]
   unfold xN wZ
   rw [List.foldl_append,List.foldl_append];rfl) (fun s _=>by simp [yS])
 rw [List.take_length] at q2
 rw [show ((0:Int),(0:Int),(0:Int))=(((0:Nat):Int),(0:Int),(0:Int)) from rfl,q1,q2]
theorem Vc {R:Type} (f:Int→Int) (hx:Int) (ok:Int→Bool) (l:List Int) (body:Int→Option (Int ⊕ R)) (yes:Int×Int→R) (no:R)
  (step:∀ (k:Nat) y,l[k]?=some y→body (k:Int)=if ok y=true∧f y≤hx then some (.inr (yes (f y,y))) else some (.inl ((k+1:Nat):Int))) (fin:body (l.length:Int)=some (.inr no)) :
  aN body 0=some (match scan f hx (l.filter ok) with | some p=>yes p | none=>no):=by
 have key:∀ (n k:Nat),k+n=l.length→aN body (k:Int)=some (match scan f hx ((l.drop k).filter ok) with | some p=>yes p | none=>no):=by
  intro n
  induction n with
  | zero =>
    intro k h;obtain rfl:k=l.length:=by omega
    rw [List.drop_length,eN fin];rfl
  | succ n ih =>
    intro k h
    have hk:k<l.length:=by omega
    have hy:l[k]?=some l[k]:=by simp
    have hs:=step k _ hy
    rw [List.drop_eq_getElem_cons hk,List.filter_cons]
    by_cases o:ok l[k]=true
    ·rw [if_pos o]
     unfold scan
     by_cases c:f l[k]≤hx
     ·rw [if_pos ⟨o,c⟩] at hs;rw [if_pos c,eN hs]
     ·rw [if_neg fun q=>c q.2] at hs;rw [if_neg c,iQ hs,ih (k+1) (by omega)]
    ·rw [if_neg fun q=>o q.1] at hs;rw [if_neg o,iQ hs,ih (k+1) (by omega)]
 have:=key l.length 0 (by omega)
 simpa using this
theorem Zk {x:bG} {turn:Int} {s:dP} {soft:List aF} {t:bQ} {q:bG} {n m:ByteArray} {g k:Int} (hT:gR x turn=some (q,n,m,g,k)) (h:DS q.aH (s.bC++s.Used) soft t) (hm:0≤t.aY∧t.aY≤14400) (hw:1≤s.dQ∧s.dQ≤1048576) (hh:1≤s.bW∧s.bW≤1048576) :
  ∃ o:Option (Int×Int),Lst (Fe q.aH (Pz (s.bC++s.Used) soft t) t.aY (s.dQ-t.aY-xN q.aH) (s.bW-t.aY-wZ q.aH)) o ∧
    oG x turn s soft t=some (match o with | some p=>(bI.mk 0 0 p.1 p.2 turn,true,p.1,p.2,turn) | none=>(bI.mk 0 0 0 0 0,false,0,0,0)):=by
 obtain ⟨ys,y1,y2,y3,y4,y5⟩:=Te h
 have hl:=h.hl
 rw [List.length_append] at hl
 have bw:=Xi h.lv
 have bh:=Xh h.lv
 have hf:∀ y,t.aY≤y→y≤s.bW-t.aY-wZ q.aH→∃ x,jQ q.aH (s.bC++s.Used) soft t y (s.dQ-t.aY-xN q.aH)=some (x,decide (x≤s.dQ-t.aY-xN q.aH))∧Ht (Ba q.aH (s.bC++s.Used) soft t y) t.aY x:=fun y q1 q2=>Zg h (by omega) hm.2
 refine ⟨_,Tx (JR h) (JQ h) y2 y3 y4 (f:=fx (Ba q.aH (s.bC++s.Used) soft t) t.aY) (sp:=Ba q.aH (s.bC++s.Used) soft t) (fun y q1 q2=>?_) (fun x y=>AR h x y), ?_⟩
 ·obtain ⟨x,_,e⟩:=hf y q1 q2
  rw [Xa e];exact e
 ·unfold oG
  rw [hT]
  simp only [Option.bind_some,Yn (q,n,m,g,k) (show q.aH.length≤1000 by have:=h.ll;omega) h.lv]
  rw [pO (by simp [LIM];omega)]
  simp only [List.nil_append,Option.bind_some]
  rw [pO (by unfold LIM;omega)]
  simp only [Option.bind_some,y1]
  have lp:=Vc (fx (Ba q.aH (s.bC++s.Used) soft t) t.aY) (s.dQ-t.aY-xN q.aH) (fun y=>decide (t.aY≤y)&&decide (y≤s.bW-t.aY-wZ q.aH)) ys (lO s soft t (q,n,m,g,k) (xN q.aH,wZ q.aH) (s.bC++s.Used) ys) (fun p=>.inl p) (.inr ()) (fun k y hy=>by
   have hk:=dU hy
   have hd:decide ((k:Int)<(ys.length:Int))=true:=by simp [hk]
   have e1:aI (aI s.bW t.aY) (wZ q.aH)=s.bW-t.aY-wZ q.aH:=by
    have e0:aI s.bW t.aY=s.bW-t.aY:=aX (by omega) (by omega)
    rw [e0,aX (by omega) (by omega)]
   have e2:aI (aI s.dQ t.aY) (xN q.aH)=s.dQ-t.aY-xN q.aH:=by
    have e0:aI s.dQ t.aY=s.dQ-t.aY:=aX (by omega) (by omega)
    rw [e0,aX (by omega) (by omega)]
   unfold lO lN
   simp only [hd,if_true,bF hy,Option.bind_some,e1,e2,cF k (by omega)]
   by_cases c1:y<t.aY
   ·have:¬ t.aY≤y:=by omega
    simp [c1,this]
   ·have c1':t.aY≤y:=by omega
    by_cases c2:y>s.bW-t.aY-wZ q.aH
    ·have:¬ y≤s.bW-t.aY-wZ q.aH:=by omega
     simp [c1,c2,this]
    ·have c2':y≤s.bW-t.aY-wZ q.aH:=by omega
     obtain ⟨x,b1,b2⟩:=hf y c1' c2'
     rw [Xa b2]
     simp only [c1,c2,c1',c2',decide_false,decide_true,Bool.false_eq_true,if_false,Option.bind_some,b1,Bool.and_self,true_and]
     by_cases c:x≤s.dQ-t.aY-xN q.aH <;> simp [c]) (by simp [lO])
  rw [lp]
  cases scan (fx (Ba q.aH (s.bC++s.Used) soft t) t.aY) (s.dQ-t.aY-xN q.aH) (ys.filter fun y=>decide (t.aY≤y)&&decide (y≤s.bW-t.aY-wZ q.aH)) <;> rfl
theorem Zz (t:bQ):∃ b,iS t=some b∧fI t=some b∧(b=true→(0≤t.Gap∧t.Gap≤14400)∧(0≤t.aY∧t.aY≤14400)):=by
 obtain ⟨b,h1,h2⟩:=Pn t
 refine ⟨b,h1,h2,fun hb=>?_⟩
 subst hb
 unfold iS at h1
 simp only [Hd,Option.bind_some] at h1
 by_cases h:0≤t.Gap∧t.Gap≤14400
 ·refine ⟨h, ?_⟩
  simpa [h] using h1
 ·simp [h] at h1
theorem CS (x:List aF) (hx:x.length≤1000) (out0:List aP) (h0:out0.length≤100000):aN (mY x) (0,out0)=some (out0++x.map fun r=>⟨r,0,false⟩):=by
 obtain ⟨a,q1,q2⟩:=kS x (fun k (s:List aP)=>((k:Int),s)) (mY x) (fun s=>s) (fun k s=>s=out0++(x.take k).map fun r=>⟨r,0,false⟩) out0 (by simp)
  (fun k r s hr hI=>by
   have hk:=dU hr
   have hd:decide ((k:Int)<(x.length:Int))=true:=by simp [hk]
   unfold mY
   simp only [hd,if_true,bF hr,Option.bind_some,cF k (by omega)]
   rw [pO (by rw [hI];simp [LIM];omega)]
   refine ⟨_,rfl, ?_⟩
   rw [eX hr,hI];simp) (fun s _=>by simp [mY])
 rw [List.take_length] at q2
 rw [show ((0:Int),out0)=(((0:Nat):Int),out0) from rfl,q1,q2]
theorem JO (s:dP) (h1:s.bC.length≤1000) (h2:s.Used.length≤1000):aN (fY s) (0,[])=some ((s.bC++s.Used).map fun r=>⟨r,0,false⟩):=by
 have i0:idx [s.bC,s.Used] 0=some s.bC:=rfl
 have i1:idx [s.bC,s.Used] 1=some s.Used:=rfl
 have d0:decide ((0:Int)<(([s.bC,s.Used]:List (List aF)).length:Int))=true:=rfl
 have d1:decide ((1:Int)<(([s.bC,s.Used]:List (List aF)).length:Int))=true:=rfl
 have d2:decide ((2:Int)<(([s.bC,s.Used]:List (List aF)).length:Int))=false:=rfl
 have s0:fY s (0,[])=some (.inl (1,s.bC.map fun r=>⟨r,0,false⟩)):=by
  unfold fY
  simp only [i0,d0,if_true,Option.bind_some,CS s.bC h1 [] (by simp),List.nil_append]
  rfl
 have s1:fY s (1,s.bC.map fun r=>⟨r,0,false⟩)=some (.inl (2,(s.bC.map fun r=>(⟨r,0,false⟩:aP))++s.Used.map fun r=>⟨r,0,false⟩)):=by
  unfold fY
  simp only [i1,d1,if_true,Option.bind_some,CS s.Used h2 _ (show (s.bC.map fun r=>(⟨r,0,false⟩:aP)).length≤100000 by rw [List.length_map];omega)]
  rfl
 have s2:∀ o,fY s (2,o)=some (.inr o):=fun o=>by
  unfold fY
  simp only [d2,Bool.false_eq_true,if_false]
 rw [iQ s0,iQ s1,eN (s2 _),List.map_append]
theorem JP (t:bQ) (x:List aF) (hx:x.length≤1000) (hv:∀ r ∈ x,vR r) (out0:List aP) (h0:out0.length≤100000):aN (mZ t x) (0,out0)=some (out0++x.map fun r=>⟨r,t.Gap,t.hU⟩):=by
 obtain ⟨a,q1,q2⟩:=kS x (fun k (s:List aP)=>((k:Int),s)) (mZ t x) (fun s=>s) (fun k s=>s=out0++(x.take k).map fun r=>⟨r,t.Gap,t.hU⟩) out0 (by simp)
  (fun k r s hr hI=>by
   have hk:=dU hr
   have hd:decide ((k:Int)<(x.length:Int))=true:=by simp [hk]
   have vr:=hv r (List.mem_of_getElem? hr)
   unfold mZ qQ
   simp only [hd,if_true,bF hr,Option.bind_some,oU,vr,decide_true,cF k (by omega)]
   rw [pO (by rw [hI];simp [LIM];omega)]
   refine ⟨_,rfl, ?_⟩
   rw [eX hr,hI];simp) (fun s _=>by simp [mZ])
 rw [List.take_length] at q2
 rw [show ((0:Int),out0)=(((0:Nat):Int),out0) from rfl,q1,q2]
theorem BW {taken:List (List aF)} (h12:∀ x ∈ taken,x.length≤12):taken.flatten.length≤12*taken.length:=by
 induction taken with
 | nil=>simp
 | cons x t ih =>
   have h1:=ih fun y hy=>h12 y (List.mem_cons_of_mem _ hy)
   have h2:=h12 x List.mem_cons_self
   rw [List.flatten_cons,List.length_append,List.length_cons];omega
theorem Rv {s:dP} {taken:List (List aF)} {t:bQ} (h1:s.bC.length≤4) (h2:s.Used.length≤48) (hl:taken.length≤8) (h12:∀ x ∈ taken,x.length≤12) (hv:∀ x ∈ taken,∀ r ∈ x,vR r) :
  tV s taken t=some ((s.bC++s.Used).map (fun r=>⟨r,0,false⟩)++taken.flatten.map fun r=>⟨r,t.Gap,t.hU⟩):=by
 unfold tV
 rw [JO s (by omega) (by omega)]
 simp only [Option.bind_some]
 obtain ⟨a,q1,q2,q3⟩:=kS taken (fun k (o:List aP)=>((k:Int),o)) (qT taken t) (fun o=>o) (fun k o=>o=((s.bC++s.Used).map fun r=>(⟨r,0,false⟩:aP))++(taken.take k).flatten.map (fun r=>⟨r,t.Gap,t.hU⟩)∧o.length≤52+12*k) ((s.bC++s.Used).map fun r=>⟨r,0,false⟩) ⟨by simp,by rw [List.length_map,List.length_append];omega⟩
  (fun k x o hx hI=>by
   have hk:=dU hx
   have hd:decide ((k:Int)<(taken.length:Int))=true:=by simp [hk]
   obtain ⟨i1,i2⟩:=hI
   have hxm:=List.mem_of_getElem? hx
   have hx12:=h12 x hxm
   unfold qT
   simp only [hd,if_true,bF hx,Option.bind_some,JP t x (by omega) (hv x hxm) o (by omega),cF k (by omega)]
   refine ⟨_,rfl, ?_,by simp only [List.length_append,List.length_map];omega⟩
   rw [eX hx,List.flatten_append,i1];simp) (fun o _=>by simp [qT])
 rw [List.take_length] at q2
 rw [show ((0:Int),(s.bC++s.Used).map fun r=>(⟨r,0,false⟩:aP))=(((0:Nat):Int),(s.bC++s.Used).map fun r=>(⟨r,0,false⟩:aP)) from rfl,q1,q2]
 rfl
def Tk (taken:List (List aF)):Bool:=taken.any fun x=>decide (x.length>12)
def Yg (taken:List (List aF)):Bool:=taken.any fun x=>x.any fun r=>!decide (vR r)
theorem ER (taken:List (List aF)):vF taken=some (if taken.length>8 then 4 else if Tk taken then 4 else if Yg taken then 1 else 0):=by
 unfold vF
 by_cases h8:taken.length>8
 ·have:(taken.length:Int)>8:=by omega
  simp [h8,this]
 have h8':¬ (taken.length:Int)>8:=by omega
 simp only [h8,h8',decide_false,Bool.false_eq_true,if_false]
 have e1:aN (nT taken) 0=some (if Tk taken then .inl () else .inr ()):=by
  refine kA taken (nT taken) (fun k=>(k:Int)) (fun x=>decide (x.length>12)) _ _ rfl (fun k x hx=>?_) ?_
  ·have hk:=dU hx
   have hd:decide ((k:Int)<(taken.length:Int))=true:=by simp [hk]
   unfold nT
   simp only [hd,if_true,bF hx,Option.bind_some,cF k (by omega)]
   by_cases c:x.length>12
   ·have:(x.length:Int)>12:=by omega
    simp [c,this]
   ·have:¬ (x.length:Int)>12:=by omega
    simp [c,this]
  ·simp [nT]
 rw [e1,Option.bind_some]
 cases hL:Tk taken with
 | true=>rfl
 | false =>
   have h12:∀ x ∈ taken,x.length≤12:=fun x hx=>by
    have:=List.any_eq_false.1 hL x hx
    simpa using this
   have e2:aN (nU taken) 0=some (if Yg taken then .inl () else .inr ()):=by
    refine kA taken (nU taken) (fun k=>(k:Int)) (fun x=>x.any fun r=>!decide (vR r)) _ _ rfl (fun k x hx=>?_) ?_
    ·have hk:=dU hx
     have hd:decide ((k:Int)<(taken.length:Int))=true:=by simp [hk]
     have:=h12 x (List.mem_of_getElem? hx)
     unfold nU
     simp only [hd,if_true,bF hx,Option.bind_some,nZ x (by omega),cF k (by omega),Bool.not_not]
    ·simp [nU]
   simp only [Bool.false_eq_true,if_false,e2,Option.bind_some]
   cases Yg taken <;> rfl
theorem Sy {taken:List (List aF)} (h8:taken.length≤8):aN (fK taken) (0,[])=some (if Tk taken then .inl () else .inr taken.flatten):=by
 have key:∀ (n k:Nat),k+n=taken.length→(∀ x ∈ taken.take k,x.length≤12)→aN (fK taken) ((k:Int),(taken.take k).flatten)=some (if (taken.drop k).any (fun x=>decide (x.length>12)) then .inl () else .inr taken.flatten):=by
  intro n
  induction n with
  | zero =>
    intro k h _;obtain rfl:k=taken.length:=by omega
    rw [List.drop_length,List.take_length]
    rw [eN (r:=.inr taken.flatten) (by simp [fK])];rfl
  | succ n ih =>
    intro k h h12
    have hk:k<taken.length:=by omega
    have hx:taken[k]?=some taken[k]:=by simp
    have hd:decide ((k:Int)<(taken.length:Int))=true:=by simp [hk]
    rw [List.drop_eq_getElem_cons hk,List.any_cons]
    by_cases c:taken[k].length>12
    ·have c':(taken[k].length:Int)>12:=by omega
     rw [eN (r:=.inl ()) (by unfold fK;simp [hk,bF hx,c'])]
     simp [c]
    ·have c':¬ (taken[k].length:Int)>12:=by omega
     have lf:=BW h12
     rw [List.length_take] at lf
     have step:fK taken ((k:Int),(taken.take k).flatten)=some (.inl (((k+1:Nat):Int),(taken.take (k+1)).flatten)):=by
      unfold fK
      simp only [hd,if_true,bF hx,Option.bind_some,c',decide_false,Bool.false_eq_true,if_false,cF k (by omega)]
      rw [pO (by unfold LIM;omega),eX hx,List.flatten_append];simp
     rw [iQ step,ih (k+1) (by omega) (fun x hx'=>by
      rw [eX hx] at hx'
      rcases List.mem_append.1 hx' with q | q
      ·exact h12 x q
      ·simp at q;subst q;omega)]
     simp [c]
 exact key taken.length 0 (by omega) (by simp)
def upd (st:Bool×Int×Int×Int) (n:Int) (o:Option (Int×Int)):Bool×Int×Int×Int:=match o with
 | none=>st
 | some p=>if st.1=false∨p.2<st.2.2.1∨(p.2=st.2.2.1∧p.1<st.2.1) then (true,p.1,p.2,n) else st
def vZ (P:Nat→Option (Int×Int)) (k:Nat):Bool×Int×Int×Int:=(List.range k).foldl (fun st (n:Nat)=>upd st (n:Int) (P n)) (false,0,0,0)
theorem Hb (P:Nat→Option (Int×Int)) (k:Nat):vZ P (k+1)=upd (vZ P k) (k:Int) (P k):=by
 unfold vZ;rw [List.range_succ,List.foldl_append];rfl
structure Qf (x:bG) (s:dP) (obs:List (aF×Int×Bool)) (m:Int) (P:Nat→Option (Int×Int)):Prop where
 al:∀ n:Nat,n<4→lI x s (n:Int)=some true→Lst (Fe (trn n x.aH x.aH) obs m (s.dQ-m-xN (trn n x.aH x.aH)) (s.bW-m-wZ (trn n x.aH x.aH))) (P n)
 no:∀ n:Nat,n<4→lI x s (n:Int)=some false→P n=none
theorem Qf.same {x:bG} {s:dP} {obs:List (aF×Int×Bool)} {m:Int} {P P':Nat→Option (Int×Int)} (h:Qf x s obs m P) (h':Qf x s obs m P'):∀ n,n<4→P n=P' n:=fun n hn=>by
 obtain ⟨b,h1,_⟩:=Ac x s (n:Int)
 cases b with
 | true=>exact Oj (h.al n hn h1) (h'.al n hn h1)
 | false=>rw [h.no n hn h1,h'.no n hn h1]
theorem Io {P P':Nat→Option (Int×Int)} (h:∀ n,n<4→P n=P' n):∀ k,k≤4→vZ P k=vZ P' k
 | 0,_=>rfl
 | k+1,hk=>by rw [Hb,Hb,Io h k (by omega),h k (by omega)]
theorem Sb {x:bG} (hx:bP x=some 0) (n:Nat) (hn:n≤3) :
  (∃ a b c d e f g h i j,Bu x ⟨0,0,0,0,(n:Int)⟩=some (⟨a,b,c,d,trn n x.aH x.aH,e,f⟩,0,g,h,i,j))∧(∃ q m k g h,gR x (n:Int)=some (q,m,k,g,h)∧q.aH=trn n x.aH x.aH) ∧
   (∀ r ∈ trn n x.aH x.aH,vR r∧0≤r.X∧0≤r.Y)∧(trn n x.aH x.aH).length≤12∧0<(trn n x.aH x.aH).length:=by
 obtain ⟨z,hz,_,hv⟩:=Co x
 have h:=hv (Option.some.inj (hz.symm.trans hx))
 have g1:Good 0 0 x.aH:=⟨h.n1,h.v1⟩
 obtain ⟨p1,_⟩:=FB hx n hn
 obtain ⟨r,t,hc⟩:∃ r t,tq n x.aH=r::t:=by
  cases e:tq n x.aH with
  | nil=>exact absurd e (ET n h.n0)
  | cons r t=>exact ⟨r,t,rfl⟩
 obtain ⟨⟨lx1,lx2,lx3,lx4⟩,ly1,ly2,ly3,ly4⟩:=Vd (g1.tq n) hc
 have k1:=xH (g1.tq n) ⟨lx1,lx2⟩ ⟨ly1,ly2⟩ ⟨lx3,lx4⟩ ⟨ly3,ly4⟩
 have hlo:lo (tq n x.aH)=(sL (tq n x.aH) r.X,sM (tq n x.aH) r.Y):=by
  rw [show lo (tq n x.aH)=lo (r::t) by rw [hc],lo,hc]
 have e0:=Pj (g1.tq n) ⟨lx3,lx4⟩ ⟨ly3,ly4⟩
 have e1:trn n x.aH x.aH=(tq n x.aH).map (trR (-(sL (tq n x.aH) r.X)) (-(sM (tq n x.aH) r.Y))):=by unfold trn nrm;rw [hlo]
 have hlen:(trn n x.aH x.aH).length=x.aH.length:=by rw [e1,List.length_map,Le]
 have hT:=Xx h n hn hc
 refine ⟨?_,⟨_,_,_,_,_,hT,by rw [e1,← e0]⟩,fun q hq=>?_,by rw [hlen];exact h.n1,by rw [hlen];exact h.n0⟩
 ·unfold Oq at p1
  simp only [hx,Option.bind_some,bne_self_eq_false,Bool.false_eq_true,if_false,Hd,show (0≤(n:Int)∧(n:Int)≤3) by omega,show ((-1048576:Int)≤0∧(0:Int)≤1048576) by omega,and_self,decide_true,Bool.not_true,if_true] at p1
  cases e:Bu x ⟨0,0,0,0,(n:Int)⟩ with
  | none=>rw [e] at p1;cases p1
  | some v =>
    rw [e] at p1
    obtain ⟨v1,v2,v3,v4,v5,v6⟩:=v
    simp only [Option.bind_some,Option.some.injEq,Prod.mk.injEq] at p1
    obtain ⟨w1,w2,w3,w4,w5,w6⟩:=p1
    have w1':v1=(⟨x.Name,x.bK,x.fM,x.cJ,trn n x.aH x.aH,trn n x.aH x.bZ,trn n x.aH x.Forms⟩:bG):=w1
    subst w1' w2
    exact ⟨_,_,_,_,_,_,_,_,_,_,rfl⟩
 ·have v:=(k1.2 q (by rw [e0,← e1];exact hq)).1
  refine ⟨v, ?_, ?_⟩
  ·rw [e1] at hq
   obtain ⟨a,ha,rfl⟩:=List.mem_map.1 hq
   have:=(Jw (l:=tq n x.aH) (g:=fun r=>r.X) (a:=r.X)).2 a ha
   show 0≤a.X+-(sL (tq n x.aH) r.X)
   unfold sL
   omega
  ·rw [e1] at hq
   obtain ⟨a,ha,rfl⟩:=List.mem_map.1 hq
   have:=(Jw (l:=tq n x.aH) (g:=fun r=>r.Y) (a:=r.Y)).2 a ha
   show 0≤a.Y+-(sM (tq n x.aH) r.Y)
   unfold sM
   omega
theorem BV {x:bG} {s:dP} {t:bQ} {obs:List aP} (hx:bP x=some 0) (hw:1≤s.dQ∧s.dQ≤1048576) (hh:1≤s.bW∧s.bW≤1048576) (hm:0≤t.aY∧t.aY≤14400) (h1:0≤s.dQ-2*t.aY) (h2:0≤s.bW-2*t.aY) (ob:∀ o ∈ obs,BO o) (ol:obs.length≤1000) (n:Nat) (hn:n<4) :
  ∃ o:Option (Int×Int),(lI x s (n:Int)=some true→Lst (Fe (trn n x.aH x.aH) (Vh obs) t.aY (s.dQ-t.aY-xN (trn n x.aH x.aH)) (s.bW-t.aY-wZ (trn n x.aH x.aH))) o)∧(lI x s (n:Int)=some false→o=none) ∧
    ∀ st:Bool×Int×Int×Int,rN s x (⟨t.aY,t.aY,s.dQ-2*t.aY,s.bW-2*t.aY⟩,true) obs (st.1,(n:Int),st.2.1,st.2.2.1,st.2.2.2)=some (.inl ((upd st (n:Int) o).1,((n+1:Nat):Int),(upd st (n:Int) o).2.1,(upd st (n:Int) o).2.2.1,(upd st (n:Int) o).2.2.2)):=by
 obtain ⟨b,hb,_⟩:=Ac x s (n:Int)
 have hd:decide ((n:Int)<4)=true:=by simp;omega
 cases b with
 | false =>
   refine ⟨none,fun q=>(by rw [hb] at q;cases q),fun _=>rfl,fun st=>?_⟩
   unfold rN tF
   simp only [hd,if_true,hb,Option.bind_some,Bool.not_false,cF n (by omega),upd]
 | true =>
   obtain ⟨⟨a,b,c,d,e,f,g,h,i,j,p1⟩,_,p3,p4,p5⟩:=Sb hx n (by omega)
   have hv:∀ r ∈ trn n x.aH x.aH,vR r:=fun r hr=>(p3 r hr).1
   have bw:=Xi hv
   have bh:=Xh hv
   have bs:BS (eA.mk (trn n x.aH x.aH) obs ⟨t.aY,t.aY,s.dQ-2*t.aY,s.bW-2*t.aY⟩ (xN (trn n x.aH x.aH)) (wZ (trn n x.aH x.aH))):=⟨hv,p4,ob,ol⟩
   obtain ⟨o,o1,o2⟩:=DF bs hm rfl rfl (show 0≤s.dQ-2*t.aY∧s.dQ-2*t.aY≤1048576 by omega) (show 0≤s.bW-2*t.aY∧s.bW-2*t.aY≤1048576 by omega) (show 0≤xN (trn n x.aH x.aH)∧xN (trn n x.aH x.aH)≤4194304 by omega) (show 0≤wZ (trn n x.aH x.aH)∧wZ (trn n x.aH x.aH)≤4194304 by omega)
   simp only at o1
   rw [show t.aY+(s.dQ-2*t.aY)-xN (trn n x.aH x.aH)=s.dQ-t.aY-xN (trn n x.aH x.aH) by omega,show t.aY+(s.bW-2*t.aY)-wZ (trn n x.aH x.aH)=s.bW-t.aY-wZ (trn n x.aH x.aH) by omega] at o1
   refine ⟨o,fun _=>o1,fun q=>(by rw [hb] at q;cases q),fun st=>?_⟩
   have pm:=Zl (⟨a,b,c,d,trn n x.aH x.aH,e,f⟩,0,g,h,i,j) (show (trn n x.aH x.aH).length≤1000 by omega) hv
   unfold rN tF
   simp only [hd,if_true,hb,Option.bind_some,Bool.not_true,Bool.false_eq_true,if_false,p1,bne_self_eq_false,pm,o2,cF n (by omega)]
   cases o with
   | none=>simp [upd]
   | some p =>
     obtain ⟨f0,x0,y0,t0⟩:=st
     simp only [upd,if_true]
     cases f0 with
     | false=>simp
     | true =>
       by_cases c1:p.2<y0
       ·simp [c1]
       ·by_cases c2:p.2=y0
        ·by_cases c3:p.1<x0 <;> simp [c2,c3]
        ·simp [c1,c2]
theorem BU {x:bG} {s:dP} {r:aF×Bool} {obs:List aP} {P:Nat→Option (Int×Int)}
  (h:∀ n:Nat,n<4→∀ st:Bool×Int×Int×Int,rN s x r obs (st.1,(n:Int),st.2.1,st.2.2.1,st.2.2.2)=some (.inl ((upd st (n:Int) (P n)).1,((n+1:Nat):Int),(upd st (n:Int) (P n)).2.1,(upd st (n:Int) (P n)).2.2.1,(upd st (n:Int) (P n)).2.2.2))) :
  aN (rN s x r obs) (false,0,0,0,0)=some ((vZ P 4).1,(vZ P 4).2.1,(vZ P 4).2.2.1,(vZ P 4).2.2.2):=by
 obtain ⟨a,q1,q2⟩:=kS (List.range 4) (fun k (st:Bool×Int×Int×Int)=>(st.1,(k:Int),st.2.1,st.2.2.1,st.2.2.2)) (rN s x r obs) (fun st=>(st.1,st.2.1,st.2.2.1,st.2.2.2)) (fun k st=>st=vZ P k) (false,0,0,0) rfl
  (fun k n st hk hI=>by
   have hk4:=dU hk
   rw [List.length_range] at hk4
   exact ⟨_,h k hk4 st,by rw [Hb,hI]⟩) (fun st _=>by simp [rN])
 rw [show ((false,(0:Int),(0:Int),(0:Int),(0:Int)):Bool×Int×Int×Int×Int)=(false,((0:Nat):Int),0,0,0) from rfl]
 exact q1.trans (by rw [q2];rfl)
theorem Yw {x:bG} {s:dP} {soft:List aF} {t:bQ} (hx:bP x=some 0) (hs:VS s) (hm:0≤t.aY∧t.aY≤14400) (hg:0≤t.Gap∧t.Gap≤14400) (sv:∀ r ∈ soft,vR r) (sl:soft.length≤100) (n:Nat) (hn:n<4) :
  ∃ o:Option (Int×Int),(lI x s (n:Int)=some true→Lst (Fe (trn n x.aH x.aH) (Pz (s.bC++s.Used) soft t) t.aY (s.dQ-t.aY-xN (trn n x.aH x.aH)) (s.bW-t.aY-wZ (trn n x.aH x.aH))) o)∧(lI x s (n:Int)=some false→o=none) ∧
    ∀ st:Bool×Int×Int×Int,eG s soft x t (st.1,(n:Int),0,0,st.2.1,st.2.2.1,st.2.2.2)=some (.inl ((upd st (n:Int) o).1,((n+1:Nat):Int),0,0,(upd st (n:Int) o).2.1,(upd st (n:Int) o).2.2.1,(upd st (n:Int) o).2.2.2)):=by
 obtain ⟨b,hb',hb⟩:=Ac x s (n:Int)
 have hd:decide ((n:Int)<4)=true:=by simp;omega
 cases b with
 | false =>
   refine ⟨none,fun q=>(by rw [hb'] at q;cases q),fun _=>rfl,fun st=>?_⟩
   unfold eG gS
   simp only [hd,if_true,hb,Option.bind_some,Bool.not_false,cF n (by omega),upd]
 | true =>
   obtain ⟨_,⟨q,m,k,g,h,p1,p2⟩,p3,p4,p5⟩:=Sb hx n (by omega)
   rw [← p2] at p3 p4 p5 ⊢
   have ds:DS q.aH (s.bC++s.Used) soft t:=⟨fun r hr=>(p3 r hr).1,p4,hs.v,by have:=hs.n1;have:=hs.n2;rw [List.length_append];omega,sv,sl,hg⟩
   obtain ⟨o,o1,o2⟩:=Zk p1 ds hm hs.w hs.h
   refine ⟨o,fun _=>o1,fun z=>(by rw [hb'] at z;cases z),fun st=>?_⟩
   unfold eG gS
   simp only [hd,if_true,hb,Option.bind_some,Bool.not_true,Bool.false_eq_true,if_false,o2,cF n (by omega)]
   cases o with
   | none=>simp [upd]
   | some p =>
     obtain ⟨f0,x0,y0,t0⟩:=st
     simp only [upd,if_true]
     cases f0 with
     | false=>simp
     | true =>
       by_cases c1:p.2<y0
       ·simp [c1]
       ·by_cases c2:p.2=y0
        ·by_cases c3:p.1<x0 <;> simp [c2,c3]
        ·simp [c1,c2]
theorem Yv {x:bG} {s:dP} {soft:List aF} {t:bQ} {P:Nat→Option (Int×Int)}
  (h:∀ n:Nat,n<4→∀ st:Bool×Int×Int×Int,eG s soft x t (st.1,(n:Int),0,0,st.2.1,st.2.2.1,st.2.2.2)=some (.inl ((upd st (n:Int) (P n)).1,((n+1:Nat):Int),0,0,(upd st (n:Int) (P n)).2.1,(upd st (n:Int) (P n)).2.2.1,(upd st (n:Int) (P n)).2.2.2))) :
  qZ s soft x t=some (bI.mk 0 0 (vZ P 4).2.1 (vZ P 4).2.2.1 (vZ P 4).2.2.2,(vZ P 4).1,0,0,(vZ P 4).2.1,(vZ P 4).2.2.1,(vZ P 4).2.2.2):=by
 obtain ⟨a,q1,q2⟩:=kS (List.range 4) (fun k (st:Bool×Int×Int×Int)=>(st.1,(k:Int),(0:Int),(0:Int),st.2.1,st.2.2.1,st.2.2.2)) (eG s soft x t) (fun st=>(st.1,0,0,st.2.1,st.2.2.1,st.2.2.2)) (fun k st=>st=vZ P k) (false,0,0,0) rfl
  (fun k n st hk hI=>by
   have hk4:=dU hk
   rw [List.length_range] at hk4
   exact ⟨_,h k hk4 st,by rw [Hb,hI]⟩) (fun st _=>by simp [eG])
 unfold qZ
 have q1':aN (eG s soft x t) (false,0,0,0,0,0,0)=some ((vZ P 4).1,0,0,(vZ P 4).2.1,(vZ P 4).2.2.1,(vZ P 4).2.2.2):=q1.trans (by rw [q2];rfl)
 rw [q1'];rfl
theorem Wr {Q:Nat→Option (Int×Int)→Prop} (H:∀ n:Nat,n<4→∃ o,Q n o):∃ P:Nat→Option (Int×Int),∀ n:Nat,n<4→Q n (P n):=by
 refine ⟨fun n=>if hn:n<4 then Classical.choose (H n hn) else none,fun n hn=>?_⟩
 simp only [hn,dite_true]
 exact Classical.choose_spec (H n hn)
theorem JN (s:dP) (taken:List (List aF)) (t:bQ):Vh ((s.bC++s.Used).map (fun r=>(⟨r,0,false⟩:aP))++taken.flatten.map fun r=>⟨r,t.Gap,t.hU⟩)=Pz (s.bC++s.Used) taken.flatten t:=by
 unfold Vh Pz
 rw [List.map_append,List.map_map,List.map_map];rfl
theorem CH {s:dP} {m:Int} (hs:VS s) (hm:0≤m∧m≤14400):vJ s m=some (⟨m,m,s.dQ-2*m,s.bW-2*m⟩,decide (0<s.dQ-2*m∧0<s.bW-2*m)):=by
 have hw:=hs.w;have hh:=hs.h
 unfold vJ
 have e0:fH 2 m=2*m:=Ez (by omega) (by omega)
 rw [e0,aX (by omega) (by omega),aX (by omega) (by omega),oU]
 simp only [Option.bind_some]
 congr 2
 exact decide_eq_decide.2 (by unfold vR;simp only;omega)
structure LJ (s:dP) (taken:List (List aF)) (x:bG) (t:bQ) (pl:bI) (ok:Bool):Prop where
 vs:VS s
 vx:bP x=some 0
 tl:taken.length≤8
 t12:∀ l ∈ taken,l.length≤12
 tv:∀ l ∈ taken,∀ r ∈ l,vR r
 g:0≤t.Gap∧t.Gap≤14400
 m:0≤t.aY∧t.aY≤14400
 ex:∃ P,Qf x s (Pz (s.bC++s.Used) taken.flatten t) t.aY P∧pl=⟨0,0,(vZ P 4).2.1,(vZ P 4).2.2.1,(vZ P 4).2.2.2⟩∧ok=(vZ P 4).1
theorem EU {x:bG} (hx:bP x=some 0) {n:Nat} (hn:n<4):1≤xN (trn n x.aH x.aH)∧1≤wZ (trn n x.aH x.aH):=by
 obtain ⟨_,_,p3,p4,p5⟩:=Sb hx n (by omega)
 obtain ⟨r,hr⟩:=List.exists_mem_of_ne_nil _ (List.length_pos_iff.1 p5)
 obtain ⟨v,x0,y0⟩:=p3 r hr
 unfold vR at v
 have h1:=(foldl_max (l:=trn n x.aH x.aH) (g:=fun r=>r.X+r.W) (a:=0)).2 r hr
 have h2:=(foldl_max (l:=trn n x.aH x.aH) (g:=fun r=>r.Y+r.H) (a:=0)).2 r hr
 unfold xN wZ
 omega
theorem Yh:vZ (fun _=>none) 4=(false,0,0,0):=rfl
theorem AP (s:dP) (taken:List (List aF)) (x:bG) (t:bQ):∃ pl ok e u1 u2 u3 w1 w2 w3 w4 w5,Ej s taken x t=some (pl,ok,e,u1,u2,u3)∧qY s taken x t=some (pl,ok,e,w1,w2,w3,w4,w5) ∧
  (e≠0→pl=⟨0,0,0,0,0⟩∧ok=false)∧(e=0→LJ s taken x t pl ok):=by
 obtain ⟨a,a1,a2,a3⟩:=Sl s
 obtain ⟨b,b1,b2,b3⟩:=Co x
 obtain ⟨c,c1,c2,c3⟩:=Zz t
 unfold Ej qY
 simp only [a1,a2,Option.bind_some,ER]
 by_cases ha:a=0
 case neg =>
  have ha':(a != 0)=true:=by rw [bne_iff_ne];exact ha
  simp only [ha',if_true]
  exact ⟨_,_,_,_,_,_,_,_,_,_,_,rfl,rfl,fun _=>⟨rfl,rfl⟩,fun q=>absurd q ha⟩
 subst ha
 have vs:=a3 rfl
 simp only [bne_self_eq_false,Bool.false_eq_true,if_false]
 by_cases h8:taken.length>8
 ·have h8':(taken.length:Int)>8:=by omega
  simp only [h8,h8',if_true,decide_true,show ((4:Int) != 0)=true from rfl]
  exact ⟨_,_,_,_,_,_,_,_,_,_,_,rfl,rfl,fun _=>⟨rfl,rfl⟩,fun q=>absurd q (by decide)⟩
 have h8':¬ (taken.length:Int)>8:=by omega
 have tl:taken.length≤8:=by omega
 simp only [h8,h8',if_false,decide_false,Bool.false_eq_true,Sy tl,Option.bind_some]
 cases hL:Tk taken with
 | true =>
   simp only [if_true,show ((4:Int) != 0)=true from rfl]
   exact ⟨_,_,_,_,_,_,_,_,_,_,_,rfl,rfl,fun _=>⟨rfl,rfl⟩,fun q=>absurd q (by decide)⟩
 | false =>
 have t12:∀ l ∈ taken,l.length≤12:=fun l hl=>by
  have:=List.any_eq_false.1 hL l hl
  simpa using this
 have lf:=BW t12
 have hbad:(taken.flatten.any fun r=>!decide (vR r))=Yg taken:=by
  unfold Yg
  rw [Bool.eq_iff_iff,List.any_eq_true,List.any_eq_true]
  constructor
  ·rintro ⟨r,hr,h⟩
   obtain ⟨l,hl,hr⟩:=List.mem_flatten.1 hr
   exact ⟨l,hl,List.any_eq_true.2 ⟨r,hr,h⟩⟩
  ·rintro ⟨l,hl,h⟩
   obtain ⟨r,hr,h⟩:=List.any_eq_true.1 h
   exact ⟨r,List.mem_flatten.2 ⟨l,hl,hr⟩,h⟩
 simp only [Bool.false_eq_true,if_false,Aw taken.flatten (by omega),hbad,Option.bind_some]
 cases hB:Yg taken with
 | true =>
   simp only [if_true,show ((1:Int) != 0)=true from rfl,Bool.not_true,Bool.not_false]
   exact ⟨_,_,_,_,_,_,_,_,_,_,_,rfl,rfl,fun _=>⟨rfl,rfl⟩,fun q=>absurd q (by decide)⟩
 | false =>
 have tv:∀ l ∈ taken,∀ r ∈ l,vR r:=fun l hl r hr=>by
  have:=List.any_eq_false.1 (show (taken.flatten.any fun r=>!decide (vR r))=false by rw [hbad,hB]) r (List.mem_flatten.2 ⟨l,hl,hr⟩)
  simpa using this
 simp only [Bool.false_eq_true,if_false,bne_self_eq_false,Bool.not_false,Bool.not_true,b1,b2,Option.bind_some]
 by_cases hb:b=0
 case neg =>
  have hb':(b != 0)=true:=by rw [bne_iff_ne];exact hb
  simp only [hb',if_true]
  exact ⟨_,_,_,_,_,_,_,_,_,_,_,rfl,rfl,fun _=>⟨rfl,rfl⟩,fun q=>absurd q hb⟩
 subst hb
 simp only [bne_self_eq_false,Bool.false_eq_true,if_false,c1,c2,Option.bind_some]
 cases c with
 | false =>
   simp only [Bool.not_false,if_true]
   exact ⟨_,_,_,_,_,_,_,_,_,_,_,rfl,rfl,fun _=>⟨rfl,rfl⟩,fun q=>absurd q (by decide)⟩
 | true =>
 obtain ⟨cg,cm⟩:=c3 rfl
 simp only [Bool.not_true,Bool.false_eq_true,if_false,CH vs cm,Option.bind_some]
 have n1:=vs.n1;have n2:=vs.n2
 have sv:∀ r ∈ taken.flatten,vR r:=fun r hr=>by
  obtain ⟨l,hl,hr⟩:=List.mem_flatten.1 hr
  exact tv l hl r hr
 obtain ⟨P',hP'⟩:=Wr (fun n hn=>Yw b1 vs cm cg sv (by omega) n hn)
 have T':Qf x s (Pz (s.bC++s.Used) taken.flatten t) t.aY P':=⟨fun n hn=>(hP' n hn).1,fun n hn=>(hP' n hn).2.1⟩
 have fD:=Yv (fun n hn=>(hP' n hn).2.2)
 by_cases hi:0<s.dQ-2*t.aY∧0<s.bW-2*t.aY
 ·have ol:(((s.bC++s.Used).map (fun r=>(⟨r,0,false⟩:aP))++taken.flatten.map fun r=>(⟨r,t.Gap,t.hU⟩:aP))).length≤1000:=by
   simp only [List.length_append,List.length_map];omega
  have ob:∀ o ∈ ((s.bC++s.Used).map (fun r=>(⟨r,0,false⟩:aP))++taken.flatten.map fun r=>(⟨r,t.Gap,t.hU⟩:aP)),BO o:=fun o ho=>by
   rcases List.mem_append.1 ho with q | q
   ·obtain ⟨r,hr,rfl⟩:=List.mem_map.1 q
    exact ⟨vs.v r hr,show (0:Int)≤0∧(0:Int)≤14400 by omega⟩
   ·obtain ⟨r,hr,rfl⟩:=List.mem_map.1 q
    exact ⟨sv r hr,cg⟩
  obtain ⟨P,hP⟩:=Wr (fun n hn=>BV b1 vs.w vs.h cm (by omega) (by omega) ob ol n hn)
  have T:Qf x s (Pz (s.bC++s.Used) taken.flatten t) t.aY P:=⟨fun n hn=>by rw [← JN];exact (hP n hn).1,fun n hn=>(hP n hn).2.1⟩
  have fP:=BU (fun n hn=>(hP n hn).2.2)
  have eb:vZ P 4=vZ P' 4:=Io (T.same T') 4 (Nat.le_refl 4)
  simp only [hi,and_self,decide_true,Bool.not_true,Bool.false_eq_true,if_false,Rv n1 n2 tl t12 tv,Option.bind_some,fP,fD,eb]
  exact ⟨_,_,_,_,_,_,_,_,_,_,_,rfl,rfl,fun q=>absurd rfl q,fun _=>⟨vs,b1,tl,t12,tv,cg,cm,P',T',rfl,rfl⟩⟩
 ·have eb:vZ P' 4=(false,0,0,0):=by
   rw [← Yh]
   refine Io (fun n hn=>?_) 4 (Nat.le_refl 4)
   obtain ⟨al,h1,_⟩:=Ac x s (n:Int)
   cases al with
   | false=>exact T'.no n hn h1
   | true =>
     refine Oj (T'.al n hn h1) fun u v q=>hi ?_
     obtain ⟨w1,w2⟩:=EU b1 hn
     have:=q.1;have:=q.2.1;have:=q.2.2.1;have:=q.2.2.2.1
     omega
  simp only [hi,decide_false,Bool.not_false,if_true,fD,Option.bind_some,eb]
  refine ⟨_,_,_,_,_,_,_,_,_,_,_,rfl,rfl,fun q=>absurd rfl q,fun _=>⟨vs,b1,tl,t12,tv,cg,cm,P',T', ?_, ?_⟩⟩
  ·rw [eb]
  ·rw [eb]
end Go.SM
namespace Go.SM
open Go Go.VI
theorem Zb:pT=some true:=by kernel_rfl
theorem Ru (s:dP) (taken:List (List aF)) (g:pI):pS s taken g=some true:=by
 obtain ⟨pl,ok,e,u1,u2,u3,w1,w2,w3,w4,w5,h1,h2,_⟩:=AP s taken g.bG g.Set
 unfold pS
 simp only [h1,h2,Option.bind_some,beq_self_eq_true,Bool.and_self,if_true,Zb]
end Go.SM
