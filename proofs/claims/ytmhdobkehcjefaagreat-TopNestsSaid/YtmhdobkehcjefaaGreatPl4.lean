/- What the functions compute, part 4. -/
import Derived.Test.YtmhdobkehcjefaaGreatPl3
import Derived.Test.YtmhdobkehcjefaaGreatPl2
set_option linter.unusedVariables false
set_option linter.unusedSimpArgs false
set_option linter.unusedSectionVars false
namespace Go.SM
open Go Go.VI Go.Cells
def Il (o:aR) (r:aE):List Int:=[o.aE.Y+o.aE.H+0-r.Y,o.aE.Y-0-r.Y-r.H,o.aE.Y+o.aE.H+o.gap-r.Y,o.aE.Y-o.gap-r.Y-r.H]
theorem WK {o:aR} {r:aE} (ho:BO o) (hr:vR r) (out0:List Int) (h0:out0.length≤100000000):aL (fF o r) (0,out0)=some (out0++Il o r):=by
 obtain ⟨hov,hg⟩:=ho
 unfold vR at hov hr
 have s0:fF o r (0,out0)=some (.inl (1,out0++[o.aE.Y+o.aE.H+0-r.Y,o.aE.Y-0-r.Y-r.H])):=by
  unfold fF
  have i0:idx [0,o.gap] 0=some 0:=rfl
  have d0:decide ((0:Int)<(([0,o.gap]:List Int).length:Int))=true:=rfl
  simp only [i0,d0,if_true,Option.bind_some]
  rw [iR (by simp [LIM];omega)]
  simp (disch:=omega) only [aP,bE,Option.bind_some]
  rfl
 have s1:∀ out:List Int,out.length≤100000010→fF o r (1,out)=some (.inl (2,out++[o.aE.Y+o.aE.H+o.gap-r.Y,o.aE.Y-o.gap-r.Y-r.H])):=fun out hout=>by
  unfold fF
  have i0:idx [0,o.gap] 1=some o.gap:=rfl
  have d0:decide ((1:Int)<(([0,o.gap]:List Int).length:Int))=true:=rfl
  simp only [i0,d0,if_true,Option.bind_some]
  rw [iR (by simp [LIM];omega)]
  simp (disch:=omega) only [aP,bE,Option.bind_some]
  rfl
 have s2:∀ out:List Int,fF o r (2,out)=some (.inr out):=fun out=>by simp [fF]
 rw [eW s0,eW (s1 _ (by simp;omega)),cM (s2 _),List.append_assoc]
 rfl
section
variable {s:fE} (h:BS s)
include h
theorem WL {o:aR} (ho:o ∈ s.bV) (out0:List Int) (h0:out0.length≤10000000):aL (lP s o) (0,out0)=some (out0++s.mN.flatMap (Il o)):=by
 have hrl:=h.rl
 obtain ⟨a,q1,q2,q3⟩:=kL s.mN (fun k (t:List Int)=>((k:Int),t)) (lP s o) (fun t=>t) (fun k t=>t=out0++(s.mN.take k).flatMap (Il o)∧t.length≤out0.length+4*k) out0 (by simp)
  (fun k r t hr hI=>by
   have hk:=bL hr
   have hd:decide ((k:Int)<(s.mN.length:Int))=true:=by simp [hk]
   obtain ⟨i1,i2⟩:=hI
   unfold lP
   simp only [hd,if_true,bB hr,Option.bind_some,WK (h.o o ho) (h.r r (List.mem_of_getElem? hr)) t (by omega),bJ k (by omega)]
   refine ⟨_,rfl, ?_, ?_⟩
   ·rw [iT hr,List.flatMap_append,i1];simp
   ·simp only [List.length_append,Il,List.length_cons,List.length_nil];omega) (fun t _=>by simp [lP])
 rw [List.take_length] at q2
 rw [show ((0:Int),out0)=(((0:Nat):Int),out0) from rfl,q1,q2]
def HN (s:fE):List Int:=s.bV.flatMap fun o=>s.mN.flatMap (Il o)
theorem WM:aL (lQ s) (0,[s.eB.Y])=some (s.eB.Y::HN s)∧(HN s).length≤48000:=by
 have hrl:=h.rl
 have hol:=h.ol
 have hin:∀ o:aR,(s.mN.flatMap (Il o)).length≤48:=fun o=>by
  have:∀ l:List aE,(l.flatMap (Il o)).length=4*l.length:=fun l=>by
   induction l with
   | nil=>rfl
   | cons r l ih=>rw [List.flatMap_cons,List.length_append,ih];simp [Il];omega
  rw [this];omega
 obtain ⟨a,q1,q2,q3⟩:=kL s.bV (fun k (t:List Int)=>((k:Int),t)) (lQ s) (fun t=>t) (fun k t=>t=s.eB.Y::((s.bV.take k).flatMap fun o=>s.mN.flatMap (Il o))∧t.length≤1+48*k) [s.eB.Y] (by simp)
  (fun k o t ho hI=>by
   have hk:=bL ho
   have hd:decide ((k:Int)<(s.bV.length:Int))=true:=by simp [hk]
   obtain ⟨i1,i2⟩:=hI
   have:=hin o
   unfold lQ
   simp only [hd,if_true,bB ho,Option.bind_some,WL h (List.mem_of_getElem? ho) t (by omega),bJ k (by omega)]
   refine ⟨_,rfl, ?_, ?_⟩
   ·rw [iT ho,List.flatMap_append,i1];simp
   ·simp only [List.length_append];omega) (fun t _=>by simp [lQ])
 rw [List.take_length] at q2
 refine ⟨by rw [show ((0:Int),[s.eB.Y])=(((0:Nat):Int),[s.eB.Y]) from rfl,q1,q2];rfl, ?_⟩
 have:a=s.eB.Y::HN s:=q2
 rw [this] at q3
 simp only [List.length_cons] at q3
 omega
theorem DP (hA : -1048576≤s.eB.Y∧s.eB.Y≤1048576) (hH:0≤s.eB.H∧s.eB.H≤1048576) (hh:0≤s.h∧s.h≤4194304):∃ ys:List Int,ys.Pairwise (fun a b=>a<b)∧s.eB.Y ∈ ys∧TE s.mN (EB s.bV) ys∧ys.length≤100000 ∧
  vA s=some (ys.filter fun y=>decide (s.eB.Y≤y)&&decide (y≤s.eB.Y+s.eB.H-s.h)):=by
 obtain ⟨c1,c2⟩:=WM h
 obtain ⟨r,r1,r2,r3⟩:=OQ (l:=s.eB.Y::HN s) (by simp;omega)
 have hr:r.length=(HN s).length+1:=by rw [r2.length_eq];simp
 obtain ⟨q,q1,q2,q3⟩:=Uz HI (fun x y a b=>by unfold ltI at a b;simp at a b;omega) (eqb:=fun x y=>x==y) (fun x y=>by simp) (0:Int) (l:=r) (by omega) r3
 have asc:q.Pairwise fun a b=>a<b:=q2.imp fun h=>by unfold ltI at h;simpa using h
 have mem:∀ x,x ∈ q↔x ∈ s.eB.Y::HN s:=fun x=>by rw [q3,r2.mem_iff]
 have ql:q.length≤100000:=by
  have:=Fu asc fun x hx=>(mem x).1 hx
  simp only [List.length_cons] at this
  omega
 refine ⟨q,asc,(mem _).2 List.mem_cons_self,fun o' ho' r hr=>?_,ql, ?_⟩
 ·obtain ⟨o,ho,rfl⟩:=List.mem_map.1 ho'
  have m4:∀ z,z ∈ Il o r→z ∈ q:=fun z hz=>(mem z).2 (List.mem_cons_of_mem _ (List.mem_flatMap.2 ⟨o,ho,List.mem_flatMap.2 ⟨r,hr,hz⟩⟩))
  refine ⟨m4 _ ?_,m4 _ ?_,fun _=>m4 _ ?_⟩
  ·unfold Il;simp
  ·unfold Il;simp
  ·have e:o.aE.Y-r.H-r.Y=o.aE.Y-0-r.Y-r.H:=by omega
   show o.aE.Y-r.H-r.Y ∈ Il o r
   rw [e];unfold Il;simp
 ·unfold vA
  rw [c1]
  simp only [Option.bind_some,r1,Oc,q1]
  rw [QI _ _ _ _ _ _ _ _ _ (by omega)]
  simp only [Option.bind_some]
  congr 1
  refine List.filter_congr fun y _=>?_
  rw [aP (by omega) (by omega),bE (by omega) (by omega)]
  rw [Bool.eq_iff_iff]
  simp only [Bool.not_eq_true',Bool.or_eq_false_iff,decide_eq_false_iff_not,Bool.and_eq_true,decide_eq_true_eq]
  omega
noncomputable def fx (S:Int→List (Int×Int)) (m y:Int):Int:=open Classical in if h:∃ x,Sl (S y) m x then Classical.choose h else 0
omit h in
theorem SP {S:Int→List (Int×Int)} {m y x:Int} (h:Sl (S y) m x):fx S m y=x:=by
 have hx:∃ x,Sl (S y) m x:=⟨x,h⟩
 unfold fx
 rw [dif_pos hx]
 exact Zg (fun _=>Iff.rfl) (Classical.choose_spec hx) h
omit h in
theorem JC {R:Type} (f:Int→Int) (hx:Int) (l:List Int) (body:Int→Option (Int ⊕ R)) (yes:Int×Int→R) (no:R)
  (step:∀ (k:Nat) y,l[k]?=some y→body (k:Int)=if f y≤hx then some (.inr (yes (f y,y))) else some (.inl ((k+1:Nat):Int))) (fin:body (l.length:Int)=some (.inr no)) :
  aL body 0=some (match scan f hx l with | some p=>yes p | none=>no):=by
 have key:∀ (n k:Nat),k+n=l.length→aL body (k:Int)=some (match scan f hx (l.drop k) with | some p=>yes p | none=>no):=by
  intro n
  induction n with
  | zero =>
    intro k h;obtain rfl:k=l.length:=by omega
    rw [List.drop_length,cM fin];rfl
  | succ n ih =>
    intro k h
    have hk:k<l.length:=by omega
    have hy:l[k]?=some l[k]:=by simp
    have hs:=step k _ hy
    rw [List.drop_eq_getElem_cons hk]
    unfold scan
    by_cases c:f l[k]≤hx
    ·rw [if_pos c] at hs ⊢;rw [cM hs]
    ·rw [if_neg c] at hs ⊢;rw [eW hs,ih (k+1) (by omega)]
 have:=key l.length 0 (by omega)
 simpa using this
theorem VN:TG (EB s.bV):=fun o' ho'=>by
 obtain ⟨o,ho,rfl⟩:=List.mem_map.1 ho'
 have:=(h.o o ho).v
 unfold vR at this
 exact ⟨show 0<o.aE.W by omega,show 0<o.aE.H by omega,(h.o o ho).g.1⟩
theorem VO:TH s.mN:=fun r hr=>by
 have:=h.r r hr
 unfold vR at this
 exact ⟨by omega,by omega⟩
theorem NP {m:Int} (hm:0≤m∧m≤14400) (ax:s.eB.X=m) (ay:s.eB.Y=m) (aw:0≤s.eB.W∧s.eB.W≤1048576) (ah:0≤s.eB.H∧s.eB.H≤1048576) (hw:0≤s.w∧s.w≤4194304) (hh:0≤s.h∧s.h≤4194304) :
  ∃ o:Option (Int×Int),Lst (Fe s.mN (EB s.bV) m (m+s.eB.W-s.w) (m+s.eB.H-s.h)) o∧xQ s=some (match o with | some p=>(p.1,p.2,true) | none=>(0,0,false)):=by
 unfold xQ
 by_cases c1:s.w>s.eB.W
 ·refine ⟨none,fun x y q=>?_,by simp [c1]⟩
  have:=q.1;have:=q.2.1;omega
 by_cases c2:s.h>s.eB.H
 ·refine ⟨none,fun x y q=>?_,by simp [c1,c2]⟩
  have:=q.2.2.1;have:=q.2.2.2.1;omega
 obtain ⟨ys,y1,y2,y3,y4,y5⟩:=DP h (by omega) ah hh
 rw [ay] at y2 y5
 have hf:∀ y,m≤y→y≤m+s.eB.H-s.h→∃ L x,pV s y=some L∧Hm L m (m+s.eB.W-s.w)=some (x,decide (x≤m+s.eB.W-s.w))∧Sl (Jl s y) m x:=fun y q1 q2=>by
  obtain ⟨L,b1,b2,b3,b4⟩:=DH h (y:=y) (by omega)
  obtain ⟨x,f1,f2,f3,f4⟩:=LW L b2 (m:=m) (hi:=m+s.eB.W-s.w) (by omega) b4
  have e:∀ z,inS (L.map fun s=>(s.lo,s.hi)) z↔inS (Jl s y) z:=fun z=>(UC L z).trans (b3 z)
  exact ⟨L,x,b1,f1,f2,fun q=>f3 ((e x).2 q),fun z z1 z2=>(e z).1 (f4 z z1 z2)⟩
 refine ⟨_,OG (VO h) (VN h) y1 y2 y3 (f:=fx (Jl s) m) (sp:=Jl s) (fun y q1 q2=>?_) (fun x y=>HQ h x y), ?_⟩
 ·obtain ⟨L,x,_,_,q⟩:=hf y q1 q2
  rw [SP q];exact q
 ·simp only [c1,c2,decide_false,Bool.false_eq_true,if_false,Option.bind_some,y5]
  have lp:=JC (fx (Jl s) m) (m+s.eB.W-s.w) (ys.filter fun y=>decide (m≤y)&&decide (y≤m+s.eB.H-s.h)) (tO s (ys.filter fun y=>decide (m≤y)&&decide (y≤m+s.eB.H-s.h))) (fun p=>.inl p) (.inr ()) (fun k y hy=>by
   have hk:=bL hy
   have hkl:(ys.filter fun y=>decide (m≤y)&&decide (y≤m+s.eB.H-s.h)).length≤ys.length:=List.length_filter_le _ _
   have hym:=(List.mem_filter.1 (List.mem_of_getElem? hy)).2
   simp only [Bool.and_eq_true,decide_eq_true_eq] at hym
   obtain ⟨L,x,b1,b2,b3⟩:=hf y hym.1 hym.2
   have hd:decide ((k:Int)<((ys.filter fun y=>decide (m≤y)&&decide (y≤m+s.eB.H-s.h)).length:Int))=true:=by simp only [decide_eq_true_eq];omega
   have e1:aH (aF m s.eB.W) s.w=m+s.eB.W-s.w:=by
    rw [aP (by omega) (by omega),bE (by omega) (by omega)]
   unfold tO
   simp only [hd,if_true,bB hy,Option.bind_some,b1,ax,e1,b2,bJ k (by omega),SP b3]
   by_cases c:x≤m+s.eB.W-s.w <;> simp [c]) (by simp [tO])
  rw [lp]
  cases scan (fx (Jl s) m) (m+s.eB.W-s.w) (ys.filter fun y=>decide (m≤y)&&decide (y≤m+s.eB.H-s.h)) <;> rfl
end
def Zr (hard soft:List aE) (t:bK):List (aE×Int×Bool):=hard.map (fun o=>(o,0,false))++soft.map fun o=>(o,t.Gap,t.jS)
structure DS (l hard soft:List aE) (t:bK):Prop where
 lv:∀ r ∈ l,vR r
 ll:l.length≤12
 hv:∀ r ∈ hard,vR r
 hl:hard.length≤100
 sv:∀ r ∈ soft,vR r
 sl:soft.length≤100
 g:0≤t.Gap∧t.Gap≤14400
section
variable {l hard soft:List aE} {t:bK} (h:DS l hard soft t)
include h
end
section
variable {l hard soft:List aE} {t:bK} (h:DS l hard soft t)
include h
end
def Kt (l:List aE):Int:=l.foldl (fun a r=>max a (r.X+r.W)) 0
def Ks (l:List aE):Int:=l.foldl (fun a r=>max a (r.Y+r.H)) 0
theorem foldl_max {l:List aE} {g:aE→Int}:∀ {a:Int},a≤l.foldl (fun s r=>max s (g r)) a∧∀ r ∈ l,g r≤l.foldl (fun s r=>max s (g r)) a:=by
 induction l with
 | nil=>intro a;exact ⟨Int.le_refl a,fun r hr=>by cases hr⟩
 | cons x l ih =>
   intro a
   rw [List.foldl_cons]
   obtain ⟨h1,h2⟩:=@ih (max a (g x))
   refine ⟨by omega,fun r hr=>?_⟩
   rcases List.mem_cons.1 hr with e | e
   ·subst e;omega
   ·exact h2 r e
theorem Io {l:List aE} {g:aE→Int} {M:Int} (h:∀ r ∈ l,g r≤M):∀ {a:Int},a≤M→l.foldl (fun s r=>max s (g r)) a≤M:=by
 induction l with
 | nil=>intro a h;exact h
 | cons x l ih =>
   intro a ha
   rw [List.foldl_cons]
   exact ih (fun r hr=>h r (List.mem_cons_of_mem _ hr)) (by have:=h x List.mem_cons_self;omega)
theorem QZ {l:List aE} (h:∀ r ∈ l,vR r):0≤Kt l∧Kt l≤1048576:=⟨(foldl_max (g:=fun r=>r.X+r.W)).1,Io (g:=fun r=>r.X+r.W) (fun r hr=>by have:=h r hr;unfold vR at this;omega) (by omega)⟩
theorem QY {l:List aE} (h:∀ r ∈ l,vR r):0≤Ks l∧Ks l≤1048576:=⟨(foldl_max (g:=fun r=>r.Y+r.H)).1,Io (g:=fun r=>r.Y+r.H) (fun r hr=>by have:=h r hr;unfold vR at this;omega) (by omega)⟩
theorem JH (r:aQ×Int×ByteArray×ByteArray×Int×Int) (hl:r.1.aD.length≤1000) (hv:∀ x ∈ r.1.aD,vR x):aL (Ff r) (0,0,0)=some (Kt r.1.aD,Ks r.1.aD):=by
 obtain ⟨a,q1,q2⟩:=kL r.1.aD (fun k (s:Int×Int)=>((k:Int),s.1,s.2)) (Ff r) (fun s=>s) (fun k s=>s=(Kt (r.1.aD.take k),Ks (r.1.aD.take k))) (0,0) rfl
  (fun k x s hr hI=>by
   have hk:=bL hr
   have hd:decide ((k:Int)<(r.1.aD.length:Int))=true:=by simp [hk]
   obtain ⟨e1,e2⟩:=Pt (hv x (List.mem_of_getElem? hr))
   unfold Ff
   simp only [hd,if_true,bB hr,Option.bind_some,e1,e2,Kq,bJ k (by omega)]
   refine ⟨(max s.1 (x.X+x.W),max s.2 (x.Y+x.H)),rfl, ?_⟩
   subst hI
   rw [iT hr]
   unfold Kt Ks
   rw [List.foldl_append,List.foldl_append];rfl) (fun s _=>by simp [Ff])
 rw [List.take_length] at q2
 rw [show ((0:Int),(0:Int),(0:Int))=(((0:Nat):Int),(0:Int),(0:Int)) from rfl,q1,q2]
theorem Yq (t:bK):∃ b,cN t=some b∧jH t=some b∧(b=true→(0≤t.Gap∧t.Gap≤14400)∧(0≤t.bF∧t.bF≤14400)):=by
 obtain ⟨b,h1,h2⟩:=Ja t
 refine ⟨b,h1,h2,fun hb=>?_⟩
 subst hb
 unfold cN at h1
 simp only [xL,Option.bind_some] at h1
 by_cases h:0≤t.Gap∧t.Gap≤14400
 ·refine ⟨h, ?_⟩
  simpa [h] using h1
 ·simp [h] at h1
theorem NA (x:List aE) (hx:x.length≤1000) (out0:List aR) (h0:out0.length≤100000):aL (pT x) (0,out0)=some (out0++x.map fun r=>⟨r,0,false⟩):=by
 obtain ⟨a,q1,q2⟩:=kL x (fun k (s:List aR)=>((k:Int),s)) (pT x) (fun s=>s) (fun k s=>s=out0++(x.take k).map fun r=>⟨r,0,false⟩) out0 (by simp)
  (fun k r s hr hI=>by
   have hk:=bL hr
   have hd:decide ((k:Int)<(x.length:Int))=true:=by simp [hk]
   unfold pT
   simp only [hd,if_true,bB hr,Option.bind_some,bJ k (by omega)]
   rw [iR (by rw [hI];simp [LIM];omega)]
   refine ⟨_,rfl, ?_⟩
   rw [iT hr,hI];simp) (fun s _=>by simp [pT])
 rw [List.take_length] at q2
 rw [show ((0:Int),out0)=(((0:Nat):Int),out0) from rfl,q1,q2]
theorem UF (s:aZ) (h1:s.aT.length≤1000) (h2:s.Used.length≤1000):aL (iB s) (0,[])=some ((s.aT++s.Used).map fun r=>⟨r,0,false⟩):=by
 have i0:idx [s.aT,s.Used] 0=some s.aT:=rfl
 have i1:idx [s.aT,s.Used] 1=some s.Used:=rfl
 have d0:decide ((0:Int)<(([s.aT,s.Used]:List (List aE)).length:Int))=true:=rfl
 have d1:decide ((1:Int)<(([s.aT,s.Used]:List (List aE)).length:Int))=true:=rfl
 have d2:decide ((2:Int)<(([s.aT,s.Used]:List (List aE)).length:Int))=false:=rfl
 have s0:iB s (0,[])=some (.inl (1,s.aT.map fun r=>⟨r,0,false⟩)):=by
  unfold iB
  simp only [i0,d0,if_true,Option.bind_some,NA s.aT h1 [] (by simp),List.nil_append]
  rfl
 have s1:iB s (1,s.aT.map fun r=>⟨r,0,false⟩)=some (.inl (2,(s.aT.map fun r=>(⟨r,0,false⟩:aR))++s.Used.map fun r=>⟨r,0,false⟩)):=by
  unfold iB
  simp only [i1,d1,if_true,Option.bind_some,NA s.Used h2 _ (show (s.aT.map fun r=>(⟨r,0,false⟩:aR)).length≤100000 by rw [List.length_map];omega)]
  rfl
 have s2:∀ o,iB s (2,o)=some (.inr o):=fun o=>by
  unfold iB
  simp only [d2,Bool.false_eq_true,if_false]
 rw [eW s0,eW s1,cM (s2 _),List.map_append]
theorem UG (t:bK) (x:List aE) (hx:x.length≤1000) (hv:∀ r ∈ x,vR r) (out0:List aR) (h0:out0.length≤100000):aL (pU t x) (0,out0)=some (out0++x.map fun r=>⟨r,t.Gap,t.jS⟩):=by
 obtain ⟨a,q1,q2⟩:=kL x (fun k (s:List aR)=>((k:Int),s)) (pU t x) (fun s=>s) (fun k s=>s=out0++(x.take k).map fun r=>⟨r,t.Gap,t.jS⟩) out0 (by simp)
  (fun k r s hr hI=>by
   have hk:=bL hr
   have hd:decide ((k:Int)<(x.length:Int))=true:=by simp [hk]
   have vr:=hv r (List.mem_of_getElem? hr)
   unfold pU uY
   simp only [hd,if_true,bB hr,Option.bind_some,iF,vr,decide_true,bJ k (by omega)]
   rw [iR (by rw [hI];simp [LIM];omega)]
   refine ⟨_,rfl, ?_⟩
   rw [iT hr,hI];simp) (fun s _=>by simp [pU])
 rw [List.take_length] at q2
 rw [show ((0:Int),out0)=(((0:Nat):Int),out0) from rfl,q1,q2]
theorem UA {taken:List (List aE)} (h12:∀ x ∈ taken,x.length≤12):taken.flatten.length≤12*taken.length:=by
 induction taken with
 | nil=>simp
 | cons x t ih =>
   have h1:=ih fun y hy=>h12 y (List.mem_cons_of_mem _ hy)
   have h2:=h12 x List.mem_cons_self
   rw [List.flatten_cons,List.length_append,List.length_cons];omega
theorem Zs {s:aZ} {taken:List (List aE)} {t:bK} (h1:s.aT.length≤4) (h2:s.Used.length≤48) (hl:taken.length≤8) (h12:∀ x ∈ taken,x.length≤12) (hv:∀ x ∈ taken,∀ r ∈ x,vR r) :
  yY s taken t=some ((s.aT++s.Used).map (fun r=>⟨r,0,false⟩)++taken.flatten.map fun r=>⟨r,t.Gap,t.jS⟩):=by
 unfold yY
 rw [UF s (by omega) (by omega)]
 simp only [Option.bind_some]
 obtain ⟨a,q1,q2,q3⟩:=kL taken (fun k (o:List aR)=>((k:Int),o)) (uZ taken t) (fun o=>o) (fun k o=>o=((s.aT++s.Used).map fun r=>(⟨r,0,false⟩:aR))++(taken.take k).flatten.map (fun r=>⟨r,t.Gap,t.jS⟩)∧o.length≤52+12*k) ((s.aT++s.Used).map fun r=>⟨r,0,false⟩) ⟨by simp,by rw [List.length_map,List.length_append];omega⟩
  (fun k x o hx hI=>by
   have hk:=bL hx
   have hd:decide ((k:Int)<(taken.length:Int))=true:=by simp [hk]
   obtain ⟨i1,i2⟩:=hI
   have hxm:=List.mem_of_getElem? hx
   have hx12:=h12 x hxm
   unfold uZ
   simp only [hd,if_true,bB hx,Option.bind_some,UG t x (by omega) (hv x hxm) o (by omega),bJ k (by omega)]
   refine ⟨_,rfl, ?_,by simp only [List.length_append,List.length_map];omega⟩
   rw [iT hx,List.flatten_append,i1];simp) (fun o _=>by simp [uZ])
 rw [List.take_length] at q2
 rw [show ((0:Int),(s.aT++s.Used).map fun r=>(⟨r,0,false⟩:aR))=(((0:Nat):Int),(s.aT++s.Used).map fun r=>(⟨r,0,false⟩:aR)) from rfl,q1,q2]
 rfl
def BW (taken:List (List aE)):Bool:=taken.any fun x=>decide (x.length>12)
def KZ (taken:List (List aE)):Bool:=taken.any fun x=>x.any fun r=>!decide (vR r)
theorem PH (taken:List (List aE)):Bk taken=some (if taken.length>8 then 4 else if BW taken then 4 else if KZ taken then 1 else 0):=by
 unfold Bk
 by_cases h8:taken.length>8
 ·have:(taken.length:Int)>8:=by omega
  simp [h8,this]
 have h8':¬ (taken.length:Int)>8:=by omega
 simp only [h8,h8',decide_false,Bool.false_eq_true,if_false]
 have e1:aL (rS taken) 0=some (if BW taken then .inl () else .inr ()):=by
  refine dH taken (rS taken) (fun k=>(k:Int)) (fun x=>decide (x.length>12)) _ _ rfl (fun k x hx=>?_) ?_
  ·have hk:=bL hx
   have hd:decide ((k:Int)<(taken.length:Int))=true:=by simp [hk]
   unfold rS
   simp only [hd,if_true,bB hx,Option.bind_some,bJ k (by omega)]
   by_cases c:x.length>12
   ·have:(x.length:Int)>12:=by omega
    simp [c,this]
   ·have:¬ (x.length:Int)>12:=by omega
    simp [c,this]
  ·simp [rS]
 rw [e1,Option.bind_some]
 cases hL:BW taken with
 | true=>rfl
 | false =>
   have h12:∀ x ∈ taken,x.length≤12:=fun x hx=>by
    have:=List.any_eq_false.1 hL x hx
    simpa using this
   have e2:aL (rU taken) 0=some (if KZ taken then .inl () else .inr ()):=by
    refine dH taken (rU taken) (fun k=>(k:Int)) (fun x=>x.any fun r=>!decide (vR r)) _ _ rfl (fun k x hx=>?_) ?_
    ·have hk:=bL hx
     have hd:decide ((k:Int)<(taken.length:Int))=true:=by simp [hk]
     have:=h12 x (List.mem_of_getElem? hx)
     unfold rU
     simp only [hd,if_true,bB hx,Option.bind_some,eV x (by omega),bJ k (by omega),Bool.not_not]
    ·simp [rU]
   simp only [Bool.false_eq_true,if_false,e2,Option.bind_some]
   cases KZ taken <;> rfl
def upd (st:Bool×Int×Int×Int) (n:Int) (o:Option (Int×Int)):Bool×Int×Int×Int:=match o with
 | none=>st
 | some p=>if st.1=false∨p.2<st.2.2.1∨(p.2=st.2.2.1∧p.1<st.2.1) then (true,p.1,p.2,n) else st
def wJ (P:Nat→Option (Int×Int)) (k:Nat):Bool×Int×Int×Int:=(List.range k).foldl (fun st (n:Nat)=>upd st (n:Int) (P n)) (false,0,0,0)
theorem Rp (P:Nat→Option (Int×Int)) (k:Nat):wJ P (k+1)=upd (wJ P k) (k:Int) (P k):=by
 unfold wJ;rw [List.range_succ,List.foldl_append];rfl
structure Up (x:aQ) (s:aZ) (obs:List (aE×Int×Bool)) (m:Int) (P:Nat→Option (Int×Int)):Prop where
 al:∀ n:Nat,n<4→kA x s (n:Int)=some true→Lst (Fe (trn n x.aD x.aD) obs m (s.bI-m-Kt (trn n x.aD x.aD)) (s.aY-m-Ks (trn n x.aD x.aD))) (P n)
 no:∀ n:Nat,n<4→kA x s (n:Int)=some false→P n=none
theorem Up.same {x:aQ} {s:aZ} {obs:List (aE×Int×Bool)} {m:Int} {P P':Nat→Option (Int×Int)} (h:Up x s obs m P) (h':Up x s obs m P'):∀ n,n<4→P n=P' n:=fun n hn=>by
 obtain ⟨b,h1,_⟩:=Ga x s (n:Int)
 cases b with
 | true=>exact DX (h.al n hn h1) (h'.al n hn h1)
 | false=>rw [h.no n hn h1,h'.no n hn h1]
theorem Zy {x:aQ} (hx:aX x=some 0) (n:Nat) (hn:n≤3) :
  (∃ a b c d e f g h i j,vN x ⟨0,0,0,0,(n:Int)⟩=some (⟨a,b,c,d,trn n x.aD x.aD,e,f⟩,0,g,h,i,j))  ∧
   (∀ r ∈ trn n x.aD x.aD,vR r∧0≤r.X∧0≤r.Y)∧(trn n x.aD x.aD).length≤12∧0<(trn n x.aD x.aD).length:=by
 obtain ⟨z,hz,_,hv⟩:=Bw x
 have h:=hv (Option.some.inj (hz.symm.trans hx))
 have g1:Good 0 0 x.aD:=⟨h.n1,h.v1⟩
 obtain ⟨p1,_⟩:=Yw hx n hn
 obtain ⟨r,t,hc⟩:∃ r t,tq n x.aD=r::t:=by
  cases e:tq n x.aD with
  | nil=>exact absurd e (HE n h.n0)
  | cons r t=>exact ⟨r,t,rfl⟩
 obtain ⟨⟨lx1,lx2,lx3,lx4⟩,ly1,ly2,ly3,ly4⟩:=Wa (g1.tq n) hc
 have k1:=xA (g1.tq n) ⟨lx1,lx2⟩ ⟨ly1,ly2⟩ ⟨lx3,lx4⟩ ⟨ly3,ly4⟩
 have hlo:lo (tq n x.aD)=(nX (tq n x.aD) r.X,nY (tq n x.aD) r.Y):=by
  rw [show lo (tq n x.aD)=lo (r::t) by rw [hc],lo,hc]
 have e0:=Ov (g1.tq n) ⟨lx3,lx4⟩ ⟨ly3,ly4⟩
 have e1:trn n x.aD x.aD=(tq n x.aD).map (trR (-(nX (tq n x.aD) r.X)) (-(nY (tq n x.aD) r.Y))):=by unfold trn nrm;rw [hlo]
 have hlen:(trn n x.aD x.aD).length=x.aD.length:=by rw [e1,List.length_map,Gs]
 refine ⟨?_,fun q hq=>?_,by rw [hlen];exact h.n1,by rw [hlen];exact h.n0⟩
 ·unfold lM at p1
  simp only [hx,Option.bind_some,bne_self_eq_false,Bool.false_eq_true,if_false,xL,show (0≤(n:Int)∧(n:Int)≤3) by omega,show ((-1048576:Int)≤0∧(0:Int)≤1048576) by omega,and_self,decide_true,Bool.not_true,if_true] at p1
  cases e:vN x ⟨0,0,0,0,(n:Int)⟩ with
  | none=>rw [e] at p1;cases p1
  | some v =>
    rw [e] at p1
    obtain ⟨v1,v2,v3,v4,v5,v6⟩:=v
    simp only [Option.bind_some,Option.some.injEq,Prod.mk.injEq] at p1
    obtain ⟨w1,w2,w3,w4,w5,w6⟩:=p1
    have w1':v1=(⟨x.Name,x.aW,x.bQ,x.bM,trn n x.aD x.aD,trn n x.aD x.bU,trn n x.aD x.Forms⟩:aQ):=w1
    subst w1' w2
    exact ⟨_,_,_,_,_,_,_,_,_,_,rfl⟩
 ·have v:=(k1.2 q (by rw [e0,← e1];exact hq)).1
  refine ⟨v, ?_, ?_⟩
  ·rw [e1] at hq
   obtain ⟨a,ha,rfl⟩:=List.mem_map.1 hq
   have:=(Qn (l:=tq n x.aD) (g:=fun r=>r.X) (a:=r.X)).2 a ha
   show 0≤a.X+-(nX (tq n x.aD) r.X)
   unfold nX
   omega
  ·rw [e1] at hq
   obtain ⟨a,ha,rfl⟩:=List.mem_map.1 hq
   have:=(Qn (l:=tq n x.aD) (g:=fun r=>r.Y) (a:=r.Y)).2 a ha
   show 0≤a.Y+-(nY (tq n x.aD) r.Y)
   unfold nY
   omega
theorem LY {x:aQ} {s:aZ} {t:bK} {obs:List aR} (hx:aX x=some 0) (hw:1≤s.bI∧s.bI≤1048576) (hh:1≤s.aY∧s.aY≤1048576) (hm:0≤t.bF∧t.bF≤14400) (h1:0≤s.bI-2*t.bF) (h2:0≤s.aY-2*t.bF) (ob:∀ o ∈ obs,BO o) (ol:obs.length≤1000) (n:Nat) (hn:n<4) :
  ∃ o:Option (Int×Int),(kA x s (n:Int)=some true→Lst (Fe (trn n x.aD x.aD) (EB obs) t.bF (s.bI-t.bF-Kt (trn n x.aD x.aD)) (s.aY-t.bF-Ks (trn n x.aD x.aD))) o)∧(kA x s (n:Int)=some false→o=none) ∧
    ∀ st:Bool×Int×Int×Int,wA s x (⟨t.bF,t.bF,s.bI-2*t.bF,s.aY-2*t.bF⟩,true) obs (st.1,(n:Int),st.2.1,st.2.2.1,st.2.2.2)=some (.inl ((upd st (n:Int) o).1,((n+1:Nat):Int),(upd st (n:Int) o).2.1,(upd st (n:Int) o).2.2.1,(upd st (n:Int) o).2.2.2)):=by
 obtain ⟨b,hb,_⟩:=Ga x s (n:Int)
 have hd:decide ((n:Int)<4)=true:=by simp;omega
 cases b with
 | false =>
   refine ⟨none,fun q=>(by rw [hb] at q;cases q),fun _=>rfl,fun st=>?_⟩
   unfold wA yA
   simp only [hd,if_true,hb,Option.bind_some,Bool.not_false,bJ n (by omega),upd]
 | true =>
   obtain ⟨⟨a,b,c,d,e,f,g,h,i,j,p1⟩,p3,p4,p5⟩:=Zy hx n (by omega)
   have hv:∀ r ∈ trn n x.aD x.aD,vR r:=fun r hr=>(p3 r hr).1
   have bw:=QZ hv
   have bh:=QY hv
   have bs:BS (fE.mk (trn n x.aD x.aD) obs ⟨t.bF,t.bF,s.bI-2*t.bF,s.aY-2*t.bF⟩ (Kt (trn n x.aD x.aD)) (Ks (trn n x.aD x.aD))):=⟨hv,p4,ob,ol⟩
   obtain ⟨o,o1,o2⟩:=NP bs hm rfl rfl (show 0≤s.bI-2*t.bF∧s.bI-2*t.bF≤1048576 by omega) (show 0≤s.aY-2*t.bF∧s.aY-2*t.bF≤1048576 by omega) (show 0≤Kt (trn n x.aD x.aD)∧Kt (trn n x.aD x.aD)≤4194304 by omega) (show 0≤Ks (trn n x.aD x.aD)∧Ks (trn n x.aD x.aD)≤4194304 by omega)
   simp only at o1
   rw [show t.bF+(s.bI-2*t.bF)-Kt (trn n x.aD x.aD)=s.bI-t.bF-Kt (trn n x.aD x.aD) by omega,show t.bF+(s.aY-2*t.bF)-Ks (trn n x.aD x.aD)=s.aY-t.bF-Ks (trn n x.aD x.aD) by omega] at o1
   refine ⟨o,fun _=>o1,fun q=>(by rw [hb] at q;cases q),fun st=>?_⟩
   have pm:=JH (⟨a,b,c,d,trn n x.aD x.aD,e,f⟩,0,g,h,i,j) (show (trn n x.aD x.aD).length≤1000 by omega) hv
   unfold wA yA
   simp only [hd,if_true,hb,Option.bind_some,Bool.not_true,Bool.false_eq_true,if_false,p1,bne_self_eq_false,pm,o2,bJ n (by omega)]
   cases o with
   | none=>simp [upd]
   | some p =>
     obtain ⟨f0,x0,y0,t0⟩:=st
     simp only [upd,if_true]
     cases f0 with
     | false=>simp
     | true =>
       by_cases c1:p.2<y0
       ·simp [c1]
       ·by_cases c2:p.2=y0
        ·by_cases c3:p.1<x0 <;> simp [c2,c3]
        ·simp [c1,c2]
theorem LX {x:aQ} {s:aZ} {r:aE×Bool} {obs:List aR} {P:Nat→Option (Int×Int)}
  (h:∀ n:Nat,n<4→∀ st:Bool×Int×Int×Int,wA s x r obs (st.1,(n:Int),st.2.1,st.2.2.1,st.2.2.2)=some (.inl ((upd st (n:Int) (P n)).1,((n+1:Nat):Int),(upd st (n:Int) (P n)).2.1,(upd st (n:Int) (P n)).2.2.1,(upd st (n:Int) (P n)).2.2.2))) :
  aL (wA s x r obs) (false,0,0,0,0)=some ((wJ P 4).1,(wJ P 4).2.1,(wJ P 4).2.2.1,(wJ P 4).2.2.2):=by
 obtain ⟨a,q1,q2⟩:=kL (List.range 4) (fun k (st:Bool×Int×Int×Int)=>(st.1,(k:Int),st.2.1,st.2.2.1,st.2.2.2)) (wA s x r obs) (fun st=>(st.1,st.2.1,st.2.2.1,st.2.2.2)) (fun k st=>st=wJ P k) (false,0,0,0) rfl
  (fun k n st hk hI=>by
   have hk4:=bL hk
   rw [List.length_range] at hk4
   exact ⟨_,h k hk4 st,by rw [Rp,hI]⟩) (fun st _=>by simp [wA])
 rw [show ((false,(0:Int),(0:Int),(0:Int),(0:Int)):Bool×Int×Int×Int×Int)=(false,((0:Nat):Int),0,0,0) from rfl]
 exact q1.trans (by rw [q2];rfl)
theorem QC {Q:Nat→Option (Int×Int)→Prop} (H:∀ n:Nat,n<4→∃ o,Q n o):∃ P:Nat→Option (Int×Int),∀ n:Nat,n<4→Q n (P n):=by
 refine ⟨fun n=>if hn:n<4 then Classical.choose (H n hn) else none,fun n hn=>?_⟩
 simp only [hn,dite_true]
 exact Classical.choose_spec (H n hn)
theorem UE (s:aZ) (taken:List (List aE)) (t:bK):EB ((s.aT++s.Used).map (fun r=>(⟨r,0,false⟩:aR))++taken.flatten.map fun r=>⟨r,t.Gap,t.jS⟩)=Zr (s.aT++s.Used) taken.flatten t:=by
 unfold EB Zr
 rw [List.map_append,List.map_map,List.map_map];rfl
theorem MK {s:aZ} {m:Int} (hs:VS s) (hm:0≤m∧m≤14400):gO s m=some (⟨m,m,s.bI-2*m,s.aY-2*m⟩,decide (0<s.bI-2*m∧0<s.aY-2*m)):=by
 have hw:=hs.w;have hh:=hs.h
 unfold gO
 have e0:cK 2 m=2*m:=tJ (by omega) (by omega)
 rw [e0,bE (by omega) (by omega),bE (by omega) (by omega),iF]
 simp only [Option.bind_some]
 congr 2
 exact decide_eq_decide.2 (by unfold vR;simp only;omega)
theorem CT {x:aQ} (hx:aX x=some 0) {n:Nat} (hn:n<4):1≤Kt (trn n x.aD x.aD)∧1≤Ks (trn n x.aD x.aD):=by
 obtain ⟨_,p3,p4,p5⟩:=Zy hx n (by omega)
 obtain ⟨r,hr⟩:=List.exists_mem_of_ne_nil _ (List.length_pos_iff.1 p5)
 obtain ⟨v,x0,y0⟩:=p3 r hr
 unfold vR at v
 have h1:=(foldl_max (l:=trn n x.aD x.aD) (g:=fun r=>r.X+r.W) (a:=0)).2 r hr
 have h2:=(foldl_max (l:=trn n x.aD x.aD) (g:=fun r=>r.Y+r.H) (a:=0)).2 r hr
 unfold Kt Ks
 omega
theorem AK {s:aZ} {taken:List (List aE)} {x:aQ} {t:bK} (hs:bC s=some 0) (vx:aX x=some 0) (tl:taken.length≤8) (t12:∀ l ∈ taken,l.length≤12) (tv:∀ l ∈ taken,∀ r ∈ l,vR r) (ht:cN t=some true) :
  VS s∧(0≤t.Gap∧t.Gap≤14400)∧(0≤t.bF∧t.bF≤14400)∧∃ P,Up x s (Zr (s.aT++s.Used) taken.flatten t) t.bF P ∧
   (∃ u1 u2 u3,Mk s taken x t=some (⟨0,0,(wJ P 4).2.1,(wJ P 4).2.2.1,(wJ P 4).2.2.2⟩,(wJ P 4).1,0,u1,u2,u3)):=by
 obtain ⟨a,a1,_,a3⟩:=Bx s
 obtain ⟨c,c1,_,c3⟩:=Yq t
 have ha:a=0:=Option.some.inj (a1.symm.trans hs)
 have hc:c=true:=Option.some.inj (c1.symm.trans ht)
 subst ha hc
 obtain ⟨cg,cm⟩:=c3 rfl
 have vs:=a3 rfl
 have n1:=vs.n1;have n2:=vs.n2
 have lf:=UA t12
 have sv:∀ r ∈ taken.flatten,vR r:=fun r hr=>by
  obtain ⟨l,hl,hr⟩:=List.mem_flatten.1 hr
  exact tv l hl r hr
 have hbad:KZ taken=false:=by
  unfold KZ
  rw [List.any_eq_false];intro l hl h
  obtain ⟨r,hr,h⟩:=List.any_eq_true.1 h
  rw [decide_eq_true (tv l hl r hr)] at h;cases h
 have hL:BW taken=false:=by
  unfold BW
  rw [List.any_eq_false];intro l hl;have:=t12 l hl;simp;omega
 have h8:¬ taken.length>8:=by omega
 refine ⟨vs,cg,cm, ?_⟩
 unfold Mk
 simp only [a1,PH,h8,hL,hbad,vx,c1,MK vs cm,Option.bind_some,bne_self_eq_false,Bool.false_eq_true,if_false,Bool.not_true]
 by_cases hi:0<s.bI-2*t.bF∧0<s.aY-2*t.bF
 ·have ol:(((s.aT++s.Used).map (fun r=>(⟨r,0,false⟩:aR))++taken.flatten.map fun r=>(⟨r,t.Gap,t.jS⟩:aR))).length≤1000:=by
   simp only [List.length_append,List.length_map];omega
  have ob:∀ o ∈ ((s.aT++s.Used).map (fun r=>(⟨r,0,false⟩:aR))++taken.flatten.map fun r=>(⟨r,t.Gap,t.jS⟩:aR)),BO o:=fun o ho=>by
   rcases List.mem_append.1 ho with q | q
   ·obtain ⟨r,hr,rfl⟩:=List.mem_map.1 q
    exact ⟨vs.v r hr,show (0:Int)≤0∧(0:Int)≤14400 by omega⟩
   ·obtain ⟨r,hr,rfl⟩:=List.mem_map.1 q
    exact ⟨sv r hr,cg⟩
  obtain ⟨P,hP⟩:=QC (fun n hn=>LY vx vs.w vs.h cm (by omega) (by omega) ob ol n hn)
  have T:Up x s (Zr (s.aT++s.Used) taken.flatten t) t.bF P:=⟨fun n hn=>by rw [← UE];exact (hP n hn).1,fun n hn=>(hP n hn).2.1⟩
  have fP:=LX (fun n hn=>(hP n hn).2.2)
  simp only [hi,and_self,decide_true,Bool.not_true,Bool.false_eq_true,if_false,Zs n1 n2 tl t12 tv,Option.bind_some,fP]
  exact ⟨P,T,_,_,_,rfl⟩
 ·simp only [hi,decide_false,Bool.not_false,if_true]
  refine ⟨fun _=>none,⟨fun n hn _ u v q=>hi ?_,fun _ _ _=>rfl⟩,_,_,_,rfl⟩
  obtain ⟨w1,w2⟩:=CT vx hn
  have:=q.1;have:=q.2.1;have:=q.2.2.1;have:=q.2.2.2.1
  omega
structure TP (x:aQ) (n:Nat):Prop where
 q:Ck ⟨x.aD,x.bU,x.Forms,[]⟩ (n:Int)=some (⟨trn n x.aD x.aD,trn n x.aD x.bU,trn n x.aD x.Forms,[]⟩,0)
 n1:(trn n x.aD x.aD).length≤12
 n0:0<(trn n x.aD x.aD).length
 n2:(trn n x.aD x.bU).length≤12
 n3:(trn n x.aD x.Forms).length≤12
 v1:∀ r ∈ trn n x.aD x.aD,vR r∧0≤r.X∧0≤r.Y
 v2:∀ c ∈ trn n x.aD x.bU++trn n x.aD x.Forms,vR c∧∃ r ∈ trn n x.aD x.aD,r.X≤c.X∧r.Y≤c.Y∧c.X+c.W≤r.X+r.W∧c.Y+c.H≤r.Y+r.H
 c0:(∃ r ∈ trn n x.aD x.aD,r.X=0)∧∃ r ∈ trn n x.aD x.aD,r.Y=0
theorem TC {x:aQ} (hx:aX x=some 0) {n:Nat} (hn:n≤3):TP x n:=by
 obtain ⟨z,hz,_,hv⟩:=Bw x
 have h:=hv (Option.some.inj (hz.symm.trans hx))
 obtain ⟨_,p2⟩:=Yw hx n hn
 obtain ⟨_,p3,p4,p5⟩:=Zy hx n hn
 obtain ⟨_,_,_,vg⟩:=Wh p2
 simp only at vg
 have g1:Good 0 0 x.aD:=⟨h.n1,h.v1⟩
 have g2:Good 0 0 x.bU:=⟨h.n2,h.v2⟩
 have g3:Good 0 0 x.Forms:=⟨h.n3,h.v3⟩
 obtain ⟨r,t,hc⟩:∃ r t,tq n x.aD=r::t:=by
  cases e:tq n x.aD with
  | nil=>exact absurd e (HE n h.n0)
  | cons r t=>exact ⟨r,t,rfl⟩
 obtain ⟨⟨lx1,lx2,lx3,lx4⟩,ly1,ly2,ly3,ly4⟩:=Wa (g1.tq n) hc
 have hlo:lo (tq n x.aD)=(nX (tq n x.aD) r.X,nY (tq n x.aD) r.Y):=by
  rw [show lo (tq n x.aD)=lo (r::t) by rw [hc],lo,hc]
 have hQ:=Oy h n hn hc
 rw [Ov (g1.tq n) ⟨lx3,lx4⟩ ⟨ly3,ly4⟩,Ov (g2.tq n) ⟨lx3,lx4⟩ ⟨ly3,ly4⟩,Ov (g3.tq n) ⟨lx3,lx4⟩ ⟨ly3,ly4⟩] at hQ
 have e1:trn n x.aD x.aD=(tq n x.aD).map (trR (-(nX (tq n x.aD) r.X)) (-(nY (tq n x.aD) r.Y))):=by unfold trn nrm;rw [hlo]
 have e2:trn n x.aD x.bU=(tq n x.bU).map (trR (-(nX (tq n x.aD) r.X)) (-(nY (tq n x.aD) r.Y))):=by unfold trn nrm;rw [hlo]
 have e3:trn n x.aD x.Forms=(tq n x.Forms).map (trR (-(nX (tq n x.aD) r.X)) (-(nY (tq n x.aD) r.Y))):=by unfold trn nrm;rw [hlo]
 rw [← e1,← e2,← e3] at hQ
 refine ⟨hQ,p4,p5,vg.n2,vg.n3,p3,fun c hc'=>?_, ?_, ?_⟩
 ·have vc:=vg.v c (List.mem_append_right _ hc')
  obtain ⟨k,hk⟩:=List.mem_iff_getElem?.1 hc'
  obtain ⟨y,h1,h2,_⟩:=vg.ho k (bL hk)
  rw [hk] at h1;injection h1 with h1;subst h1
  obtain ⟨r',hr',hd⟩:=List.any_eq_true.1 h2
  have vr:=(p3 r' hr').1
  rw [Lx vc vr,decide_eq_true_eq] at hd
  exact ⟨vc,r',hr',by omega,by omega,by omega,by omega⟩
 ·rcases Nf (l:=tq n x.aD) (g:=fun r=>r.X) (a:=r.X) with q | ⟨b,hb,q⟩
  ·exact ⟨trR (-(nX (tq n x.aD) r.X)) (-(nY (tq n x.aD) r.Y)) r,by rw [e1];exact List.mem_map_of_mem (by rw [hc];exact List.mem_cons_self),by show r.X+-(nX (tq n x.aD) r.X)=0;unfold nX;rw [q];omega⟩
  ·exact ⟨trR (-(nX (tq n x.aD) r.X)) (-(nY (tq n x.aD) r.Y)) b,by rw [e1];exact List.mem_map_of_mem hb,by show b.X+-(nX (tq n x.aD) r.X)=0;unfold nX;rw [q];omega⟩
 ·rcases Nf (l:=tq n x.aD) (g:=fun r=>r.Y) (a:=r.Y) with q | ⟨b,hb,q⟩
  ·exact ⟨trR (-(nX (tq n x.aD) r.X)) (-(nY (tq n x.aD) r.Y)) r,by rw [e1];exact List.mem_map_of_mem (by rw [hc];exact List.mem_cons_self),by show r.Y+-(nY (tq n x.aD) r.Y)=0;unfold nY;rw [q];omega⟩
  ·exact ⟨trR (-(nX (tq n x.aD) r.X)) (-(nY (tq n x.aD) r.Y)) b,by rw [e1];exact List.mem_map_of_mem hb,by show b.Y+-(nY (tq n x.aD) r.Y)=0;unfold nY;rw [q];omega⟩
theorem MW {l:List aE} (h:∀ r ∈ l,vR r) {x y:Int} (hx : -1048576≤x∧x≤1048576) (hy : -1048576≤y∧y≤1048576):l.map (mvR x y)=l.map (trR x y):=by
 refine List.map_congr_left fun r hr=>?_
 have hv:=h r hr
 unfold vR at hv
 unfold mvR trR
 rw [aP (by omega) (by omega),aP (by omega) (by omega)]
theorem GM {x:aQ} (hx:aX x=some 0) {n:Nat} (hn:n≤3) (p:aS) (ht:p.zK=n) (px : -1048576≤p.X∧p.X≤1048576) (py : -1048576≤p.Y∧p.Y≤1048576) :
  ∃ q c u1 u2 u3 u4,vN x p=some (q,c,u1,u2,u3,u4)∧lM x p=some (q,c,q.Name,q.aW,q.bQ,q.bM)∧((∀ r ∈ trn n x.aD x.aD,vR (trR p.X p.Y r))→c=0)∧(c=0→q.aD=(trn n x.aD x.aD).map (trR p.X p.Y)∧(∀ r ∈ trn n x.aD x.aD,vR (trR p.X p.Y r))∧q.aW=x.aW∧q.bQ=x.bQ∧q.bM=x.bM)∧q.aD.length≤12:=by
 have tp:=TC hx hn
 have a1:=tp.n1;have a2:=tp.n2;have a3:=tp.n3
 have v2:∀ c ∈ trn n x.aD x.bU,vR c:=fun c hc=>(tp.v2 c (List.mem_append_left _ hc)).1
 have v3:∀ c ∈ trn n x.aD x.Forms,vR c:=fun c hc=>(tp.v2 c (List.mem_append_right _ hc)).1
 have m1:(trn n x.aD x.aD).map (mvR p.X p.Y)=(trn n x.aD x.aD).map (trR p.X p.Y):=MW (fun r hr=>(tp.v1 r hr).1) px py
 have m2:(trn n x.aD x.bU).map (mvR p.X p.Y)=(trn n x.aD x.bU).map (trR p.X p.Y):=MW v2 px py
 have m3:(trn n x.aD x.Forms).map (mvR p.X p.Y)=(trn n x.aD x.Forms).map (trR p.X p.Y):=MW v3 px py
 have hP:lM x p=(vN x p).bind fun r=>some (r.1,r.2.1,r.1.Name,r.1.aW,r.1.bQ,r.1.bM):=by
  unfold lM
  simp only [hx,Option.bind_some,bne_self_eq_false,Bool.false_eq_true,if_false,xL,ht,show (0≤(n:Int)∧(n:Int)≤3) by omega,px,py,and_self,decide_true,Bool.not_true,if_true]
 have inside:∀ c ∈ trn n x.aD x.bU++trn n x.aD x.Forms,(∀ r ∈ trn n x.aD x.aD,vR (trR p.X p.Y r))→vR (trR p.X p.Y c):=fun c hc hr=>by
  obtain ⟨w1,r,hr',w2,w3,w4,w5⟩:=tp.v2 c hc
  have:=hr r hr'
  unfold vR trR at this
  unfold vR at w1
  unfold vR trR
  simp only at this ⊢
  omega
 have key:vN x p=some (if (∀ r ∈ trn n x.aD x.aD,vR (trR p.X p.Y r)) then (⟨x.Name,x.aW,x.bQ,x.bM,(trn n x.aD x.aD).map (trR p.X p.Y),(trn n x.aD x.bU).map (trR p.X p.Y),(trn n x.aD x.Forms).map (trR p.X p.Y)⟩,0,x.Name,x.aW,x.bQ,x.bM) else (⟨ByteArray.empty,ByteArray.empty,0,0,[],[],[]⟩,4,ByteArray.empty,ByteArray.empty,0,0)):=by
  have any_:∀ l:List aE,(l.map (trR p.X p.Y)).any (fun x=>!decide (vR x))=!decide (∀ r ∈ l,vR (trR p.X p.Y r)):=fun l=>by
   rw [Bool.eq_iff_iff,List.any_eq_true]
   simp only [Bool.not_eq_true',decide_eq_false_iff_not]
   constructor
   ·rintro ⟨y,hy,hv⟩ h
    obtain ⟨r,hr,rfl⟩:=List.mem_map.1 hy
    exact hv (h r hr)
   ·intro h
    refine Classical.byContradiction fun q=>h fun r hr=>Classical.byContradiction fun w=>q ⟨_,List.mem_map_of_mem hr,w⟩
  unfold vN
  rw [ht,tp.q]
  simp only [Option.bind_some,bne_self_eq_false,Bool.false_eq_true,if_false,Cv a1,Cv a2,Cv a3,m1,m2,m3]
  rw [eV _ (by rw [List.length_map];omega),eV _ (by rw [List.length_map];omega),eV _ (by rw [List.length_map];omega)]
  simp only [Option.bind_some,any_,Bool.not_not]
  by_cases hc:∀ r ∈ trn n x.aD x.aD,vR (trR p.X p.Y r)
  ·have hc2:∀ r ∈ trn n x.aD x.bU,vR (trR p.X p.Y r):=fun c h=>inside c (List.mem_append_left _ h) hc
   have hc3:∀ r ∈ trn n x.aD x.Forms,vR (trR p.X p.Y r):=fun c h=>inside c (List.mem_append_right _ h) hc
   simp only [decide_eq_true hc,decide_eq_true hc2,decide_eq_true hc3,if_true,if_pos hc,Option.bind_some,Bool.not_true,Bool.false_eq_true,if_false]
  ·simp only [decide_eq_false hc,if_neg hc,Bool.false_eq_true,if_false,Bool.not_false,if_true,Option.bind_some]
 by_cases hc:∀ r ∈ trn n x.aD x.aD,vR (trR p.X p.Y r)
 ·rw [if_pos hc] at key
  exact ⟨_,_,_,_,_,_,key,by rw [hP,key];rfl,fun _=>rfl,fun _=>⟨rfl,hc,rfl,rfl,rfl⟩,by simp only [List.length_map];exact a1⟩
 ·rw [if_neg hc] at key
  exact ⟨_,_,_,_,_,_,key,by rw [hP,key];rfl,fun q=>absurd q hc,fun q=>absurd q (by decide),by simp⟩
theorem LV {x:aQ} (hx:aX x=some 0) {n:Nat} (hn:n≤3) {s:aZ} (vs:VS s) {taken:List (List aE)} (tv:∀ l ∈ taken,∀ r ∈ l,vR r) {t:bK} (hg:0≤t.Gap∧t.Gap≤14400) (hm:0≤t.bF∧t.bF≤14400) {X Y:Int} (hX : -1048576≤X∧X≤1048576) (hY : -1048576≤Y∧Y≤1048576) :
  Fe (trn n x.aD x.aD) (Zr (s.aT++s.Used) taken.flatten t) t.bF (s.bI-t.bF-Kt (trn n x.aD x.aD)) (s.aY-t.bF-Ks (trn n x.aD x.aD)) X Y ↔
   (∀ r ∈ trn n x.aD x.aD,vR (trR X Y r)∧pL (trR X Y r) ⟨t.bF,t.bF,s.bI-2*t.bF,s.aY-2*t.bF⟩∧(∀ o ∈ s.aT++s.Used,¬ ovR (trR X Y r) o)∧∀ l ∈ taken,∀ o ∈ l,blk t (trR X Y r) o=false):=by
 have tp:=TC hx hn
 have hw:=vs.w;have hh:=vs.h
 have wW:∀ r ∈ trn n x.aD x.aD,r.X+r.W≤Kt (trn n x.aD x.aD):=fun r hr=>(foldl_max (g:=fun r=>r.X+r.W)).2 r hr
 have wH:∀ r ∈ trn n x.aD x.aD,r.Y+r.H≤Ks (trn n x.aD x.aD):=fun r hr=>(foldl_max (g:=fun r=>r.Y+r.H)).2 r hr
 -- hard bV
 have bh:∀ r ∈ trn n x.aD x.aD,∀ o,vR o→vR (trR X Y r)→(Pz 0 false r o X Y↔ovR (trR X Y r) o):=fun r hr o vo vr=>by
  unfold Pz ovI Ge ovR
  unfold vR trR at vr
  have vo':=vo
  unfold vR at vo'
  simp only [Bool.false_eq_true,false_and,not_false_eq_true,and_true]
  constructor
  ·intro h
   refine ⟨by unfold vR trR;simp only at vr ⊢;omega,vo, ?_⟩
   simp only [trR] at vr ⊢
   omega
  ·rintro ⟨_,_,h1,h2,h3,h4⟩
   simp only [trR] at h1 h2 h3 h4
   omega
 have bs:∀ r ∈ trn n x.aD x.aD,∀ o,vR o→vR (trR X Y r)→(Pz t.Gap t.jS r o X Y↔blk t (trR X Y r) o=true):=fun r hr o vo vr=>by
  have eo:ovR (trR X Y r) o↔(ovI (X+r.X) r.W o.X o.W∧ovI (Y+r.Y) r.H o.Y o.H):=by
   unfold ovR ovI
   constructor
   ·rintro ⟨_,_,h1,h2,h3,h4⟩
    simp only [trR] at h1 h2 h3 h4
    omega
   ·intro h
    refine ⟨vr,vo, ?_⟩
    simp only [trR]
    omega
  have ed:Cj (trR X Y r) o=max (Ge (X+r.X) r.W o.X o.W) (Ge (Y+r.Y) r.H o.Y o.H):=by
   unfold Cj Ge
   rw [if_pos ⟨vr,vo⟩]
   simp only [trR]
   omega
  unfold Pz blk
  rw [ed,← eo]
  rw [Bool.or_eq_true,Bool.and_eq_true,decide_eq_true_eq,decide_eq_true_eq,Bool.not_eq_true',Bool.and_eq_false_iff]
  have eb:∀ a:Int,((a==0)=false)↔a≠0:=fun a=>beq_eq_false_iff_ne
  rw [eb]
  constructor
  ·rintro (h | ⟨h1,h2⟩)
   ·exact .inl h
   ·refine .inr ⟨h1, ?_⟩
    cases hc:t.jS with
    | false=>exact .inl rfl
    | true=>exact .inr fun q=>h2 ⟨hc,q⟩
  ·rintro (h | ⟨h1,h2⟩)
   ·exact .inl h
   ·refine .inr ⟨h1,fun q=>?_⟩
    rcases h2 with h2 | h2
    ·rw [q.1] at h2;cases h2
    ·exact h2 q.2
 constructor
 ·rintro ⟨f1,f2,f3,f4,f5⟩ r hr
  obtain ⟨vr,x0,y0⟩:=tp.v1 r hr
  have:=wW r hr;have:=wH r hr
  have vt:vR (trR X Y r):=by
   unfold vR at vr
   unfold vR trR
   simp only
   omega
  refine ⟨vt,⟨vt, ?_, ?_⟩,fun o ho hov=>?_,fun l hl o ho=>?_⟩
  ·unfold vR at vr ⊢
   simp only
   omega
  ·simp only [trR]
   unfold vR at vr
   omega
  ·exact f5 (o,0,false) (List.mem_append_left _ (List.mem_map.2 ⟨o,ho,rfl⟩)) r hr ((bh r hr o (vs.v o ho) vt).2 hov)
  ·cases hb:blk t (trR X Y r) o with
   | false=>rfl
   | true=>exact absurd ((bs r hr o (tv l hl o ho) vt).2 hb) (f5 (o,t.Gap,t.jS) (List.mem_append_right _ (List.mem_map.2 ⟨o,List.mem_flatten.2 ⟨l,hl,ho⟩,rfl⟩)) r hr)
 ·intro h
  obtain ⟨⟨r0,hr0,x0⟩,r1,hr1,y0⟩:=tp.c0
  have q0:=(h r0 hr0).2.1
  have q1:=(h r1 hr1).2.1
  obtain ⟨_,_,i1,i2,i3,i4⟩:=q0
  obtain ⟨_,_,j1,j2,j3,j4⟩:=q1
  simp only [trR] at i1 i2 i3 i4 j1 j2 j3 j4
  have v0:=(tp.v1 r0 hr0).1
  have v1:=(tp.v1 r1 hr1).1
  unfold vR at v0 v1
  have mW:Kt (trn n x.aD x.aD)≤s.bI-t.bF-X:=Io (g:=fun r=>r.X+r.W) (fun r hr=>by
   obtain ⟨_,_,k1,k2,k3,k4⟩:=(h r hr).2.1
   simp only [trR] at k1 k2 k3 k4
   omega) (by omega)
  have mH:Ks (trn n x.aD x.aD)≤s.aY-t.bF-Y:=Io (g:=fun r=>r.Y+r.H) (fun r hr=>by
   obtain ⟨_,_,k1,k2,k3,k4⟩:=(h r hr).2.1
   simp only [trR] at k1 k2 k3 k4
   omega) (by omega)
  refine ⟨by omega,by omega,by omega,by omega,fun o' ho' r hr hb=>?_⟩
  obtain ⟨vt,_,h3,h4⟩:=h r hr
  rcases List.mem_append.1 ho' with w | w
  ·obtain ⟨o,ho,rfl⟩:=List.mem_map.1 w
   exact h3 o ho ((bh r hr o (vs.v o ho) vt).1 hb)
  ·obtain ⟨o,ho,rfl⟩:=List.mem_map.1 w
   obtain ⟨l,hl,ho⟩:=List.mem_flatten.1 ho
   have:=(bs r hr o (tv l hl o ho) vt).1 hb
   rw [h4 l hl o ho] at this;cases this
theorem Ku {l:List aE} (hl:l.length≤60) (x y:Int):uF l x y=some (l.map (mvR x y)):=by
 unfold uF
 have hmk:mk (l.length:Int) (aE.mk 0 0 0 0)=some (List.replicate l.length ⟨0,0,0,0⟩):=by
  unfold mk;rw [if_pos (by unfold LIM;omega)];simp
 have hc:cpy (List.replicate l.length (aE.mk 0 0 0 0)) 0 (List.take (min l.length (List.replicate l.length (aE.mk 0 0 0 0)).length) l)=l:=by
  unfold cpy;simp
 rw [hmk]
 simp only [Option.bind_some,hc]
 have key:aL (nZ l x y (List.replicate l.length ⟨0,0,0,0⟩)) (0,l)=some (l.map (mvR x y)):=by
  refine xB l (nZ l x y (List.replicate l.length ⟨0,0,0,0⟩)) (fun k=>((k:Int),(l.take k).map (mvR x y)++l.drop k)) _ (fun k r hr=>?_) ?_
  ·have hk:=(List.getElem?_eq_some_iff.1 hr).1
   unfold nZ
   rw [hc]
   have h1:decide ((k:Int)<(l.length:Int))=true:=by simp;omega
   have ht:((l.take k).map (mvR x y)).length=k:=by simp;omega
   have ed:l.drop k=r::l.drop (k+1):=by rw [List.drop_eq_getElem_cons hk];congr 1;exact (List.getElem?_eq_some_iff.1 hr).2
   have i1:∀ z:aE,idx ((l.take k).map (mvR x y)++z::l.drop (k+1)) (k:Int)=some z:=fun z=>bB (by rw [List.getElem?_append_right (by omega),ht];simp)
   have s1:∀ z z':aE,List.set ((l.take k).map (mvR x y)++z::l.drop (k+1)) k z'=(l.take k).map (mvR x y)++z'::l.drop (k+1):=fun z z'=>by rw [List.set_append_right _ _ (by omega),ht];simp
   simp only [h1,if_true,ed,i1,s1,Option.bind_some,Int.toNat_natCast]
   rw [aP (a:=(k:Int)) (by omega) (by omega)]
   have e:l.take (k+1)=l.take k++[r]:=by rw [List.take_add_one,hr];rfl
   rw [e,List.map_append,List.append_assoc]
   rfl
  ·unfold nZ
   rw [hc]
   simp
 rw [key]
 rfl
theorem Ue {l:List aE} (hv:zJ l):l.map (mvR 0 0)=l:=by
 have:∀ r ∈ l,mvR 0 0 r=r:=fun r hr=>by
  have h:=hv r hr
  unfold vR at h
  unfold mvR
  rw [aP (by omega) (by omega),aP (by omega) (by omega),Int.add_zero,Int.add_zero]
 rw [List.map_congr_left this,List.map_id']
def Ny (s:aZ) (l:List aE) (k:Nat):Bool:=match l[k]? with
 | some x=>s.aT.any (eX x) || (s.Used.any (eX x) || (l.take k).any (eX x))
 | none=>false
structure Rem (s:aZ) (l:List aE):Prop where
 val:bC s=some 0
 vs:VS s
 n:s.Used.length+l.length≤48
 v:zJ l
 i:outs ⟨0,0,s.bI,s.aY⟩ l=false
 d:(List.range l.length).any (Ny s l)=false
theorem Yz (s:aZ) (l:List aE) (hl:l.length≤4611686018427387904):∃ r,yX s l=some r∧Cd s l=some r∧((r.2.1≠0∧r.1=⟨ByteArray.empty,ByteArray.empty,0,0,0,0,[],[]⟩)∨(r.2.1=0∧Rem s l∧r.1=⟨s.Name,s.aW,s.bQ,s.bM,s.bI,s.aY,s.aT,s.Used++l⟩)):=by
 obtain ⟨b,b1,b2,b3⟩:=Bx s
 unfold yX Cd
 rw [b1,b2]
 simp only [Option.bind_some]
 by_cases hb:b=0
 case neg =>
  have hb':(b != 0)=true:=by rw [bne_iff_ne];exact hb
  simp only [hb',if_true]
  exact ⟨_,rfl,rfl,.inl ⟨hb,rfl⟩⟩
 subst hb
 have v:=b3 rfl
 have n1:=v.n1
 have n2:=v.n2
 have w:=v.w;have hh:=v.h
 simp only [bne_self_eq_false,Bool.false_eq_true,if_false]
 have e1:aH 48 (s.Used.length:Int)=48-(s.Used.length:Int):=bE (by omega) (by omega)
 have e2:aF (s.Used.length:Int) (l.length:Int)=(s.Used.length:Int)+(l.length:Int):=aP (by omega) (by omega)
 rw [e1,e2]
 by_cases hn:s.Used.length+l.length≤48
 case neg =>
  have d1:decide ((l.length:Int)>48-(s.Used.length:Int))=true:=by rw [decide_eq_true_eq];omega
  have d2:decide ((s.Used.length:Int)+(l.length:Int)>48)=true:=by rw [decide_eq_true_eq];omega
  simp only [d1,d2,if_true]
  exact ⟨_,rfl,rfl,.inl ⟨by decide,rfl⟩⟩
 have d1:decide ((l.length:Int)>48-(s.Used.length:Int))=false:=by rw [decide_eq_false_iff_not];omega
 have d2:decide ((s.Used.length:Int)+(l.length:Int)>48)=false:=by rw [decide_eq_false_iff_not];omega
 simp only [d1,d2,Bool.false_eq_true,if_false,eV l (by omega),pF l (by omega),Option.bind_some,Kc s l (by omega)]
 cases hv:(l.any fun x=>!decide (vR x)) with
 | true=>exact ⟨_,rfl,rfl,.inl ⟨by decide,rfl⟩⟩
 | false =>
 have hvl:zJ l:=fun r hr=>by
  have:=List.any_eq_false.1 hv r hr
  simpa using this
 have hi:gO s 0=some (⟨0,0,s.bI,s.aY⟩,decide (vR ⟨0,0,s.bI,s.aY⟩)):=by
  unfold gO
  rw [iF]
  have e0:cK 2 0=0:=by rw [tJ (by omega) (by omega)];rfl
  rw [e0,bE (by omega) (by omega),bE (by omega) (by omega),Int.sub_zero,Int.sub_zero]
  rfl
 have l1:aL (kB l (⟨0,0,s.bI,s.aY⟩,decide (vR ⟨0,0,s.bI,s.aY⟩))) 0=some (if outs ⟨0,0,s.bI,s.aY⟩ l then .inl () else .inr ()):=by
  refine dH l (kB l (⟨0,0,s.bI,s.aY⟩,decide (vR ⟨0,0,s.bI,s.aY⟩))) (fun k=>(k:Int)) (fun x=>!decide (pL x ⟨0,0,s.bI,s.aY⟩)) _ _ rfl (fun k x hx=>?_) ?_
  ·have hk:=bL hx
   unfold kB
   have hd:decide ((k:Int)<(l.length:Int))=true:=by simp [hk]
   simp only [hd,if_true,bB hx,Option.bind_some,Mw,bJ k (by omega)]
  ·simp [kB]
 simp only [Bool.not_false,Bool.not_true,if_true,Bool.false_eq_true,if_false,hi,Option.bind_some,l1]
 cases ho:outs ⟨0,0,s.bI,s.aY⟩ l with
 | true=>exact ⟨_,rfl,rfl,.inl ⟨by decide,rfl⟩⟩
 | false =>
 have cores:∀ k x,l[k]?=some x→Ny s l k=(s.aT.any (eX x) || (s.Used.any (eX x) || (l.take k).any (eX x))):=fun k x hx=>by unfold Ny;rw [hx]
 have l2:aL (kC s l) 0=some (if (List.range l.length).any (Ny s l) then .inl () else .inr ()):=by
  refine rQ l.length (kC s l) (fun k=>(k:Int)) (Ny s l) _ _ rfl (fun k hk=>?_) ?_
  ·have hx:l[k]?=some l[k]:=List.getElem?_eq_getElem hk
   have hsl:slc l 0 (k:Int)=some (l.take k):=Hu (by omega)
   unfold kC
   have hd:decide ((k:Int)<(l.length:Int))=true:=by simp [hk]
   have o:∀ b:List aE,b.length≤1000→lE [l[k]] b=some (b.any (eX l[k])):=fun b hb=>by
    rw [Is (by simp) hb];simp
   simp only [hd,if_true,bB hx,Option.bind_some,o _ (show s.aT.length≤1000 by omega),o _ (show s.Used.length≤1000 by omega),hsl,o _ (show (l.take k).length≤1000 by simp;omega),cores k _ hx,bJ k (by omega)]
   cases s.aT.any (eX l[k]) <;> cases s.Used.any (eX l[k]) <;> cases (l.take k).any (eX l[k]) <;> rfl
  ·simp [kC]
 have l3:aL (iO s l) 0=some (if (List.range l.length).any (Ny s l) then .inl () else .inr ()):=by
  refine rQ l.length (iO s l) (fun k=>(k:Int)) (Ny s l) _ _ rfl (fun k hk=>?_) ?_
  ·have hx:l[k]?=some l[k]:=List.getElem?_eq_getElem hk
   have hsl:slc l 0 (k:Int)=some (l.take k):=Hu (by omega)
   unfold iO
   have hd:decide ((k:Int)<(l.length:Int))=true:=by simp [hk]
   simp only [hd,if_true,bB hx,Option.bind_some,Jj _ _ (show s.aT.length≤1000 by omega),Jj _ _ (show s.Used.length≤1000 by omega),hsl,Jj _ _ (show (l.take k).length≤1000 by simp;omega),cores k _ hx,bJ k (by omega)]
   cases s.aT.any (eX l[k]) <;> cases s.Used.any (eX l[k]) <;> cases (l.take k).any (eX l[k]) <;> rfl
  ·simp [iO]
 simp only [Bool.not_false,Bool.not_true,if_true,Bool.false_eq_true,if_false,Option.bind_some,l2,l3]
 cases hd:(List.range l.length).any (Ny s l) with
 | true=>exact ⟨_,rfl,rfl,.inl ⟨by decide,rfl⟩⟩
 | false =>
 have vc:zJ s.aT:=fun r hr=>v.v r (List.mem_append.2 (.inl hr))
 have vu:zJ s.Used:=fun r hr=>v.v r (List.mem_append.2 (.inr hr))
 have ap1:app [] s.aT=some s.aT:=by rw [iR (by unfold LIM;simp;omega)];rfl
 have ap2:app [] s.Used=some s.Used:=by rw [iR (by unfold LIM;simp;omega)];rfl
 have ap3:app s.Used l=some (s.Used++l):=iR (by unfold LIM;omega)
 simp only [Bool.false_eq_true,if_false,Ku (show s.aT.length≤60 by omega),Ku (show s.Used.length≤60 by omega),Ue vc,Ue vu,ap1,ap2,ap3,Option.bind_some]
 exact ⟨_,rfl,rfl,.inr ⟨rfl,⟨b1,v,hn,hvl,ho,hd⟩,rfl⟩⟩
theorem Yu {s:aZ} {l:List aE} (h:Rem s l):bC ⟨s.Name,s.aW,s.bQ,s.bM,s.bI,s.aY,s.aT,s.Used++l⟩=some 0:=by
 have hval:=h.val
 obtain ⟨a,ha,_⟩:=pE s.Name
 obtain ⟨b,hb,_⟩:=pE s.aW
 have v:=h.vs
 have n1:=v.n1
 have n2:=v.n2
 have n:=h.n
 have w:=v.w;have hh:=v.h
 unfold bC at hval ⊢
 simp only at hval ⊢
 rw [ha,hb] at hval ⊢
 cases a with
 | false=>exact absurd (Option.some.inj hval) (by decide)
 | true =>
 cases b with
 | false=>exact absurd (Option.some.inj hval) (by decide)
 | true =>
 simp only [Option.bind_some,Fh,xL,if_true,Bool.not_true,Bool.false_eq_true,if_false] at hval ⊢
 by_cases h1:(1≤s.bQ∧s.bQ≤60)∧0≤s.bM∧s.bM≤2
 case neg =>
  simp only [h1,decide_false] at hval
  exact absurd (Option.some.inj hval) (by decide)
 have hnv:∀ L:List aE,zJ L→(L.any fun x=>!decide (vR x))=false:=fun L hL=>by
  rw [List.any_eq_false]
  intro r hr
  simp [hL r hr]
 have vc:zJ s.aT:=fun r hr=>v.v r (List.mem_append.2 (.inl hr))
 have vu:zJ (s.Used++l):=fun r hr=>by
  rcases List.mem_append.1 hr with hr | hr
  ·exact v.v r (List.mem_append.2 (.inr hr))
  ·exact h.v r hr
 have hw:vR ⟨0,0,s.bI,s.aY⟩:=by unfold vR;simp only;omega
 have hin:∀ r ∈ s.aT++s.Used,pL r ⟨0,0,s.bI,s.aY⟩:=fun r hr=>by
  have:=v.i r hr
  refine ⟨v.v r hr,hw, ?_⟩
  simp only;omega
 have oc:outs ⟨0,0,s.bI,s.aY⟩ s.aT=false:=by
  unfold outs;rw [List.any_eq_false]
  intro r hr
  simp [hin r (List.mem_append.2 (.inl hr))]
 have ou:outs ⟨0,0,s.bI,s.aY⟩ (s.Used++l)=false:=by
  unfold outs;rw [List.any_append,Bool.or_eq_false_iff]
  refine ⟨?_,h.i⟩
  rw [List.any_eq_false]
  intro r hr
  simp [hin r (List.mem_append.2 (.inr hr))]
 have hi:gO ⟨s.Name,s.aW,s.bQ,s.bM,s.bI,s.aY,s.aT,s.Used++l⟩ 0=some (⟨0,0,s.bI,s.aY⟩,decide (vR ⟨0,0,s.bI,s.aY⟩)):=by
  unfold gO
  rw [iF]
  have e0:cK 2 0=0:=by rw [tJ (by omega) (by omega)];rfl
  simp only
  rw [e0,bE (by omega) (by omega),bE (by omega) (by omega),Int.sub_zero,Int.sub_zero]
  rfl
 have h4:¬ (s.aT.length:Int)>4:=by omega
 have h5:¬ ((s.Used++l).length:Int)>48:=by rw [List.length_append];omega
 have hl2:(s.Used++l).length≤100:=by rw [List.length_append];omega
 have i2:=Vu ⟨s.Name,s.aW,s.bQ,s.bM,s.bI,s.aY,s.aT,s.Used++l⟩ (⟨0,0,s.bI,s.aY⟩,decide (vR ⟨0,0,s.bI,s.aY⟩)) (show s.aT.length≤_ by omega) (show (s.Used++l).length≤_ by omega)
 simp only at i2
 rw [oc,ou] at i2
 simp only [h1,w,hh,and_self,decide_true,if_true,Option.bind_some,Bool.not_true,Bool.false_eq_true,if_false,h4,h5,decide_false,eV s.aT (by omega),eV (s.Used++l) (by omega),hnv _ vc,hnv _ vu,Bool.not_false,hi,i2]
 rfl
theorem KU {s:aZ} {l:List aE} (h:Rem s l):eB MM (cov (s.aT++(s.Used++l)))=eB MM (cov (s.aT++s.Used))+eB MM (cov l):=by
 refine HU (fun x y=>by rw [← List.append_assoc,Vb]) fun x y h1 h2=>?_
 obtain ⟨b,hb,cb⟩:=FN.1 h1
 obtain ⟨r,hr,cr⟩:=FN.1 h2
 obtain ⟨k,hk⟩:=List.mem_iff_getElem?.1 hr
 have hd:=List.any_eq_false.1 h.d k (List.mem_range.2 (bL hk))
 unfold Ny at hd
 rw [hk] at hd
 simp only [Bool.or_eq_true,not_or] at hd
 have hov:eX r b=true:=by
  unfold eX
  rw [decide_eq_true_eq]
  exact (CA (h.v r hr) (h.vs.v b hb)).2 ⟨x,y,cr,cb⟩
 rcases List.mem_append.1 hb with hb | hb
 ·exact hd.1 (List.any_eq_true.2 ⟨b,hb,hov⟩)
 ·exact hd.2.1 (List.any_eq_true.2 ⟨b,hb,hov⟩)
theorem MA {s:aZ} {l:List aE} (h:Rem s l):Gq ⟨s.Name,s.aW,s.bQ,s.bM,s.bI,s.aY,s.aT,s.Used++l⟩=some (Vj s-eB MM (cov l),0):=by
 obtain ⟨_,f1,_⟩:=Yc (Yu h)
 rw [f1]
 unfold Vj
 simp only
 rw [KU h]
 congr 2
 omega
def Pu (l:List aE):Bool:=l.all fun r=>decide (vR r)
theorem Wx {l:List aE}:Pu l=true↔zJ l:=by unfold Pu zJ;simp
def mat {β:Type} (xs ys:List Int) (p:Int→Int→β):List (List β):=xs.dropLast.map fun x=>ys.dropLast.map fun y=>p x y
def Qc (lists:List (List aE)):Int:=if lists.any (fun l=>decide (l.length>48)) then 4 else if lists.all Pu then 0 else 1
theorem OA {lists:List (List aE)} (hl:lists.length≤10):Kn lists=some (Qc lists):=by
 unfold Kn Qc
 rw [Qs lists (Ei lists) (fun l=>!decide (l.length>48)) (.inl ()) (.inr ()) (fun k x hx=>?s1) ?f1]
 case s1 =>
  have h1:decide ((k:Int)<(lists.length:Int))=true:=by simp [bL hx]
  unfold Ei
  simp only [h1,if_true,bB hx,Option.bind_some,bJ k (by have:=bL hx;omega)]
  by_cases h:x.length>48
  ·have:(x.length:Int)>48:=by omega
   simp [h,this]
  ·have:¬ (x.length:Int)>48:=by omega
   simp [h,this]
 case f1=>simp [Ei]
 by_cases ha:lists.any (fun l=>decide (l.length>48))=true
 ·have:lists.all (fun l=>!decide (l.length>48))=false:=by
   rw [List.all_eq_not_any_not,Bool.not_eq_false']
   simpa using ha
  rw [this,ha];rfl
 ·have h2:lists.all (fun l=>!decide (l.length>48))=true:=by
   rw [List.all_eq_not_any_not]
   simpa using ha
  have h48:∀ l ∈ lists,l.length≤48:=fun l hl=>by
   have:=List.all_eq_true.1 h2 l hl
   simpa using this
  rw [h2,if_pos rfl,Bool.eq_false_iff.2 ha]
  simp only [Option.bind_some,Bool.false_eq_true,if_false]
  rw [Qs lists (Ek lists) Pu (.inl ()) (.inr ()) (fun k x hx=>?s2) ?f2]
  case s2 =>
   have h1:decide ((k:Int)<(lists.length:Int))=true:=by simp [bL hx]
   have hx48:=h48 x (List.mem_of_getElem? hx)
   unfold Ek
   simp only [h1,if_true,bB hx,Option.bind_some,bJ k (by have:=bL hx;omega)]
   rw [Qs x (Ej x) (fun r=>decide (vR r)) (.inl ()) (.inr ()) (fun k x hx=>?s3) ?f3]
   case s3 =>
    have h1:=bL hx
    unfold Ej
    rw [if_pos (by simp;omega),bB hx]
    simp only [Option.bind_some,iF,bJ k (by omega)]
    cases decide (vR x) <;> rfl
   case f3=>simp [Ej]
   unfold Pu
   cases x.all (fun r=>decide (vR r)) <;> rfl
  case f2=>simp [Ek]
  cases lists.all Pu <;> rfl
theorem Xp {l:List aE} (hv:zJ l) (hl:l.length≤1000) (a b:List Int) (ha:a.length≤10000) (hb:b.length≤10000) :
  aL (wR l) (0,a,b)=some (a++xsL l,b++ysL l):=by
 obtain ⟨r,q1,q2⟩:=kL l (fun k (s:List Int×List Int)=>((k:Int),s.1,s.2)) (wR l) (fun s=>(s.1,s.2)) (fun k s=>s=(a++xsL (l.take k),b++ysL (l.take k))) (a,b) (by simp [xsL,ysL])
  (fun k x s hx hI=>by
   have h1:=bL hx
   have hd:decide ((k:Int)<(l.length:Int))=true:=by simp [h1]
   obtain ⟨e1,e2⟩:=Pt (hv x (List.mem_of_getElem? hx))
   subst hI
   unfold wR
   simp only [hd,if_true,bB hx,Option.bind_some,e1,e2]
   rw [iR (by simp [AF,LIM];omega),iR (by simp [AH,LIM];omega)]
   simp only [Option.bind_some,bJ k (by omega)]
   refine ⟨(a++xsL (l.take (k+1)),b++ysL (l.take (k+1))), ?_,rfl⟩
   rw [iT hx,Wz,Xa]
   simp [xsL,ysL]) (fun s _=>by simp [wR])
 rw [List.take_length] at q2
 rw [show ((0:Int),a,b)=(((0:Nat):Int),(a,b).1,(a,b).2) from rfl,q1,q2]
theorem EA {lists:List (List aE)} (hn:lists.length≤2) (hv:∀ l ∈ lists,zJ l∧l.length≤200) :
  ∃ xs ys,Gg lists=some ⟨xs,ys⟩∧Iy xs (lists.flatMap xsL)∧Iy ys (lists.flatMap ysL):=by
 have hlen:∀ ls:List (List aE),(∀ l ∈ ls,l.length≤200)→(ls.flatMap xsL).length≤400*ls.length∧(ls.flatMap ysL).length≤400*ls.length:=fun ls=>by
  induction ls with
  | nil=>intro _;simp
  | cons l ls ih =>
    intro h
    have:=ih fun x hx=>h x (List.mem_cons_of_mem _ hx)
    have:=h l List.mem_cons_self
    simp only [List.flatMap_cons,List.length_append,AF,AH,List.length_cons]
    omega
 obtain ⟨r,q1,q2⟩:=kL lists (fun k (s:List Int×List Int)=>((k:Int),s.1,s.2)) (Bd lists) (fun s=>(s.1,s.2)) (fun k s=>s=((lists.take k).flatMap xsL,(lists.take k).flatMap ysL)) ([],[]) (by simp)
  (fun k x s hx hI=>by
   have h1:=bL hx
   have hd:decide ((k:Int)<(lists.length:Int))=true:=by simp [h1]
   obtain ⟨v1,v2⟩:=hv x (List.mem_of_getElem? hx)
   have hl:=hlen (lists.take k) fun l hl=>(hv l (List.mem_of_mem_take hl)).2
   have:(lists.take k).length≤2:=by rw [List.length_take];omega
   subst hI
   unfold Bd
   simp only [hd,if_true,bB hx,Option.bind_some,Xp v1 (show x.length≤1000 by omega) _ _ (show ((lists.take k).flatMap xsL).length≤10000 by omega) (show ((lists.take k).flatMap ysL).length≤10000 by omega),bJ k (by omega)]
   refine ⟨((lists.take k).flatMap xsL++xsL x,(lists.take k).flatMap ysL++ysL x),rfl, ?_⟩
   rw [iT hx,List.flatMap_append,List.flatMap_append]
   simp) (fun s _=>by simp [Bd])
 rw [List.take_length] at q2
 have hl:=hlen lists fun l hl=>(hv l hl).2
 obtain ⟨xs,x1,x2,x3⟩:=Ri (l:=lists.flatMap xsL) (by omega)
 obtain ⟨ys,y1,y2,y3⟩:=Ri (l:=lists.flatMap ysL) (by omega)
 refine ⟨xs,ys, ?_,⟨x2,x3⟩,⟨y2,y3⟩⟩
 unfold Gg
 rw [show ((0:Int),([]:List Int),([]:List Int))=(((0:Nat):Int),(([],[]):List Int×List Int).1,(([],[]):List Int×List Int).2) from rfl,q1,q2]
 simp only [Option.bind_some,x1,y1]
theorem Gb {α:Type} {l:List α} {k:Nat} {x:α} (h:l.dropLast[k]?=some x):l[k]?=some x∧k+1<l.length:=by
 have:=bL h
 rw [List.length_dropLast] at this
 rw [List.getElem?_dropLast,if_pos (by omega)] at h
 exact ⟨h,by omega⟩
theorem Sr {α:Type} {l:List α} {k:Nat} (h:k+1<l.length):l.dropLast[k]?=l[k]?:=by
 rw [List.getElem?_dropLast,if_pos (by omega)]
theorem BK {β:Type} {R:List β} {z v:β} {j:Nat} (h:R[j]?=some v):(R.take j++List.replicate (R.length-j) z)[j]?=some z:=by
 have:=bL h
 rw [List.getElem?_append_right (by rw [List.length_take];omega),List.length_take,List.getElem?_replicate,if_pos (by omega)]
theorem BL {β:Type} {R:List β} {z v:β} {j:Nat} (h:R[j]?=some v):(R.take j++List.replicate (R.length-j) z).set j v=R.take (j+1)++List.replicate (R.length-(j+1)) z:=by
 have:=bL h
 rw [List.set_append_right _ _ (by rw [List.length_take];omega),List.length_take,show j-min j R.length=0 from by omega,iT h,show R.length-j=R.length-(j+1)+1 from by omega,List.replicate_succ,List.set_cons_zero,List.append_assoc]
 rfl
theorem Ws {β:Type} {l:List β} {i:Nat} {v:β} (h:l[i]?=some v):l.set i v=l:=by
 refine List.ext_getElem? fun n=>?_
 rw [List.getElem?_set]
 split
 ·rename_i e;subst e
  rw [if_pos (bL h),h]
 ·rfl
theorem Zo {β:Type} (xs ys:List Int) (p:Int→Int→β):(mat xs ys p).length=xs.length-1:=by simp [mat]
theorem GG {β:Type} {xs ys:List Int} {p:Int→Int→β} {i:Nat} {x:Int} (hx:xs[i]?=some x) (hi:i+1<xs.length):(mat xs ys p)[i]?=some (ys.dropLast.map fun y=>p x y):=by
 unfold mat
 rw [List.getElem?_map,Sr hi,hx];rfl
theorem GX {β:Type} {ys:List Int} {q:Int→β} {j:Nat} {y:Int} (hy:ys[j]?=some y) (hj:j+1<ys.length):(ys.dropLast.map q)[j]?=some (q y):=by
 rw [List.getElem?_map,Sr hj,hy];rfl
theorem DJ {xs ys:List Int} {l:List aE} (hv:zJ l) (hl:l.length≤1000) (hx:xs.length≤1000) (hy:ys.length≤1000) (hxy:2≤xs.length→1≤ys.length) :
  xM ⟨xs,ys⟩ l=some (mat xs ys (cov l)):=by
 -- a cell
 have cell:∀ (i j:Nat) (x y:Int) (base b1 b2:List (List Bool)) (row:List Bool),xs[i]?=some x→ys[j]?=some y→base[i]?=some row→row[j]?=some false →
   aL (oM ⟨xs,ys⟩ l ((i:Int),b1) ((j:Int),b2)) (0,base)=some (base.set i (row.set j (cov l x y))):=fun i j x y base b1 b2 row hx hy hb hr=>by
  obtain ⟨r,q1,q2⟩:=kL l (fun k (s:List (List Bool))=>((k:Int),s)) (oM ⟨xs,ys⟩ l ((i:Int),b1) ((j:Int),b2)) (fun s=>s) (fun k s=>s=base.set i (row.set j (cov (l.take k) x y))) base (by
    rw [show cov (l.take 0) x y=false from rfl,Ws hr,Ws hb])
   (fun k r s hr' hI=>by
    have h1:=bL hr'
    have hd:decide ((k:Int)<(l.length:Int))=true:=by simp [h1]
    obtain ⟨e1,e2⟩:=Pt (hv r (List.mem_of_getElem? hr'))
    have hi:=bL hb
    have hj:=bL hr
    have g1:(base.set i (row.set j (cov (l.take k) x y)))[i]?=some (row.set j (cov (l.take k) x y)):=by rw [List.getElem?_set,if_pos rfl,if_pos hi]
    have g2:(row.set j (cov (l.take k) x y))[j]?=some (cov (l.take k) x y):=by rw [List.getElem?_set,if_pos rfl,if_pos hj]
    have hc:cov (l.take (k+1)) x y=(cov (l.take k) x y || inC r x y):=by rw [iT hr'];simp [cov]
    subst hI
    unfold oM
    simp only [hd,if_true,bB hr',bB hx,bB hy,Option.bind_some,e1,e2]
    have hb':(if decide (r.X≤x) then (if decide (x<r.X+r.W) then (if decide (r.Y≤y) then some (decide (y<r.Y+r.H)) else some false) else some false) else some false)=some (inC r x y):=by
     unfold inC
     cases decide (r.X≤x) <;> cases decide (x<r.X+r.W) <;> cases decide (r.Y≤y) <;> simp
    rw [hb',Option.bind_some]
    cases hin:inC r x y with
    | false =>
      simp only [Bool.false_eq_true,if_false,oL,bJ k (by omega)]
      refine ⟨_,rfl, ?_⟩
      rw [hc,hin,Bool.or_false]
    | true =>
      simp only [if_true,bB g1,bB g2,Option.bind_some,oL,bJ k (by omega),Int.toNat_natCast]
      refine ⟨_,rfl, ?_⟩
      rw [hc,hin,Bool.or_true,List.set_set,List.set_set]) (fun s _=>by simp [oM])
  rw [List.take_length] at q2
  rw [show ((0:Int),base)=(((0:Nat):Int),base) from rfl,q1,q2]
 -- a column
 have col:∀ (i:Nat) (x:Int) (base b1:List (List Bool)),xs[i]?=some x→base[i]?=some (List.replicate (ys.length-1) false) →
   aL (oO ⟨xs,ys⟩ l ((i:Int),b1) (List.replicate (ys.length-1) false)) (0,base)=some (base.set i (ys.dropLast.map fun y=>cov l x y)):=fun i x base b1 hx hb=>by
  obtain ⟨R,hR⟩:∃ R,(ys.dropLast.map fun y=>cov l x y)=R:=⟨_,rfl⟩
  have hRl:R.length=ys.length-1:=by rw [← hR];simp
  have hi:=bL hb
  obtain ⟨r,q1,q2⟩:=kL ys.dropLast (fun k (s:List (List Bool))=>((k:Int),s)) (oO ⟨xs,ys⟩ l ((i:Int),b1) (List.replicate (ys.length-1) false)) (fun s=>s) (fun k s=>s=base.set i (R.take k++List.replicate (R.length-k) false)) base (by
    rw [List.take_zero,List.nil_append,Nat.sub_zero,hRl,Ws hb])
   (fun k y s hy' hI=>by
    obtain ⟨gy,ky⟩:=Gb hy'
    have hd:decide ((k:Int)<((List.replicate (ys.length-1) false).length:Int))=true:=by simp;omega
    have hRk:R[k]?=some (cov l x y):=by rw [← hR];exact GX gy ky
    subst hI
    have gb:(base.set i (R.take k++List.replicate (R.length-k) false))[i]?=some (R.take k++List.replicate (R.length-k) false):=by rw [List.getElem?_set,if_pos rfl,if_pos hi]
    unfold oO
    simp only [hd,if_true,cell i k x y _ b1 (base.set i (R.take k++List.replicate (R.length-k) false)) _ hx gy gb (BK hRk),Option.bind_some,bJ k (by omega)]
    refine ⟨_,rfl, ?_⟩
    rw [List.set_set,BL hRk]) (fun s _=>by simp [oO])
  rw [List.length_dropLast,← hRl,List.take_length,Nat.sub_self,List.replicate_zero,List.append_nil] at q2
  rw [show ((0:Int),base)=(((0:Nat):Int),base) from rfl,q1,q2,hR]
 obtain ⟨R,hR⟩:∃ R,mat xs ys (cov l)=R:=⟨_,rfl⟩
 have hRl:R.length=xs.length-1:=by rw [← hR,Zo]
 have hmk:mk (imax 0 (aH (xs.length:Int) 1)) ([]:List Bool)=some (List.replicate (xs.length-1) []):=by
  rw [bE (by omega) (by omega),Kq]
  unfold mk
  rw [if_pos ⟨by omega,by simp [LIM];omega⟩,show (max 0 ((xs.length:Int)-1)).toNat=xs.length-1 from by omega]
 obtain ⟨r,q1,q2⟩:=kL xs.dropLast (fun k (s:List (List Bool))=>((k:Int),s)) (tC ⟨xs,ys⟩ l (List.replicate (xs.length-1) [])) (fun s=>s) (fun k s=>s=R.take k++List.replicate (R.length-k) []) (List.replicate (xs.length-1) []) (by
   rw [List.take_zero,List.nil_append,Nat.sub_zero,hRl])
  (fun k x s hx' hI=>by
   obtain ⟨gx,kx⟩:=Gb hx'
   have hd:decide ((k:Int)<((List.replicate (xs.length-1) ([]:List Bool)).length:Int))=true:=by simp;omega
   have hRk:R[k]?=some (ys.dropLast.map fun y=>cov l x y):=by rw [← hR];exact GG gx kx
   have hy1:=hxy (by omega)
   have hmk:mk (aH (ys.length:Int) 1) false=some (List.replicate (ys.length-1) false):=by
    rw [bE (by omega) (by omega)]
    unfold mk
    rw [if_pos ⟨by omega,by simp [LIM];omega⟩,show ((ys.length:Int)-1).toNat=ys.length-1 from by omega]
   have hkR:=bL hRk
   have g0:s[k]?=some []:=by rw [hI];exact BK hRk
   have hks:=bL g0
   have g1:(s.set k (List.replicate (ys.length-1) false))[k]?=some (List.replicate (ys.length-1) false):=by rw [List.getElem?_set,if_pos rfl,if_pos hks]
   unfold tC
   simp only [hd,if_true,hmk,Option.bind_some,bB g0,Int.toNat_natCast,bB g1,col k x _ s gx g1,bJ k (by omega)]
   refine ⟨_,rfl, ?_⟩
   rw [List.set_set,hI,BL hRk]) (fun s _=>by simp [tC])
 rw [List.length_dropLast,← hRl,List.take_length,Nat.sub_self,List.replicate_zero,List.append_nil] at q2
 unfold xM
 rw [hmk,Option.bind_some,show ((0:Int),List.replicate (xs.length-1) ([]:List Bool))=(((0:Nat):Int),List.replicate (xs.length-1) []) from rfl,q1,q2,hR]
 rfl
section
variable {xs ys:List Int} (hX:Ul xs) (hY:Ul ys) (p:Int→Int→Bool)
include hX hY
theorem DE {i:Nat} {x x':Int} (hx:xs[i]?=some x) (hx':xs[i+1]?=some x') (s s0:Int) (h0:0≤s0) (h1:s0≤8796093022208) :
  aL (Cn ⟨xs,ys⟩ (s,(i:Int)) (ys.dropLast.map fun y=>p x y)) (s0,0)=some (s0+(x'-x)*Ah (fun y=>one (p x y)) ys):=by
 have hxx:=Na hX.asc (Nat.lt_succ_self i) hx hx'
 have wx:=hX.within x (List.mem_of_getElem? hx)
 have wx':=hX.within x' (List.mem_of_getElem? hx')
 have hi:=bL hx
 have hXl:=hX.len
 have hYl:=hY.len
 obtain ⟨r,q1,q2⟩:=kL ys.dropLast (fun k (a:Int)=>(a,(k:Int))) (Cn ⟨xs,ys⟩ (s,(i:Int)) (ys.dropLast.map fun y=>p x y)) (fun a=>a) (fun k a=>a=s0+(x'-x)*ps (fun y=>one (p x y)) ys k) s0 (by simp [ps,Hy])
  (fun k y a hy hI=>by
   obtain ⟨gy,ky⟩:=Gb hy
   have kl:=bL hy
   obtain ⟨y',gy'⟩:∃ y',ys[k+1]?=some y':=⟨_,List.getElem?_eq_getElem ky⟩
   have hyy:=Na hY.asc (Nat.lt_succ_self k) gy gy'
   have wy:=hY.within y (List.mem_of_getElem? gy)
   have wy':=hY.within y' (List.mem_of_getElem? gy')
   have hd:decide ((k:Int)<((ys.dropLast.map fun y=>p x y).length:Int))=true:=by rw [List.length_map,List.length_dropLast];simp;omega
   have e1:aH x' x=x'-x:=bE (by omega) (by omega)
   have e2:aH y' y=y'-y:=bE (by omega) (by omega)
   have m1:0≤(x'-x)*(y'-y):=Int.mul_nonneg (by omega) (by omega)
   have m2:(x'-x)*(y'-y)≤2097152*2097152:=Int.mul_le_mul (by omega) (by omega) (by omega) (by omega)
   have e3:cK (x'-x) (y'-y)=(x'-x)*(y'-y):=tJ (by omega) (by omega)
   obtain ⟨b1,b2⟩:=Mn hY.asc (g:=fun y=>one (p x y)) (c:=1) (by omega) (fun y=>one_le _) k (by omega)
   obtain ⟨y0,gy0⟩:∃ y0,ys[0]?=some y0:=⟨_,List.getElem?_eq_getElem (by omega)⟩
   rw [xN gy,xN gy0] at b2
   have wy0:=hY.within y0 (List.mem_of_getElem? gy0)
   have m3:0≤(x'-x)*ps (fun y=>one (p x y)) ys k:=Int.mul_nonneg (by omega) b1
   have m4:(x'-x)*ps (fun y=>one (p x y)) ys k≤2097152*2097152:=Int.mul_le_mul (by omega) (by omega) b1 (by omega)
   have st:=Uf (fun y=>one (p x y)) gy gy'
   unfold Cn
   have hrow:=GX (q:=fun y=>p x y) gy ky
   have si:aF (i:Int) 1=((i+1:Nat):Int):=bJ i (by omega)
   have sk:aF (k:Int) 1=((k+1:Nat):Int):=bJ k (by omega)
   simp only [hd,if_true,bB hrow,Option.bind_some,si,sk,bB hx,bB hx',bB gy,bB gy',e1,e2,e3,Gf]
   subst hI
   cases hp:p x y with
   | true =>
     simp only [if_true]
     rw [aP (by omega) (by omega)]
     refine ⟨_,rfl, ?_⟩
     rw [st,hp,show one true=1 from rfl]
     grind
   | false =>
     simp only [Bool.false_eq_true,if_false]
     refine ⟨_,rfl, ?_⟩
     rw [st,hp,show one false=0 from rfl,Int.mul_zero,Int.add_zero]) (fun a _=>by simp [Cn])
 rw [List.length_dropLast,Nu] at q2
 rw [show (s0,(0:Int))=(s0,((0:Nat):Int)) from rfl,q1,q2]
theorem HW:aL (Co ⟨xs,ys⟩ (mat xs ys p)) (0,0)=some (Ah (fun x=>Ah (fun y=>one (p x y)) ys) xs):=by
 have hXl:=hX.len
 have hg:=fun x=>Vm hY (g:=fun y=>one (p x y)) (c:=1) (by omega) (fun y=>one_le _)
 obtain ⟨r,q1,q2⟩:=kL xs.dropLast (fun k (a:Int)=>(a,(k:Int))) (Co ⟨xs,ys⟩ (mat xs ys p)) (fun a=>a) (fun k a=>a=ps (fun x=>Ah (fun y=>one (p x y)) ys) xs k) 0 (by simp [ps,Hy])
  (fun k x a hx hI=>by
   obtain ⟨gx,kx⟩:=Gb hx
   have kl:=bL hx
   obtain ⟨x',gx'⟩:∃ x',xs[k+1]?=some x':=⟨_,List.getElem?_eq_getElem kx⟩
   obtain ⟨b1,b2⟩:=Mn hX.asc (g:=fun x=>Ah (fun y=>one (p x y)) ys) (c:=2097152) (by omega) (fun x=>by have:=hg x;omega) k (by omega)
   obtain ⟨x0,gx0⟩:∃ x0,xs[0]?=some x0:=⟨_,List.getElem?_eq_getElem (by omega)⟩
   rw [xN gx,xN gx0] at b2
   have wx:=hX.within x (List.mem_of_getElem? gx)
   have wx0:=hX.within x0 (List.mem_of_getElem? gx0)
   have hd:decide ((k:Int)<((mat xs ys p).length:Int))=true:=by rw [Zo];simp;omega
   unfold Co
   subst hI
   simp only [hd,if_true,bB (GG gx kx),Option.bind_some,DE hX hY p gx gx' _ _ b1 (by omega),bJ k (by omega)]
   exact ⟨_,rfl,(Uf _ gx gx').symm⟩) (fun a _=>by
   have:¬ ((xs.dropLast.length:Nat):Int)<((mat xs ys p).length:Int):=by rw [Zo];simp
   unfold Co
   simp only [this,decide_false,Bool.false_eq_true,if_false])
 rw [List.length_dropLast,Nu] at q2
 rw [show ((0:Int),(0:Int))=(0,((0:Nat):Int)) from rfl,q1,q2]
end
section
variable {xs ys:List Int} {l:List aE} (h:Has xs ys l)
include h
omit h in
end
theorem IU {xs ys:List Int} {l:List aE} (hx:Iy xs (xsL l)) (hy:Iy ys (ysL l)):2≤xs.length→1≤ys.length:=fun h=>by
 cases l with
 | nil =>
   have:xs=[]:=by
    cases xs with
    | nil=>rfl
    | cons a t=>exact absurd ((hx.2 a).1 List.mem_cons_self) (by simp [xsL])
   rw [this] at h;simp at h
 | cons r l =>
   have:=(hy.2 r.Y).2 (Xb List.mem_cons_self).1
   cases ys with
   | nil=>simp at this
   | cons=>simp
def KT (l:List aE):Int×Int:=if Qc [l]=0 then (eB MM (cov l),0) else (0,Qc [l])
theorem LF {l:List aE}:Qc [l]=0→l.length≤48∧zJ l:=by
 unfold Qc
 simp only [List.any_cons,List.any_nil,Bool.or_false,List.all_cons,List.all_nil,Bool.and_true,decide_eq_true_eq]
 intro h
 split at h
 ·cases h
 ·split at h
  ·rename_i q;exact ⟨by omega,Wx.1 q⟩
  ·cases h
theorem PL (l:List aE):Jt l=some (KT l):=by
 unfold Jt KT
 rw [OA (by simp),Option.bind_some]
 by_cases hc:Qc [l]=0
 case neg=>simp [hc]
 obtain ⟨hl,hv⟩:=LF hc
 obtain ⟨xs,ys,g1,g2,g3⟩:=EA (lists:=[l]) (by simp) (fun x hx=>by simp at hx;subst hx;exact ⟨hv,by omega⟩)
 simp only [List.flatMap_cons,List.flatMap_nil,List.append_nil] at g2 g3
 have hH:=MF hv (by omega) g2 g3 (fun r hr=>hr)
 simp only [hc,bne_self_eq_false,Bool.false_eq_true,if_false,if_true,g1,Option.bind_some,DJ hv (show l.length≤1000 by omega) hH.X.len hH.Y.len (IU g2 g3),HW hH.X hH.Y,AU hH]
def Xd (x:aQ) (s:aZ) (taken:List (List aE)) (t:bK):Prop:=∀ n:Nat,n<4→kA x s (n:Int)=some true→∀ X Y,¬ Fe (trn n x.aD x.aD) (Zr (s.aT++s.Used) taken.flatten t) t.bF (s.bI-t.bF-Kt (trn n x.aD x.aD)) (s.aY-t.bF-Ks (trn n x.aD x.aD)) X Y
theorem Qa {P:Nat→Option (Int×Int)}:∀ {k:Nat},(wJ P k).1=true→∃ n,n<k∧P n=some ((wJ P k).2.1,(wJ P k).2.2.1)∧(wJ P k).2.2.2=(n:Int)
 | 0,h=>by cases h
 | k+1,h=>by
   rw [Rp] at h ⊢
   cases hp:P k with
   | none =>
     rw [hp] at h
     simp only [upd] at h ⊢
     obtain ⟨n,h1,h2,h3⟩:=Qa h
     exact ⟨n,by omega,h2,h3⟩
   | some p =>
     rw [hp] at h
     simp only [upd] at h ⊢
     split
     ·exact ⟨k,Nat.lt_succ_self k,hp,rfl⟩
     ·rename_i hc
      rw [if_neg hc] at h
      obtain ⟨n,h1,h2,h3⟩:=Qa h
      exact ⟨n,by omega,h2,h3⟩
theorem AV {P:Nat→Option (Int×Int)}:∀ {k n:Nat} {p:Int×Int},n<k→P n=some p→(wJ P k).1=true
 | 0,_,_,h,_=>by omega
 | k+1,n,p,h,hp=>by
   rw [Rp]
   rcases Nat.lt_or_ge n k with q | q
   ·have h1:=AV q hp
    cases hk:P k with
    | none=>exact h1
    | some p'=>simp only [upd];split <;> simp [h1]
   ·have e:n=k:=by omega
    subst e
    rw [hp]
    simp only [upd]
    split
    ·rfl
    ·rename_i hc
     cases hb:(wJ P n).1 with
     | true=>rfl
     | false=>exact absurd (.inl hb) hc
theorem VL {x:aQ} {s:aZ} {taken:List (List aE)} {t:bK} {P:Nat→Option (Int×Int)} (T:Up x s (Zr (s.aT++s.Used) taken.flatten t) t.bF P) (h:(wJ P 4).1=false):Xd x s taken t:=fun n hn ha X Y hF=>by
 have L:=T.al n hn ha
 cases hP:P n with
 | none=>rw [hP] at L;exact L X Y hF
 | some p=>rw [AV hn hP] at h;cases h
structure KN (x:aQ) (s:aZ) (taken:List (List aE)) (t:bK) (p:aS) (q:aQ):Prop where
 put:∃ a b c d,lM x p=some (q,0,a,b,c,d)
 mat:q.aW=x.aW∧q.bQ=x.bQ∧q.bM=x.bM
 q12:q.aD.length≤12
 qv:∀ r ∈ q.aD,vR r
 fe:∃ n:Nat,n≤3∧p.zK=n∧kA x s (n:Int)=some true∧(-1048576≤p.X∧p.X≤1048576)∧(-1048576≤p.Y∧p.Y≤1048576)∧q.aD=(trn n x.aD x.aD).map (trR p.X p.Y) ∧
  Fe (trn n x.aD x.aD) (Zr (s.aT++s.Used) taken.flatten t) t.bF (s.bI-t.bF-Kt (trn n x.aD x.aD)) (s.aY-t.bF-Ks (trn n x.aD x.aD)) p.X p.Y
theorem Yk {x:aQ} {s:aZ} {taken:List (List aE)} {t:bK} (vs:VS s) (vx:aX x=some 0) (tv:∀ l ∈ taken,∀ r ∈ l,vR r) (hg:0≤t.Gap∧t.Gap≤14400) (hm:0≤t.bF∧t.bF≤14400)
  {P:Nat→Option (Int×Int)} (T:Up x s (Zr (s.aT++s.Used) taken.flatten t) t.bF P) (h:(wJ P 4).1=true) (i k:Int) :
  ∃ q,KN x s taken t ⟨i,k,(wJ P 4).2.1,(wJ P 4).2.2.1,(wJ P 4).2.2.2⟩ q∧(∃ u1 u2 u3 u4,vN x ⟨i,k,(wJ P 4).2.1,(wJ P 4).2.2.1,(wJ P 4).2.2.2⟩=some (q,0,u1,u2,u3,u4)):=by
 obtain ⟨n,hn,hP,hT⟩:=Qa h
 obtain ⟨al,ha,_⟩:=Ga x s (n:Int)
 cases al with
 | false=>rw [T.no n hn ha] at hP;cases hP
 | true =>
   have L:=T.al n hn ha
   rw [hP] at L
   have F:=L.1
   simp only at F
   obtain ⟨tw,th⟩:=CT vx hn
   have w0:=vs.w;have hh:=vs.h
   have f1:=F.1;have f2:=F.2.1;have f3:=F.2.2.1;have f4:=F.2.2.2.1
   have rX : -1048576≤(wJ P 4).2.1∧(wJ P 4).2.1≤1048576:=by omega
   have rY : -1048576≤(wJ P 4).2.2.1∧(wJ P 4).2.2.1≤1048576:=by omega
   obtain ⟨q,c,u1,u2,u3,u4,e1,e2,c1,c2,c3⟩:=GM vx (show n≤3 by omega) ⟨i,k,(wJ P 4).2.1,(wJ P 4).2.2.1,(wJ P 4).2.2.2⟩ hT rX rY
   have hc:=c1 fun r hr=>((LV vx (show n≤3 by omega) vs tv hg hm rX rY).1 F r hr).1
   subst hc
   obtain ⟨er,vr,hmat⟩:=c2 rfl
   refine ⟨q,⟨⟨_,_,_,_,e2⟩,hmat,c3,fun r hr=>?_,n,by omega,hT,ha,rX,rY,er,F⟩,u1,u2,u3,u4,e1⟩
   rw [er] at hr
   obtain ⟨a,ha',rfl⟩:=List.mem_map.1 hr
   exact vr a ha'
section
variable {sheets:List aZ} {pieces:List aQ} {t:bK} (hs4:sheets.length≤4) (hp8:pieces.length≤8) (gs:∀ s ∈ sheets,bC s=some 0) (gp:∀ x ∈ pieces,aX x=some 0) (ht:cN t=some true)
structure TOk (sheets:List aZ) (i:Nat) (T:List (List (List aE))):Prop where
 len:T.length=sheets.length
 n:∀ l ∈ T,l.length≤i
 l12:∀ l ∈ T,∀ x ∈ l,x.length≤12
 v:∀ l ∈ T,∀ x ∈ l,∀ r ∈ x,vR r
include hs4 hp8 gs gp ht
theorem NG {i:Nat} {x:aQ} (hx:pieces[i]?=some x) {T:List (List (List aE))} (hT:TOk sheets i T) {O:List aS} (hO:O.length≤i) (L:List Int) :
  (∃ (k:Nat) (s:aZ) (l:List (List aE)) (p:aS) (q:aQ),sheets[k]?=some s∧T[k]?=some l∧p.aQ=i∧p.aZ=k∧KN x s l t p q ∧
      aL (pZ sheets t ((i:Int),T,O,L) x) 0=some (.inl (T.set k (l++[q.aD]),O++[p]))) ∨
  (aL (pZ sheets t ((i:Int),T,O,L) x) 0=some (.inr ())∧∀ (k:Nat) s l,sheets[k]?=some s→T[k]?=some l→Xd x s l t):=by
 have vx:=gp x (List.mem_of_getElem? hx)
 have hi:=bL hx
 have key:∀ (m k:Nat),k+m=sheets.length→(∀ (k':Nat) s l,k'<k→sheets[k']?=some s→T[k']?=some l→Xd x s l t) →
   ((∃ (k0:Nat) (s:aZ) (l:List (List aE)) (p:aS) (q:aQ),sheets[k0]?=some s∧T[k0]?=some l∧p.aQ=i∧p.aZ=k0∧KN x s l t p q ∧
     aL (pZ sheets t ((i:Int),T,O,L) x) (k:Int)=some (.inl (T.set k0 (l++[q.aD]),O++[p]))) ∨
   (aL (pZ sheets t ((i:Int),T,O,L) x) (k:Int)=some (.inr ())∧∀ (k:Nat) s l,sheets[k]?=some s→T[k]?=some l→Xd x s l t)):=by
  intro m
  induction m with
  | zero =>
    intro k hk hno
    obtain rfl:k=sheets.length:=by omega
    exact .inr ⟨cM (by simp [pZ]),fun k s l h1 h2=>hno k s l (bL h1) h1 h2⟩
  | succ m ih =>
    intro k hk hno
    have hkl:k<sheets.length:=by omega
    obtain ⟨s,hs⟩:∃ s,sheets[k]?=some s:=⟨_,List.getElem?_eq_getElem hkl⟩
    obtain ⟨l,hl⟩:∃ l,T[k]?=some l:=⟨_,List.getElem?_eq_getElem (by have:=hT.len;omega)⟩
    have lm:=List.mem_of_getElem? hl
    have ln:=hT.n l lm
    have lv:=hT.v l lm
    obtain ⟨vs,cg,cm,P,TP,u1,u2,u3,fP⟩:=AK (gs s (List.mem_of_getElem? hs)) vx (by omega) (hT.l12 l lm) lv ht
    have hd:decide ((k:Int)<(sheets.length:Int))=true:=by simp [hkl]
    cases hb:(wJ P 4).1 with
    | false =>
      have nf:=VL TP hb
      have r1:pZ sheets t ((i:Int),T,O,L) x (k:Int)=some (.inl ((k+1:Nat):Int)):=by
       unfold pZ
       simp only [hd,if_true,bB hs,bB hl,Option.bind_some,fP,hb,bne_self_eq_false,Bool.false_eq_true,if_false,Bool.not_false,bJ k (by omega)]
      rw [eW r1]
      exact ih (k+1) (by omega) fun k' s' l' h1 h2 h3=>by
       rcases Nat.lt_or_ge k' k with q | q
       ·exact hno k' s' l' q h2 h3
       ·have e:k'=k:=by omega
        subst e
        rw [hs] at h2;rw [hl] at h3
        injection h2 with h2;injection h3 with h3
        subst h2 h3;exact nf
    | true =>
      obtain ⟨q,hq,v1,v2,v3,v4,hput⟩:=Yk vs vx lv cg cm TP hb (i:Int) (k:Int)
      left
      refine ⟨k,s,l,⟨(i:Int),(k:Int),(wJ P 4).2.1,(wJ P 4).2.2.1,(wJ P 4).2.2.2⟩,q,hs,hl,rfl,rfl,hq,cM ?_⟩
      unfold pZ
      simp only [hd,if_true,bB hs,bB hl,Option.bind_some,fP,hb,bne_self_eq_false,Bool.false_eq_true,if_false,Bool.not_true,hput,Int.toNat_natCast]
      rw [iR (by simp [LIM];omega)]
      simp only [Option.bind_some]
      rw [iR (by simp [LIM];omega)]
      rfl
 exact key sheets.length 0 (by omega) fun k' s l h=>by omega
end
theorem Xd.mono {x:aQ} {s:aZ} {l l':List (List aE)} {t:bK} (h:Xd x s l t) (hs:∀ y ∈ l,y ∈ l'):Xd x s l' t:=fun n hn ha X Y hF=>by
 refine h n hn ha X Y ⟨hF.1,hF.2.1,hF.2.2.1,hF.2.2.2.1,fun o ho r hr=>hF.2.2.2.2 o ?_ r hr⟩
 rcases List.mem_append.1 ho with q | q
 ·exact List.mem_append_left _ q
 ·obtain ⟨z,hz,rfl⟩:=List.mem_map.1 q
  obtain ⟨y,hy,hz⟩:=List.mem_flatten.1 hz
  exact List.mem_append_right _ (List.mem_map.2 ⟨z,List.mem_flatten.2 ⟨y,hs y hy,hz⟩,rfl⟩)
structure Inv (sheets:List aZ) (pieces:List aQ) (t:bK) (i:Nat) (T:List (List (List aE))) (O:List aS) (L:List Int) (Q:List aQ):Prop where
 tok:TOk sheets i T
 ol:O.length+L.length=i
 oq:Q.length=O.length
 pl:∀ (j:Nat) a b,O[j]?=some a→Q[j]?=some b→∃ (x:aQ) (s:aZ) (m k:Nat) (tk:List (List aE)),a.aQ=m∧m<i∧pieces[m]?=some x∧a.aZ=k∧sheets[k]?=some s∧KN x s tk t a b∧(∀ l ∈ tk,∀ r ∈ l,vR r) ∧
  (∀ (j':Nat) a' b',j'<j→O[j']?=some a'→Q[j']?=some b'→a'.aZ=a.aZ→b'.aD ∈ tk)
 m1:∀ (j:Nat) a b,O[j]?=some a→Q[j]?=some b→∃ (k:Nat) (l:List (List aE)),a.aZ=k∧T[k]?=some l∧b.aD ∈ l
 m2:∀ (k:Nat) l x,T[k]?=some l→x ∈ l→∃ (j:Nat) (a:aS) (b:aQ),O[j]?=some a∧Q[j]?=some b∧a.aZ=k∧b.aD=x
 asc:∀ (j j':Nat) a a',j<j'→O[j]?=some a→O[j']?=some a'→a.aQ<a'.aQ
 rest:∀ z ∈ L,∃ m:Nat,z=m∧m<i∧∃ x,pieces[m]?=some x∧∀ (k:Nat) s l,sheets[k]?=some s→T[k]?=some l→Xd x s l t
theorem Hx {α:Type} {l:List α} {x y:α} {j:Nat} (h:(l++[x])[j]?=some y):(j<l.length∧l[j]?=some y)∨(j=l.length∧y=x):=by
 rcases Nat.lt_or_ge j l.length with q | q
 ·rw [List.getElem?_append_left q] at h;exact .inl ⟨q,h⟩
 ·rw [List.getElem?_append_right q] at h
  rcases Nat.eq_zero_or_pos (j-l.length) with e | e
  ·rw [e] at h;simp at h;exact .inr ⟨by omega,h.symm⟩
  ·rw [List.getElem?_eq_none (by simp;omega)] at h;cases h
theorem Qp {α:Type} {l:List α} {x y:α} {j:Nat} (h:l[j]?=some y):(l++[x])[j]?=some y:=by
 rw [List.getElem?_append_left (bL h)];exact h
section
variable {sheets:List aZ} {pieces:List aQ} {t:bK} {i:Nat} {T:List (List (List aE))} {O:List aS} {L:List Int} {Q:List aQ} (h:Inv sheets pieces t i T O L Q)
include h
theorem Inv.put {x:aQ} (hx:pieces[i]?=some x) {k:Nat} {s:aZ} {l:List (List aE)} {p:aS} {q:aQ} (hs:sheets[k]?=some s) (hl:T[k]?=some l) (pp:p.aQ=i) (ps:p.aZ=k) (h1:KN x s l t p q):Inv sheets pieces t (i+1) (T.set k (l++[q.aD])) (O++[p]) L (Q++[q]):=by
 have lm:=List.mem_of_getElem? hl
 have kl:=bL hl
 have new:∀ l' ∈ T.set k (l++[q.aD]),l' ∈ T∨l'=l++[q.aD]:=fun l' h'=>List.mem_or_eq_of_mem_set h'
 have grow:∀ (k':Nat) l',T[k']?=some l'→∃ l2,(T.set k (l++[q.aD]))[k']?=some l2∧∀ y ∈ l',y ∈ l2:=fun k' l' h'=>by
  by_cases e:k=k'
  ·subst e
   rw [hl] at h';injection h' with h';subst h'
   exact ⟨l++[q.aD],by rw [List.getElem?_set,if_pos rfl,if_pos kl],fun y hy=>List.mem_append_left _ hy⟩
  ·exact ⟨l',by rw [List.getElem?_set,if_neg e];exact h',fun y hy=>hy⟩
 have back:∀ (k':Nat) l',(T.set k (l++[q.aD]))[k']?=some l'→(k'=k∧l'=l++[q.aD])∨T[k']?=some l':=fun k' l' h'=>by
  rw [List.getElem?_set] at h'
  by_cases e:k=k'
  ·rw [if_pos e,if_pos kl] at h';exact .inl ⟨e.symm,(Option.some.inj h').symm⟩
  ·rw [if_neg e] at h';exact .inr h'
 have hoq:=h.oq
 refine ⟨⟨by rw [List.length_set];exact h.tok.len,fun l' h'=>?_,fun l' h'=>?_,fun l' h'=>?_⟩, ?_, ?_,fun j a b ha hb=>?_,fun j a b ha hb=>?_,fun k' l' y h' hy=>?_,fun j j' a a' hj ha ha'=>?_,fun z hz=>?_⟩
 ·rcases new l' h' with w | rfl
  ·have:=h.tok.n l' w;omega
  ·have:=h.tok.n l lm;simp;omega
 ·rcases new l' h' with w | rfl
  ·exact h.tok.l12 l' w
  ·intro y hy
   rcases List.mem_append.1 hy with w | w
   ·exact h.tok.l12 l lm y w
   ·simp at w;subst w;exact h1.q12
 ·rcases new l' h' with w | rfl
  ·exact h.tok.v l' w
  ·intro y hy
   rcases List.mem_append.1 hy with w | w
   ·exact h.tok.v l lm y w
   ·simp at w;subst w;exact h1.qv
 ·have:=h.ol;simp;omega
 ·simp;omega
 ·rcases Hx ha with ⟨j1,ha⟩ | ⟨j1,rfl⟩
  ·rcases Hx hb with ⟨_,hb⟩ | ⟨j2,_⟩
   ·obtain ⟨x',s',m,k',tk,a1,a2,a3,a4,a5,a6,a7,a8⟩:=h.pl j a b ha hb
    refine ⟨x',s',m,k',tk,a1,by omega,a3,a4,a5,a6,a7,fun j' a' b' hj' ha' hb' hss=>?_⟩
    have j3:j'<O.length:=by omega
    rw [List.getElem?_append_left j3] at ha'
    rw [List.getElem?_append_left (by omega)] at hb'
    exact a8 j' a' b' hj' ha' hb' hss
   ·omega
  ·rcases Hx hb with ⟨j2,_⟩ | ⟨_,rfl⟩
   ·omega
   ·refine ⟨x,s,i,k,l,pp,Nat.lt_succ_self i,hx,ps,hs,h1,h.tok.v l lm,fun j' a' b' hj' ha' hb' hss=>?_⟩
    have j3:j'<O.length:=by omega
    rw [List.getElem?_append_left j3] at ha'
    rw [List.getElem?_append_left (by omega)] at hb'
    obtain ⟨k2,l2,c1,c2,c3⟩:=h.m1 j' a' b' ha' hb'
    have:k2=k:=by rw [hss,ps] at c1;omega
    subst this
    rw [hl] at c2;injection c2 with c2;subst c2;exact c3
 ·rcases Hx ha with ⟨j1,ha⟩ | ⟨j1,rfl⟩
  ·rcases Hx hb with ⟨_,hb⟩ | ⟨j2,_⟩
   ·obtain ⟨k2,l2,c1,c2,c3⟩:=h.m1 j a b ha hb
    obtain ⟨l3,d1,d2⟩:=grow k2 l2 c2
    exact ⟨k2,l3,c1,d1,d2 _ c3⟩
   ·omega
  ·rcases Hx hb with ⟨j2,_⟩ | ⟨_,rfl⟩
   ·omega
   ·exact ⟨k,l++[b.aD],ps,by rw [List.getElem?_set,if_pos rfl,if_pos kl],List.mem_append_right _ (by simp)⟩
 ·rcases back k' l' h' with ⟨rfl,rfl⟩ | w
  ·rcases List.mem_append.1 hy with v | v
   ·obtain ⟨j,a,b,c1,c2,c3,c4⟩:=h.m2 k' l y hl v
    exact ⟨j,a,b,Qp c1,Qp c2,c3,c4⟩
   ·simp at v
    exact ⟨O.length,p,q,by simp,by rw [← hoq];simp,ps,v.symm⟩
  ·obtain ⟨j,a,b,c1,c2,c3,c4⟩:=h.m2 k' l' y w hy
   exact ⟨j,a,b,Qp c1,Qp c2,c3,c4⟩
 ·rcases Hx ha' with ⟨j1,ha'⟩ | ⟨j1,rfl⟩
  ·rw [List.getElem?_append_left (by omega)] at ha
   exact h.asc j j' a a' hj ha ha'
  ·have j2:j<O.length:=by omega
   rw [List.getElem?_append_left j2] at ha
   obtain ⟨b,hb⟩:∃ b,Q[j]?=some b:=⟨_,List.getElem?_eq_getElem (by omega)⟩
   obtain ⟨_,_,m,_,_,a1,a2,_⟩:=h.pl j a b ha hb
   rw [a1,pp];omega
 ·obtain ⟨m,z1,z2,x',z3,z4⟩:=h.rest z hz
  refine ⟨m,z1,by omega,x',z3,fun k' s' l' hs' hl'=>?_⟩
  rcases back k' l' hl' with ⟨rfl,rfl⟩ | w
  ·exact (z4 k' s' l hs' hl).mono fun y hy=>List.mem_append_left _ hy
  ·exact z4 k' s' l' hs' w
theorem Inv.left {x:aQ} (hx:pieces[i]?=some x) (hno:∀ (k:Nat) s l,sheets[k]?=some s→T[k]?=some l→Xd x s l t):Inv sheets pieces t (i+1) T O (L++[(i:Int)]) Q:=by
 refine ⟨⟨h.tok.len,fun l hl=>by have:=h.tok.n l hl;omega,h.tok.l12,h.tok.v⟩,by have:=h.ol;simp;omega,h.oq,fun j a b ha hb=>?_,h.m1,h.m2,h.asc,fun z hz=>?_⟩
 ·obtain ⟨x',s',m,k',tk,a1,a2,a3⟩:=h.pl j a b ha hb
  exact ⟨x',s',m,k',tk,a1,by omega,a3⟩
 ·rcases List.mem_append.1 hz with w | w
  ·obtain ⟨m,z1,z2,z3⟩:=h.rest z w
   exact ⟨m,z1,by omega,z3⟩
  ·simp at w;subst w
   exact ⟨i,rfl,Nat.lt_succ_self i,x,hx,hno⟩
end
section
variable {sheets:List aZ} {pieces:List aQ} {t:bK} (hs4:sheets.length≤4) (hp8:pieces.length≤8) (gs:∀ s ∈ sheets,bC s=some 0) (gp:∀ x ∈ pieces,aX x=some 0) (ht:cN t=some true)
include hs4 hp8 gs gp ht
theorem NK:∃ T O L Q,Inv sheets pieces t pieces.length T O L Q∧aL (yV sheets pieces t) (0,List.replicate sheets.length [],[],[])=some (O,L):=by
 have key:∀ (m i:Nat) T O L Q,i+m=pieces.length→Inv sheets pieces t i T O L Q→∃ T' O' L' Q',Inv sheets pieces t pieces.length T' O' L' Q'∧aL (yV sheets pieces t) ((i:Int),T,O,L)=some (O',L'):=by
  intro m
  induction m with
  | zero =>
    intro i T O L Q hi h
    obtain rfl:i=pieces.length:=by omega
    exact ⟨T,O,L,Q,h,cM (by simp [yV])⟩
  | succ m ih =>
    intro i T O L Q hi h
    have hil:i<pieces.length:=by omega
    obtain ⟨x,hx⟩:∃ x,pieces[i]?=some x:=⟨_,List.getElem?_eq_getElem hil⟩
    have hd:decide ((i:Int)<(pieces.length:Int))=true:=by simp [hil]
    have hol:=h.ol
    rcases NG hs4 hp8 gs gp ht hx h.tok (O:=O) (by omega) L with ⟨k,s,l,p,q,a1,a2,a3,a4,a5,a6⟩ | ⟨a1,a3⟩
    ·obtain ⟨T',O',L',Q',b1,b2⟩:=ih (i+1) _ _ _ _ (by omega) (h.put hx a1 a2 a3 a4 a5)
     refine ⟨T',O',L',Q',b1, ?_⟩
     rw [eW (s':=(((i+1:Nat):Int),T.set k (l++[q.aD]),O++[p],L)),b2]
     unfold yV Cw
     simp only [hd,if_true,bB hx,Option.bind_some,a6,bJ i (by omega)]
    ·obtain ⟨T',O',L',Q',b1,b2⟩:=ih (i+1) _ _ _ _ (by omega) (h.left hx a3)
     refine ⟨T',O',L',Q',b1, ?_⟩
     rw [eW (s':=(((i+1:Nat):Int),T,O,L++[(i:Int)])),b2]
     unfold yV Cw
     simp only [hd,if_true,bB hx,Option.bind_some,a1,bJ i (by omega)]
     rw [iR (by simp [LIM];omega)];rfl
 have h0:Inv sheets pieces t 0 (List.replicate sheets.length []) [] [] []:=by
  have r:∀ l ∈ List.replicate sheets.length ([]:List (List aE)),l=[]:=fun l hl=>List.eq_of_mem_replicate hl
  refine ⟨⟨by simp,fun l hl=>by rw [r l hl];simp,fun l hl=>by rw [r l hl];simp,fun l hl=>by rw [r l hl];simp⟩,rfl,rfl,fun j a b ha _=>by simp at ha,fun j a b ha _=>by simp at ha,fun k l x hl hx=>?_,fun j j' a a' _ ha _=>by simp at ha,fun z hz=>by simp at hz⟩
  rw [r l (List.mem_of_getElem? hl)] at hx;cases hx
 obtain ⟨T,O,L,Q,a,b⟩:=key pieces.length 0 _ _ _ _ (by omega) h0
 exact ⟨T,O,L,Q,a,b⟩
end
theorem DA {s:aZ} {l:List aE} (hval:bC s=some 0) (hl:l.length≤12) (hv:zJ l) (ho:outs ⟨0,0,s.bI,s.aY⟩ l=false) (hd:(List.range l.length).any (Ny s l)=false) :
  ∃ r,yX s l=some r∧((48<s.Used.length+l.length∧r.2.1=4)∨(r.2.1=0∧Rem s l∧r.1=⟨s.Name,s.aW,s.bQ,s.bM,s.bI,s.aY,s.aT,s.Used++l⟩)):=by
 obtain ⟨r,r1,_,r3⟩:=Yz s l (by omega)
 refine ⟨r,r1, ?_⟩
 rcases r3 with ⟨r3,_⟩ | r3
 case inr=>exact .inr r3
 left
 obtain ⟨b,b1,_,b3⟩:=Bx s
 have hb:b=0:=Option.some.inj (b1.symm.trans hval)
 subst hb
 have v:=b3 rfl
 have n1:=v.n1;have n2:=v.n2;have w:=v.w;have hh:=v.h
 have e1:aH 48 (s.Used.length:Int)=48-(s.Used.length:Int):=bE (by omega) (by omega)
 have hnv:(l.any fun x=>!decide (vR x))=false:=by
  rw [List.any_eq_false];intro r hr;simp [hv r hr]
 have hi:gO s 0=some (⟨0,0,s.bI,s.aY⟩,decide (vR ⟨0,0,s.bI,s.aY⟩)):=by
  unfold gO
  rw [iF]
  have e0:cK 2 0=0:=by rw [tJ (by omega) (by omega)];rfl
  rw [e0,bE (by omega) (by omega),bE (by omega) (by omega),Int.sub_zero,Int.sub_zero]
  rfl
 have l1:aL (kB l (⟨0,0,s.bI,s.aY⟩,decide (vR ⟨0,0,s.bI,s.aY⟩))) 0=some (if outs ⟨0,0,s.bI,s.aY⟩ l then .inl () else .inr ()):=by
  refine dH l (kB l (⟨0,0,s.bI,s.aY⟩,decide (vR ⟨0,0,s.bI,s.aY⟩))) (fun k=>(k:Int)) (fun x=>!decide (pL x ⟨0,0,s.bI,s.aY⟩)) _ _ rfl (fun k x hx=>?_) ?_
  ·have hk:=bL hx
   unfold kB
   have hd:decide ((k:Int)<(l.length:Int))=true:=by simp [hk]
   simp only [hd,if_true,bB hx,Option.bind_some,Mw,bJ k (by omega)]
  ·simp [kB]
 have cores:∀ k x,l[k]?=some x→Ny s l k=(s.aT.any (eX x) || (s.Used.any (eX x) || (l.take k).any (eX x))):=fun k x hx=>by unfold Ny;rw [hx]
 have l2:aL (kC s l) 0=some (if (List.range l.length).any (Ny s l) then .inl () else .inr ()):=by
  refine rQ l.length (kC s l) (fun k=>(k:Int)) (Ny s l) _ _ rfl (fun k hk=>?_) ?_
  ·have hx:l[k]?=some l[k]:=List.getElem?_eq_getElem hk
   have hsl:slc l 0 (k:Int)=some (l.take k):=Hu (by omega)
   unfold kC
   have hd:decide ((k:Int)<(l.length:Int))=true:=by simp [hk]
   have o:∀ b:List aE,b.length≤1000→lE [l[k]] b=some (b.any (eX l[k])):=fun b hb=>by
    rw [Is (by simp) hb];simp
   simp only [hd,if_true,bB hx,Option.bind_some,o _ (show s.aT.length≤1000 by omega),o _ (show s.Used.length≤1000 by omega),hsl,o _ (show (l.take k).length≤1000 by simp;omega),cores k _ hx,bJ k (by omega)]
   cases s.aT.any (eX l[k]) <;> cases s.Used.any (eX l[k]) <;> cases (l.take k).any (eX l[k]) <;> rfl
  ·simp [kC]
 unfold yX at r1
 rw [hval] at r1
 simp only [Option.bind_some,bne_self_eq_false,Bool.false_eq_true,if_false,e1] at r1
 by_cases hn:s.Used.length+l.length≤48
 ·exfalso
  have d1:decide ((l.length:Int)>48-(s.Used.length:Int))=false:=by rw [decide_eq_false_iff_not];omega
  simp only [d1,Bool.false_eq_true,if_false,eV l (by omega),hnv,Bool.not_false,Bool.not_true,Option.bind_some,hi,l1,ho,l2,hd] at r1
  have ap1:app [] s.aT=some s.aT:=by rw [iR (by unfold LIM;simp;omega)];rfl
  have vc:zJ s.aT:=fun r hr=>v.v r (List.mem_append.2 (.inl hr))
  have vu:zJ s.Used:=fun r hr=>v.v r (List.mem_append.2 (.inr hr))
  have ap3:app s.Used l=some (s.Used++l):=iR (by unfold LIM;omega)
  simp only [Ku (show s.aT.length≤60 by omega),Ku (show s.Used.length≤60 by omega),Ue vc,Ue vu,ap3,Option.bind_some] at r1
  have:=Option.some.inj r1
  exact r3 (by rw [← this])
 ·have d1:decide ((l.length:Int)>48-(s.Used.length:Int))=true:=by rw [decide_eq_true_eq];omega
  simp only [d1,if_true] at r1
  exact ⟨by omega,by rw [← Option.some.inj r1]⟩
structure UZ (s:aZ) (ps:List aQ):Prop where
 n:∀ b ∈ ps,b.aD.length≤12
 v:∀ b ∈ ps,zJ b.aD
 i:∀ b ∈ ps,∀ r ∈ b.aD,pL r ⟨0,0,s.bI,s.aY⟩
 o:∀ b ∈ ps,∀ r ∈ b.aD,∀ z ∈ s.aT++s.Used,¬ ovR r z
 own:∀ b ∈ ps,∀ k,k<b.aD.length→yG eX b.aD k=false
 two:∀ (j' j:Nat) a b,j'<j→ps[j']?=some a→ps[j]?=some b→∀ r ∈ b.aD,∀ z ∈ a.aD,¬ ovR r z
theorem HF {s:aZ} {ps:List aQ} (hval:bC s=some 0) (H:UZ s ps) (hps:ps.length≤1000):∃ r,sD s ps=some r∧r.2.1=true:=by
 have key:∀ (m i:Nat) (U:List aE),i+m=ps.length→bC ⟨s.Name,s.aW,s.bQ,s.bM,s.bI,s.aY,s.aT,U⟩=some 0→(∀ z ∈ U,z ∈ s.Used∨∃ (j:Nat) (a:aQ),j<i∧ps[j]?=some a∧z ∈ a.aD) →
   ∃ r,aL (jR ps) ((i:Int),s.Name,s.aW,s.bQ,s.bM,s.bI,s.aY,s.aT,U)=some r∧∀ j,r=.inl j→j.1=true:=by
  intro m
  induction m with
  | zero =>
    intro i U hi _ _
    obtain rfl:i=ps.length:=by omega
    exact ⟨_,cM (by simp [jR];rfl),fun j hj=>by cases hj⟩
  | succ m ih =>
    intro i U hi hU hm
    obtain ⟨b,hb⟩:∃ b,ps[i]?=some b:=⟨_,List.getElem?_eq_getElem (by omega)⟩
    have bm:=List.mem_of_getElem? hb
    have hd:decide ((i:Int)<(ps.length:Int))=true:=by simp;omega
    have b12:=H.n b bm
    have bv:=H.v b bm
    have out0:outs ⟨0,0,s.bI,s.aY⟩ b.aD=false:=by
     unfold outs
     rw [List.any_eq_false];intro r hr;simp [H.i b bm r hr]
    have bad0:(List.range b.aD.length).any (Ny ⟨s.Name,s.aW,s.bQ,s.bM,s.bI,s.aY,s.aT,U⟩ b.aD)=false:=by
     rw [List.any_eq_false]
     intro k hk
     rw [List.mem_range] at hk
     have hx:b.aD[k]?=some b.aD[k]:=List.getElem?_eq_getElem hk
     have xm:=List.getElem_mem hk
     have o1:s.aT.any (eX b.aD[k])=false:=by
      rw [List.any_eq_false];intro z hz w
      exact H.o b bm _ xm z (List.mem_append_left _ hz) (of_decide_eq_true w)
     have o2:U.any (eX b.aD[k])=false:=by
      rw [List.any_eq_false];intro z hz w
      rcases hm z hz with q | ⟨j,a,hj,ha,hza⟩
      ·exact H.o b bm _ xm z (List.mem_append_right _ q) (of_decide_eq_true w)
      ·exact H.two j i a b hj ha hb _ xm z hza (of_decide_eq_true w)
     have o3:(b.aD.take k).any (eX b.aD[k])=false:=by
      have:=H.own b bm k hk
      unfold yG at this
      rw [hx] at this;exact this
     unfold Ny
     rw [hx]
     simp [o1,o2,o3]
    obtain ⟨r,r1,r2⟩:=DA hU b12 bv out0 bad0
    obtain ⟨vs,f1,_⟩:=Yc hU
    have hc:Qc [b.aD]=0:=by
     have hl48:¬ b.aD.length>48:=by omega
     have hv:Pu b.aD=true:=Wx.2 bv
     unfold Qc
     simp only [List.any_cons,List.any_nil,hl48,decide_false,Bool.or_false,Bool.false_eq_true,if_false,List.all_cons,List.all_nil,hv,Bool.and_true,if_true]
    have ha:Jt b.aD=some (eB MM (cov b.aD),0):=by
     rw [PL];unfold KT;rw [if_pos hc]
    obtain ⟨x,e',a1,a2,a3,a4,a5,a6⟩:=r
    simp only at r2
    rcases r2 with ⟨h48,h4⟩ | ⟨h0,hR,hx⟩
    ·subst h4
     refine ⟨_,cM (r:=.inl (true,s.Name,s.aW,s.bQ,s.bM,s.bI,s.aY,s.aT,U)) ?_,fun j hj=>by cases hj;rfl⟩
     unfold jR
     simp only [hd,if_true,f1,bB hb,r1,Option.bind_some,beq_self_eq_true]
    ·subst h0 hx
     have f2:=MA hR
     have c1:=Ey (M:=MM) (cov b.aD);have c2:=Ex (cov b.aD)
     have d1:=Ey (M:=MM) (cov (s.aT++U));have d2:=Ex (cov (s.aT++U))
     have w:=vs.w;have hh:=vs.h
     simp only at w hh
     have m1:s.bI*s.aY≤1048576*1048576:=Int.mul_le_mul w.2 hh.2 (by omega) (by omega)
     have m0:0≤s.bI*s.aY:=Int.mul_nonneg (by omega) (by omega)
     have hsub:aH (Vj ⟨s.Name,s.aW,s.bQ,s.bM,s.bI,s.aY,s.aT,U⟩) (eB MM (cov b.aD))=Vj ⟨s.Name,s.aW,s.bQ,s.bM,s.bI,s.aY,s.aT,U⟩-eB MM (cov b.aD):=by
      have hF:Vj ⟨s.Name,s.aW,s.bQ,s.bM,s.bI,s.aY,s.aT,U⟩=s.bI*s.aY-eB MM (cov (s.aT++U)):=rfl
      generalize eB MM (cov b.aD)=A at c1 c2
      generalize eB MM (cov (s.aT++U))=B at d1 d2 hF
      generalize s.bI*s.aY=C at m1 m0 hF
      exact bE (by omega) (by omega)
     have step:jR ps ((i:Int),s.Name,s.aW,s.bQ,s.bM,s.bI,s.aY,s.aT,U)=some (.inl (((i+1:Nat):Int),s.Name,s.aW,s.bQ,s.bM,s.bI,s.aY,s.aT,U++b.aD)):=by
      unfold jR
      have z4:((0:Int)==4)=false:=rfl
      simp only [hd,if_true,f1,bB hb,r1,Option.bind_some,z4,Bool.false_eq_true,if_false,f2,ha,bne_self_eq_false,hsub,bJ i (by omega)]
     rw [eW step]
     exact ih (i+1) (U++b.aD) (by omega) (Yu hR) fun z hz=>by
      rcases List.mem_append.1 hz with q | q
      ·rcases hm z q with q | ⟨j,a,hj,ha,hza⟩
       ·exact .inl q
       ·exact .inr ⟨j,a,by omega,ha,hza⟩
      ·exact .inr ⟨i,b,Nat.lt_succ_self i,hb,q⟩
 have hval':bC ⟨s.Name,s.aW,s.bQ,s.bM,s.bI,s.aY,s.aT,s.Used⟩=some 0:=hval
 obtain ⟨r,r1,r2⟩:=key ps.length 0 s.Used (by omega) hval' fun z hz=>.inl hz
 unfold sD
 rw [show ((0:Int),s.Name,s.aW,s.bQ,s.bM,s.bI,s.aY,s.aT,s.Used)=(((0:Nat):Int),s.Name,s.aW,s.bQ,s.bM,s.bI,s.aY,s.aT,s.Used) from rfl,r1]
 cases r with
 | inl j=>exact ⟨_,rfl,r2 j rfl⟩
 | inr j=>exact ⟨_,rfl,rfl⟩
theorem Yj {x:aQ} (vx:aX x=some 0) {a:aS} {b:aQ} {c1 c2:ByteArray} {c3 c4:Int} (hp:lM x a=some (b,0,c1,c2,c3,c4)):b.aD.length≤12∧zJ b.aD∧∀ k,k<b.aD.length→yG eX b.aD k=false:=by
 obtain ⟨_,t0,t3⟩:=PN hp rfl
 obtain ⟨n,hn⟩:∃ n:Nat,a.zK=n:=⟨a.zK.toNat,by omega⟩
 have hn3:n≤3:=by omega
 by_cases hxy:(-1048576≤a.X∧a.X≤1048576)∧(-1048576≤a.Y∧a.Y≤1048576)
 case neg =>
  exfalso
  unfold lM at hp
  simp only [vx,Option.bind_some,bne_self_eq_false,Bool.false_eq_true,if_false,xL,t0,t3,and_self,decide_true,Bool.not_true] at hp
  by_cases hx : -1048576≤a.X∧a.X≤1048576
  ·have hy:¬ (-1048576≤a.Y∧a.Y≤1048576):=fun q=>hxy ⟨hx,q⟩
   simp only [hx,hy,and_self,decide_true,decide_false,if_true,Bool.not_false,Option.bind_some,Option.some.injEq,Prod.mk.injEq] at hp
   exact absurd hp.2.1 (by decide)
  ·simp only [hx,decide_false,Bool.false_eq_true,if_false,Option.bind_some,if_true,Option.some.injEq,Prod.mk.injEq] at hp
   exact absurd hp.2.1 (by decide)
 obtain ⟨q,c,u1,u2,u3,u4,_,e2,_,e4,e5⟩:=GM vx hn3 a hn hxy.1 hxy.2
 rw [hp] at e2
 simp only [Option.some.injEq,Prod.mk.injEq] at e2
 obtain ⟨rfl,rfl,_⟩:=e2
 obtain ⟨er,vr,_⟩:=e4 rfl
 obtain ⟨_,p2⟩:=Yw vx n hn3
 obtain ⟨_,_,_,vg⟩:=Wh p2
 simp only at vg
 have iso:=SQ a.X a.Y (l:=trn n x.aD x.aD) fun r hr=>⟨vg.v r (List.mem_append_left _ hr),vr r hr⟩
 refine ⟨e5,fun r hr=>?_,fun k hk=>?_⟩
 ·rw [er] at hr
  obtain ⟨z,hz,rfl⟩:=List.mem_map.1 hr
  exact vr z hz
 ·rw [er] at hk ⊢
  rw [List.length_map] at hk
  rw [Wj fun y hy z hz=>iso.ov y hy z hz]
  exact vg.ov k hk
structure AL (sheets:List aZ) (pieces:List aQ) (l:List aS) (Q:List aQ):Prop where
 q:Q.length=l.length
 p : ∀ (j:Nat) a b,l[j]?=some a→Q[j]?=some b→∃ (x:aQ) (s:aZ) (k m:Nat),a.aQ=m∧pieces[m]?=some x∧a.aZ=k∧sheets[k]?=some s∧aX x=some 0∧(∃ c1 c2 c3 c4,lM x a=some (b,0,c1,c2,c3,c4)) ∧
   (∀ r ∈ b.aD,pL r ⟨0,0,s.bI,s.aY⟩∧∀ z ∈ s.aT++s.Used,¬ ovR r z)∧(∀ (j':Nat) a' b',j'<j→l[j']?=some a'→Q[j']?=some b'→a'.aZ=a.aZ→∀ r ∈ b.aD,∀ z ∈ b'.aD,¬ ovR r z)
def onS (l:List aS) (Q:List aQ) (k:Int):List aQ:=((l.zip Q).filter fun p=>p.1.aZ==k).map fun p=>p.2
theorem Qy {l:List aS} {Q:List aQ} {k:Int}:∀ {l:List aS} {Q:List aQ} {j:Nat} {b:aQ},(onS l Q k)[j]?=some b→∃ (i:Nat) (a:aS),l[i]?=some a∧Q[i]?=some b∧a.aZ=k∧((l.zip Q).take i).countP (fun p=>p.1.aZ==k)=j
 | [],Q,j,b,h=>by simp [onS] at h
 | a::l,[],j,b,h=>by simp [onS] at h
 | a::l,q::Q,j,b,h=>by
   unfold onS at h
   rw [List.zip_cons_cons,List.filter_cons] at h
   by_cases e:a.aZ=k
   ·have e':(a.aZ==k)=true:=by rw [beq_iff_eq];exact e
    rw [if_pos e',List.map_cons] at h
    cases j with
    | zero =>
      simp at h
      exact ⟨0,a,rfl,by simp [h],e,by simp⟩
    | succ j =>
      rw [List.getElem?_cons_succ] at h
      obtain ⟨i,a',h1,h2,h3,h4⟩:=Qy (l:=l) (Q:=Q) (j:=j) (b:=b) h
      exact ⟨i+1,a',by simpa using h1,by simpa using h2,h3,by rw [List.zip_cons_cons,List.take_succ_cons,List.countP_cons,h4];simp [e']⟩
   ·have e':(a.aZ==k)=false:=by rw [beq_eq_false_iff_ne];exact e
    rw [if_neg (by rw [e'];decide)] at h
    obtain ⟨i,a',h1,h2,h3,h4⟩:=Qy (l:=l) (Q:=Q) (j:=j) (b:=b) h
    exact ⟨i+1,a',by simpa using h1,by simpa using h2,h3,by rw [List.zip_cons_cons,List.take_succ_cons,List.countP_cons,h4];simp [e']⟩
theorem RB {l:List aS} {Q:List aQ} {k:Int} {i:Nat} {a:aS} {b:aQ} (h1:l[i]?=some a) (h2:Q[i]?=some b) (h3:a.aZ=k):b ∈ onS l Q k:=by
 unfold onS
 refine List.mem_map.2 ⟨(a,b),List.mem_filter.2 ⟨?_,by simp [h3]⟩,rfl⟩
 refine List.mem_of_getElem? (i:=i) ?_
 rw [List.getElem?_zip_eq_some]
 exact ⟨h1,h2⟩
theorem GA {sheets:List aZ} {l:List aS} {Q:List aQ} (j0:eA) (h:AL sheets j0.wF l Q) (hl:l.length≤1000) (k:Int):sC j0 l k=some (onS l Q k):=by
 have hq:=h.q
 unfold sC
 obtain ⟨o,q1,q2,q3⟩:=kL l (fun i (o:List aQ)=>((i:Int),o)) (sP j0 l k) (fun o=>o) (fun i o=>o=(((l.zip Q).take i).filter fun p=>p.1.aZ==k).map (fun p=>p.2)∧o.length≤i) [] (by simp)
  (fun i a o ha hI=>by
   have hi:=bL ha
   have hd:decide ((i:Int)<(l.length:Int))=true:=by simp [hi]
   obtain ⟨b,hb⟩:∃ b,Q[i]?=some b:=⟨_,List.getElem?_eq_getElem (by omega)⟩
   obtain ⟨x,s,k',m,e1,e2,e3,e4,e5,⟨c1,c2,c3,c4,e6⟩,_⟩:=h.p i a b ha hb
   have hz:(l.zip Q)[i]?=some (a,b):=by rw [List.getElem?_zip_eq_some];exact ⟨ha,hb⟩
   obtain ⟨i1,i2⟩:=hI
   have mlt:=bL e2
   have g1:decide (a.aQ ≥ 0)=true:=by rw [e1];simp
   have g2:decide (a.aQ<(j0.wF.length:Int))=true:=by rw [e1];simp [mlt]
   unfold sP sO
   simp only [hd,if_true,bB ha,Option.bind_some,g1,g2,bJ i (by omega)]
   rw [iT hz,List.filter_append,List.map_append,← i1]
   have ix:idx j0.wF a.aQ=some x:=by rw [e1];exact bB e2
   by_cases e:a.aZ=k
   ·have e':(a.aZ==k)=true:=by rw [beq_iff_eq];exact e
    simp only [e',if_true,Option.bind_some,ix,e6]
    rw [iR (by simp [LIM];omega)]
    refine ⟨_,rfl, ?_,by simp;omega⟩
    simp [List.filter_cons,e']
   ·have e':(a.aZ==k)=false:=by rw [beq_eq_false_iff_ne];exact e
    simp only [e',Bool.false_eq_true,if_false,Option.bind_some]
    refine ⟨_,rfl, ?_,by omega⟩
    simp [List.filter_cons,e']) (fun o _=>by simp [sP])
 have hz:(l.zip Q).take l.length=l.zip Q:=List.take_of_length_le (by rw [List.length_zip];omega)
 rw [hz] at q2
 rw [show ((0:Int),([]:List aQ))=(((0:Nat):Int),[]) from rfl,q1,q2]
 rfl
theorem GN (l:List aS) (Q:List aQ) (k:Int):(onS l Q k).length≤l.length:=by
 unfold onS
 rw [List.length_map]
 refine Nat.le_trans (List.length_filter_le _ _) ?_
 rw [List.length_zip];omega
theorem GB {sheets:List aZ} {pieces:List aQ} {l:List aS} {Q:List aQ} (h:AL sheets pieces l Q) {k:Nat} {s:aZ} (hs:sheets[k]?=some s):UZ s (onS l Q (k:Int)):=by
 have get:∀ b ∈ onS l Q (k:Int),∃ (i:Nat) (a:aS),l[i]?=some a∧Q[i]?=some b∧a.aZ=(k:Int):=fun b hb=>by
  obtain ⟨j,hj⟩:=List.mem_iff_getElem?.1 hb
  obtain ⟨i,a,h1,h2,h3,_⟩:=Qy (l:=l) (Q:=Q) hj
  exact ⟨i,a,h1,h2,h3⟩
 have fact:∀ b ∈ onS l Q (k:Int),b.aD.length≤12∧zJ b.aD∧(∀ k,k<b.aD.length→yG eX b.aD k=false)∧∀ r ∈ b.aD,pL r ⟨0,0,s.bI,s.aY⟩∧∀ z ∈ s.aT++s.Used,¬ ovR r z:=fun b hb=>by
  obtain ⟨i,a,h1,h2,h3⟩:=get b hb
  obtain ⟨x,s',k',m,e1,e2,e3,e4,e5,⟨c1,c2,c3,c4,e6⟩,e7,_⟩:=h.p i a b h1 h2
  have:k'=k:=by omega
  subst this
  rw [hs] at e4;injection e4 with e4;subst e4
  obtain ⟨f1,f2,f3⟩:=Yj e5 e6
  exact ⟨f1,f2,f3,e7⟩
 refine ⟨fun b hb=>(fact b hb).1,fun b hb=>(fact b hb).2.1,fun b hb r hr=>((fact b hb).2.2.2 r hr).1,fun b hb r hr=>((fact b hb).2.2.2 r hr).2,fun b hb=>(fact b hb).2.2.1,fun j' j a b hj ha hb r hr z hz=>?_⟩
 obtain ⟨i',a',h1,h2,h3,h4⟩:=Qy (l:=l) (Q:=Q) ha
 obtain ⟨i,a2,g1,g2,g3,g4⟩:=Qy (l:=l) (Q:=Q) hb
 have hlt:i'<i:=by
  rcases Nat.lt_or_ge i' i with q | q
  ·exact q
  ·exfalso
   have:((l.zip Q).take i).countP (fun p=>p.1.aZ==(k:Int))≤((l.zip Q).take i').countP (fun p=>p.1.aZ==(k:Int)):=by
    have:(l.zip Q).take i=((l.zip Q).take i').take i:=by rw [List.take_take];congr 1;omega
    rw [this]
    exact List.Sublist.countP_le (List.take_sublist _ _)
   omega
 obtain ⟨_,_,_,_,_,_,_,_,_,_,_,e8⟩:=h.p i a2 b g1 g2
 exact e8 i' a' a hlt h1 h2 (h3.trans g3.symm) r hr z hz
theorem Vs {α:Type} {l:List α} {i:Int} {x:α} (h:idx l i=some x):∃ m:Nat,i=m∧l[m]?=some x:=by
 unfold idx at h
 split at h
 ·exact ⟨i.toNat,by omega,h⟩
 ·cases h
theorem EK {sheets:List aZ} {pieces:List aQ} {t:bK} {l:List aS} {Q:List aQ} (gs:∀ s ∈ sheets,bC s=some 0) (gp:∀ x ∈ pieces,aX x=some 0) (hm:0≤t.bF∧t.bF≤14400) (hq:Q.length=l.length) (h:∀ (j:Nat) a b,l[j]?=some a→Q[j]?=some b→OKp sheets pieces t l j (Q.take j) a b):AL sheets pieces l Q:=by
 refine ⟨hq,fun j a b ha hb=>?_⟩
 obtain ⟨x,n,m,g,h',s,e1,e2,_,e4,_,e6,e7⟩:=h j a b ha hb
 obtain ⟨mm,m1,m2⟩:=Vs e1
 obtain ⟨kk,k1,k2⟩:=Vs e4
 have vs:VS s:=by
  obtain ⟨z,z1,_,z3⟩:=Bx s
  exact z3 (Option.some.inj (z1.symm.trans (gs s (List.mem_of_getElem? k2))))
 have w:=vs.w;have hh:=vs.h
 have vx:=gp x (List.mem_of_getElem? m2)
 have einn:Ft s t.bF=⟨t.bF,t.bF,s.bI-2*t.bF,s.aY-2*t.bF⟩:=by
  unfold Ft
  have e0:cK 2 t.bF=2*t.bF:=tJ (by omega) (by omega)
  rw [e0,bE (by omega) (by omega),bE (by omega) (by omega)]
 obtain ⟨_,bv,_⟩:=Yj vx e2
 unfold lies at e6
 rw [Bool.not_eq_true',List.any_eq_false,einn] at e6
 refine ⟨x,s,kk,mm,m1,m2,k1,k2,vx,⟨_,_,_,_,e2⟩,fun r hr=>?_,fun j' a' b' hj ha' hb' hss r hr z hz hov=>?_⟩
 ·have q:=e6 r hr
  simp only [Bool.or_eq_true,not_or,Bool.not_eq_true',decide_eq_false_iff_not,Classical.not_not] at q
  obtain ⟨q1,q2,q3⟩:=q
  obtain ⟨v1,_,i1,i2,i3,i4⟩:=q1
  simp only at i1 i2 i3 i4
  refine ⟨⟨v1,by unfold vR;simp only;omega, ?_⟩,fun z hz hov=>?_⟩
  ·simp only;omega
  ·rcases List.mem_append.1 hz with y | y
   ·exact q2 (List.any_eq_true.2 ⟨z,y,decide_eq_true hov⟩)
   ·exact q3 (List.any_eq_true.2 ⟨z,y,decide_eq_true hov⟩)
 ·have hjl:=bL ha
  have hlt:(l.take j).length=j:=by rw [List.length_take];omega
  have q:=List.any_eq_false.1 e7 j' (by rw [List.mem_range,hlt];exact hj)
  unfold We at q
  have g1:(l.take j)[j']?=some a':=by rw [List.getElem?_take,if_pos hj];exact ha'
  have g2:(Q.take j)[j']?=some b':=by rw [List.getElem?_take,if_pos hj];exact hb'
  rw [g1,g2] at q
  simp only at q
  have hss':(a'.aZ==a.aZ)=true:=by rw [beq_iff_eq];exact hss
  rw [hss',Bool.true_and,Bool.not_eq_true',Bool.not_eq_false] at q
  unfold clr at q
  rw [Bool.not_eq_true',List.any_eq_false] at q
  have q2:=q r hr
  refine q2 (List.any_eq_true.2 ⟨z,hz, ?_⟩)
  unfold blk
  rw [decide_eq_true hov];rfl
theorem NQ {sheets:List aZ} {pieces:List aQ} {t:bK} (gs:∀ s ∈ sheets,bC s=some 0) (gp:∀ x ∈ pieces,aX x=some 0) (hg:0≤t.Gap∧t.Gap≤14400) (hm:0≤t.bF∧t.bF≤14400) {T:List (List (List aE))} {O:List aS} {L:List Int} {Q:List aQ} (h:Inv sheets pieces t pieces.length T O L Q):AL sheets pieces O Q:=by
 refine ⟨h.oq,fun j a b ha hb=>?_⟩
 obtain ⟨x,s,m,k,tk,e1,e2,e3,e4,e5,e6,e7,e8⟩:=h.pl j a b ha hb
 have vs:VS s:=by
  obtain ⟨z,z1,_,z3⟩:=Bx s
  exact z3 (Option.some.inj (z1.symm.trans (gs s (List.mem_of_getElem? e5))))
 have w:=vs.w;have hh:=vs.h
 have vx:=gp x (List.mem_of_getElem? e3)
 obtain ⟨n,n3,hn,hal,hX,hY,hr,hF⟩:=e6.fe
 have good:=(LV vx n3 vs e7 hg hm hX hY).1 hF
 refine ⟨x,s,k,m,e1,e3,e4,e5,vx,e6.put,fun r hrr=>?_,fun j' a' b' hj ha' hb' hss r hrr z hz hov=>?_⟩
 ·rw [hr] at hrr
  obtain ⟨y,hy,rfl⟩:=List.mem_map.1 hrr
  obtain ⟨v0,⟨v1,_,i1,i2,i3,i4⟩,g2,_⟩:=good y hy
  simp only at i1 i2 i3 i4
  exact ⟨⟨v1,by unfold vR;simp only;omega,by simp only;omega⟩,g2⟩
 ·have hm':=e8 j' a' b' hj ha' hb' hss
  rw [hr] at hrr
  obtain ⟨y,hy,rfl⟩:=List.mem_map.1 hrr
  have:=(good y hy).2.2.2 _ hm' z hz
  unfold blk at this
  rw [decide_eq_true hov] at this;cases this
theorem Wt:pX=some true:=by kernel_rfl
theorem EO (ps:List aQ) (hl:ps.length≤1000):aL (jA ps) (0,[])=some (ps.map fun b=>b.aD):=by
 obtain ⟨o,q1,q2⟩:=kL ps (fun i (o:List (List aE))=>((i:Int),o)) (jA ps) (fun o=>o) (fun i o=>o=(ps.take i).map fun b=>b.aD) [] (by simp)
  (fun i b o hb hI=>by
   have hi:=bL hb
   have hd:decide ((i:Int)<(ps.length:Int))=true:=by simp [hi]
   unfold jA
   simp only [hd,if_true,bB hb,Option.bind_some,bJ i (by omega)]
   rw [iR (by rw [hI];simp [LIM];omega)]
   refine ⟨_,rfl, ?_⟩
   rw [iT hb,hI];simp) (fun o _=>by simp [jA])
 rw [List.take_length] at q2
 rw [show ((0:Int),([]:List (List aE)))=(((0:Nat):Int),[]) from rfl,q1,q2]
theorem KM (sheets:List aZ) (pieces:List aQ) (t:bK):∃ O L e,Ns sheets pieces t=some (O,L,e)∧O.length≤8∧L.length≤8∧(e≠0→O=[]∧L=[]) ∧
  (e=0→sheets.length≤4∧pieces.length≤8∧(∀ s ∈ sheets,bC s=some 0)∧(∀ x ∈ pieces,aX x=some 0)∧cN t=some true∧∃ T Q,Inv sheets pieces t pieces.length T O L Q):=by
 obtain ⟨b,b1,b2,b3⟩:=Vy sheets pieces
 obtain ⟨c,c1,c2⟩:=Ja t
 unfold Ns
 rw [b1,c1]
 simp only [Option.bind_some]
 by_cases hb:b=0
 ·subst hb
  obtain ⟨g1,g2,g3,g4⟩:=b3 rfl
  simp only [bne_self_eq_false,Bool.false_eq_true,if_false]
  cases c with
  | false=>exact ⟨[],[],1,rfl,by simp,by simp,fun _=>⟨rfl,rfl⟩,fun q=>absurd q (by decide)⟩
  | true =>
    obtain ⟨T,O,L,Q,h1,h2⟩:=NK g1 g2 g3 g4 c1
    have hol:=h1.ol
    have m2:∀ {β:Type} (z:β),mk (sheets.length:Int) z=some (List.replicate sheets.length z):=fun {β} z=>by
     unfold mk
     rw [if_pos ⟨by omega,by simp [LIM];omega⟩,Int.toNat_natCast]
    simp only [Bool.not_true,Bool.false_eq_true,if_false,m2,Option.bind_some,h2]
    exact ⟨O,L,0,rfl,by omega,by omega,fun q=>absurd rfl q,fun _=>⟨g1,g2,g3,g4,trivial,T,Q,h1⟩⟩
 ·have hb':(b != 0)=true:=by rw [bne_iff_ne];exact hb
  simp only [hb',if_true]
  exact ⟨[],[],b,rfl,by simp,by simp,fun _=>⟨rfl,rfl⟩,fun q=>absurd q hb⟩
theorem SR (j:eA) {l:List aS} (hl:l.length≤40) (hp:(∀ s ∈ j.Bl,bC s=some 0)→(∀ x ∈ j.wF,aX x=some 0)→((0≤j.Set.bF∧j.Set.bF≤14400))→∃ Q,AL j.Bl j.wF l Q):iZ j l=some true:=by
 obtain ⟨O,L,e,h1,h3,h4,h5,h6⟩:=KM j.Bl j.wF j.Set
 unfold iZ
 simp only [h1,Option.bind_some]
 by_cases he:e=0
 case neg =>
  have he':(e != 0)=true:=by rw [bne_iff_ne];exact he
  obtain ⟨rfl,rfl⟩:=h5 he
  simp only [he',if_true,List.length_nil,Wt,Option.bind_some,show (((0:Nat):Int)==0)=true from rfl]
 subst he
 obtain ⟨g1,g2,g3,g4,g5,T,Q,hI⟩:=h6 rfl
 obtain ⟨c,c1,_,c3⟩:=Yq j.Set
 have hc:c=true:=Option.some.inj (c1.symm.trans g5)
 subst hc
 obtain ⟨cg,cm⟩:=c3 rfl
 obtain ⟨Q7,hP7⟩:=hp g3 g4 cm
 have hPO:=NQ g3 g4 cg cm hI
 have hol:=hI.ol
 simp only [bne_self_eq_false,Bool.false_eq_true,if_false]
 have loop : aL (jC j l (O,L,0)) 0=some (.inr ()):=by
  have:=dH j.Bl (jC j l (O,L,0)) (fun k=>(k:Int)) (fun _=>false) (.inr ()) (.inl ()) rfl (fun k s hs=>?_) ?_
  ·refine this.trans ?_;simp
  ·have hk:=bL hs
   have hd:decide ((k:Int)<(j.Bl.length:Int))=true:=by simp [hk]
   have sv:=g3 s (List.mem_of_getElem? hs)
   have lO:=GN O Q (k:Int)
   have l7:=GN l Q7 (k:Int)
   have LO:=GB hPO hs
   obtain ⟨r1,u1,u1'⟩:=HF sv (GB hP7 hs) (by omega)
   obtain ⟨r2,u2,u2'⟩:=HF sv LO (by omega)
   have inner:aL (jB j (O,L,0) (k:Int) ((onS O Q (k:Int)).map fun b=>b.aD)) 0=some (.inr ()):=by
    have:=dH L (jB j (O,L,0) (k:Int) ((onS O Q (k:Int)).map fun b=>b.aD)) (fun k=>(k:Int)) (fun _=>false) (.inr ()) (.inl ()) rfl (fun i z hz=>?_) ?_
    ·refine this.trans ?_;simp
    ·have hi:=bL hz
     have hd:decide ((i:Int)<(L.length:Int))=true:=by simp [hi]
     obtain ⟨m,z1,z2,x,z3,z4⟩:=hI.rest z (List.mem_of_getElem? hz)
     obtain ⟨lk,hlk⟩:∃ lk,T[k]?=some lk:=⟨_,List.getElem?_eq_getElem (by have:=hI.tok.len;omega)⟩
     have nf:Xd x s ((onS O Q (k:Int)).map fun b=>b.aD) j.Set:=(z4 k s lk hs hlk).mono fun y hy=>by
      obtain ⟨jj,a,b,c1,c2,c3,c4⟩:=hI.m2 k lk y hlk hy
      exact List.mem_map.2 ⟨b,RB c1 c2 c3,c4⟩
     have tk12:∀ y ∈ (onS O Q (k:Int)).map (fun b=>b.aD),y.length≤12:=fun y hy=>by
      obtain ⟨b,hb,rfl⟩:=List.mem_map.1 hy
      exact LO.n b hb
     have tkv:∀ y ∈ (onS O Q (k:Int)).map (fun b=>b.aD),∀ r ∈ y,vR r:=fun y hy=>by
      obtain ⟨b,hb,rfl⟩:=List.mem_map.1 hy
      exact LO.v b hb
     obtain ⟨vs,_,_,P,TP,v1,v2,v3,fP⟩:=AK sv (g4 x (List.mem_of_getElem? z3)) (by rw [List.length_map];omega) tk12 tkv g5
     have hb:(wJ P 4).1=false:=by
      cases hb:(wJ P 4).1 with
      | false=>rfl
      | true =>
        obtain ⟨q,hq,_⟩:=Yk vs (g4 x (List.mem_of_getElem? z3)) tkv cg cm TP hb 0 0
        obtain ⟨n,n3,_,na,_,_,_,nF⟩:=hq.fe
        exact absurd nF (nf n (by omega) na _ _)
     have ix:idx j.wF z=some x:=by rw [z1];exact bB z3
     unfold jB
     simp only [hd,if_true,bB hs,bB hz,ix,Option.bind_some,fP,hb,Bool.false_eq_true,if_false,bne_self_eq_false,bJ i (by omega)]
    ·simp [jB]
   unfold jC
   simp only [hd,if_true,GA j hPO (by omega) (k:Int),GA j hP7 (by omega) (k:Int),bB hs,u1,u2,u1',u2',Option.bind_some,Bool.not_true,Bool.false_eq_true,if_false,EO _ (show (onS O Q (k:Int)).length≤1000 by omega),inner,bJ k (by omega)]
  ·simp [jC]
 have hlen:(aF (O.length:Int) (L.length:Int)==(j.wF.length:Int))=true:=by
  rw [aP (by omega) (by omega),beq_iff_eq];omega
 simp only [loop,Option.bind_some,hlen,if_true,Wt]
theorem Zm (j:eA) (l:List aS):wO j l=some true:=by
 unfold wO
 by_cases hl:(l.length:Int)>40
 ·simp only [hl,decide_true,if_true,Wt,Option.bind_some]
 have hl40:l.length≤40:=by omega
 obtain ⟨r,r1,_,r3⟩:=CU j.Bl j.wF j.Set l hl40
 simp only [hl,decide_false,Bool.false_eq_true,if_false,r1,Option.bind_some]
 by_cases hr:r.2=0
 ·have hr':(r.2 != 0)=false:=by rw [hr];rfl
  obtain ⟨_,_,_,_,_,Q,q1,q2⟩:=r3 hr
  simp only [hr',Bool.false_eq_true,if_false]
  exact SR j hl40 fun gs gp cm=>⟨Q,EK gs gp cm q1 q2⟩
 ·have hr':(r.2 != 0)=true:=by rw [bne_iff_ne];exact hr
  simp only [hr',if_true]
  exact SR j (by simp) fun _ _ _=>⟨[],rfl,fun j a b ha _=>by simp at ha⟩
end Go.SM
