/- Laws. -/
import Derived.Test.YtgfjbgoehhnaeaaGreatPl3
set_option linter.unusedVariables false
set_option linter.unusedSimpArgs false
set_option linter.unusedSectionVars false
namespace Go.SM
open Go Go.VI Go.Cells
def Reach (l:aT) (es:List bC) (s:RS) (xs:List bU) (t:RS):Prop:=∃ ss,Steps l es s xs ss∧sG s ss=t
theorem Reach.nil {l:aT} {es:List bC} (s:RS):Reach l es s [] s:=⟨[],.nil s,rfl⟩
theorem Ol {l:aT} {es:List bC} {s:RS} {xs:List bU} {ss:List RS} (h:Steps l es s xs ss) {ys:List bU} {ts:List RS}:Steps l es (sG s ss) ys ts→Steps l es s (xs++ys) (ss++ts)∧sG s (ss++ts)=sG (sG s ss) ts:=by
 induction h with
 | nil s=>exact fun g=>⟨g,rfl⟩
 | cons h _ ih=>exact fun g=>⟨.cons h (ih g).1,(ih g).2⟩
theorem Reach.append {l:aT} {es:List bC} {s t u:RS} {xs ys:List bU} (h:Reach l es s xs t) (g:Reach l es t ys u):Reach l es s (xs++ys) u:=by
 obtain ⟨ss,h1,rfl⟩:=h
 obtain ⟨ts,g1,rfl⟩:=g
 exact ⟨ss++ts,(Ol h1 g1).1,(Ol h1 g1).2⟩
theorem Reach.one {l:aT} {es:List bC} {s t:RS} {x:bU} (h:Step l es s x t):Reach l es s [x] t:=⟨[t],.cons h (.nil t),rfl⟩
section
variable {l:aT} (hl:LV l) (hs:∀ x ∈ l.aB,Sm x) {es:List bC} (hes:es.length≤200000)
include hl hs hes
omit hes in
theorem KO:∀ x ∈ l.aB,x.bO.length≤12:=fun x hx=>(Pb (hs x hx) (hl.pe x hx)).2.1
theorem SLf {s:RS} (hf:Fit l es.length s):SL1 s:=CO hl.n (fun x hx=>by have:=KO hl hs x hx;omega) hes hf
theorem vY {s:RS} (hf:Fit l es.length s) {x:bU} (hr:bT l es s x=some 0):∃ s',Step l es s x s':=by
 obtain ⟨e,r1,r2⟩:=ER hl (show es.length≤1000000 by omega) (SLf hl hs hes hf) x
 rw [hr] at r1
 have he:e=0:=(Option.some.inj r1).symm
 rcases r2 with ⟨h,_⟩ | ⟨_,_,s',hd,h1,h2⟩
 ·exact absurd he h
 ·exact ⟨s',hd,h1,hr,h2⟩
theorem HK {s:RS} (hf:Fit l es.length s) {p h:Nat} {y:aV} {t:List Bool} (hy:l.aB[p]?=some y) (hfl:s.bJ[p]?=some false) (ht:s.bD[p]?=some t) (hb:t[h]?=some false):Step l es s (Qg y p h) (Wj l.aB.length es s p h t):=by
 have hpl:=bG hy
 have htl:=hf.hh p t y ht hy
 have hhl:=bG hb
 have hc:y.bO[h]?=some (y.bO[h]'(by omega)):=List.getElem?_eq_getElem (by omega)
 obtain ⟨_,_,hcut⟩:=Pb (hs y (List.mem_of_getElem? hy)) (hl.pe y (List.mem_of_getElem? hy))
 have hcm:=hcut _ (List.mem_of_getElem? hc)
 generalize y.bO[h]'(by omega)=c at hc hcm
 have hx:Qg y p h=⟨(p:Int),(h:Int),0,⟨aL c.X (rO c.W 2),aL c.Y (rO c.H 2)⟩⟩:=by unfold Qg;simp only [hc]
 obtain ⟨fb,f1,f2,f3⟩:=Pe hl.n es.length (SLf hl hs hes hf)
 have hfb:fb=true:=f3.2 hf
 subst hfb
 have q2:∀ w:Int,2≤w→w≤2097152→rO w 2=w / 2:=fun w w1 w2=>by
  unfold rO
  rw [Int.tdiv_eq_ediv_of_nonneg (by omega)]
  exact yH _ (by omega) (by omega)
 have hr:bT l es s (Qg y p h)=some 0:=by
  rw [hx]
  obtain ⟨⟨x1,x2,x3,x4⟩,⟨w1,w2⟩,w3,w4⟩:=hcm
  unfold bT
  rw [f2]
  have b1:¬ (p:Int)<0:=by omega
  have b2:¬ (p:Int) ≥ (l.aB.length:Int):=by omega
  have b3:¬ (h:Int) < -1:=by omega
  have b4:¬ (h:Int) ≥ (y.bO.length:Int):=by omega
  have b5:(h:Int) ≥ 0:=by omega
  rw [q2 c.W w1 w2,q2 c.H w3 w4,aY (a:=c.X) (b:=c.W / 2) (by omega) (by omega),aY (a:=c.Y) (b:=c.H / 2) (by omega) (by omega)]
  have g1:¬ c.X+c.W / 2≤c.X:=by omega
  have g2:¬ c.X+c.W / 2 ≥ aL c.X c.W:=by rw [aY (a:=c.X) (b:=c.W) (by omega) (by omega)];omega
  have g3:¬ c.Y+c.H / 2≤c.Y:=by omega
  have g4:¬ c.Y+c.H / 2 ≥ aL c.Y c.H:=by rw [aY (a:=c.Y) (b:=c.H) (by omega) (by omega)];omega
  simp only [Option.bind_some,if_true,b1,b2,b3,b4,b5,decide_false,decide_true,Bool.false_eq_true,if_false,aQ hy,aQ hfl,aQ ht,aQ hb,aQ hc,g1,g2,g3,g4,show ¬ (0:Int)<0 from by omega,show ¬ (0:Int)>4 from by omega,bne_self_eq_false]
 obtain ⟨s',hst⟩:=vY hl hs hes hf hr
 have hd:=hst.d
 rw [hx] at hd
 have e:s'=Wj l.aB.length es s p h t:=by
  cases hd with
  | @hole p' h' y' t' hp' hh' _ hy' _ ht' _ =>
    have e1:p'=p:=by simp only at hp';omega
    have e2:h'=h:=by simp only at hh';omega
    subst e1 e2
    rw [ht] at ht'
    rw [Option.some.inj ht']
  | @line p' y' t' hp' hh' _ _ _ _ _ _ _=>simp only at hh';omega
 rw [← e];exact hst
end
def uA (l:aT) (p k:Nat):List (List Bool):=(List.range l.aB.length).map fun q=>match l.aB[q]? with
 | some x=>(List.range x.bO.length).map fun h=>decide (q<p∨(q=p∧h<k))
 | none=>[]
def hSt (l:aT) (n:Nat) (p k:Nat):RS:=⟨List.replicate n false,uA l p k,List.replicate l.aB.length false,List.replicate l.aB.length 0,List.replicate l.aB.length false⟩
theorem uY (l:aT) (p k:Nat) {q:Nat} {x:aV} (hx:l.aB[q]?=some x):(uA l p k)[q]?=some ((List.range x.bO.length).map fun h=>decide (q<p∨(q=p∧h<k))):=by
 have hq:=bG hx
 unfold uA
 rw [List.getElem?_map,List.getElem?_range hq]
 simp only [Option.map_some,hx]
theorem FA (l:aT) (n p k:Nat):Fit l n (hSt l n p k):=by
 refine ⟨by simp [hSt],by simp [hSt,uA],by simp [hSt],by simp [hSt],by simp [hSt],fun q t x h1 h2=>?_⟩
 have:=uY l p k h2
 have h1':(uA l p k)[q]?=some t:=h1
 rw [this] at h1'
 rw [← Option.some.inj h1'];simp
theorem LN (l:aT) (n:Nat):hSt l n 0 0=st0 l n:=by
 unfold hSt st0
 congr 1
 refine List.ext_getElem? fun q=>?_
 rw [List.getElem?_map]
 cases hx:l.aB[q]? with
 | none =>
   rw [List.getElem?_eq_none]
   ·rfl
   ·have:=List.getElem?_eq_none_iff.1 hx
    simp [uA];omega
 | some x =>
   rw [uY l 0 0 hx]
   simp only [Option.map_some]
   congr 1
   refine List.ext_getElem? fun h=>?_
   rw [List.getElem?_map,List.getElem?_replicate]
   by_cases hh:h<x.bO.length
   ·rw [List.getElem?_range hh,if_pos hh];simp
   ·rw [List.getElem?_eq_none (by simp;omega),if_neg hh];rfl
theorem LM (l:aT) (n p:Nat) {x:aV} (hx:l.aB[p]?=some x):hSt l n p x.bO.length=hSt l n (p+1) 0:=by
 unfold hSt
 congr 1
 unfold uA
 refine List.map_congr_left fun q _=>?_
 cases hq:l.aB[q]? with
 | none=>rfl
 | some y =>
   simp only
   refine List.map_congr_left fun h hh=>?_
   have:=List.mem_range.1 hh
   by_cases e:q=p
   ·subst e
    rw [hx] at hq
    injection hq with hq
    subst hq
    simp;omega
   ·have:(q<p∨(q=p∧h<x.bO.length))↔(q<p+1∨(q=p+1∧h<0)):=by omega
    simp only [this]
theorem EZ {es:List bC} {c:List Bool} (hc:c.length=es.length) {i k:Nat} {e:bC} (hk:es[k]?=some e) (ho:ofB e (i:Int)=true) (hu:c.getD k false=false):yL es c (i:Int)=false:=by
 have hkl:=bG hk
 unfold yL
 rw [Bool.not_eq_false']
 refine List.any_eq_true.2 ⟨k,List.mem_range.2 hkl, ?_⟩
 have hg:c[k]?=some (c[k]'(by omega)):=List.getElem?_eq_getElem (by omega)
 rw [mD hg] at hu
 unfold held
 rw [hk,hg]
 simp [ho,hu]
theorem HJ {n:Nat} {es:List bC} {c D:List Bool} {J:List Int} (h:∀ i,i<n→yL es c (i:Int)=false):fell n es c D J (List.replicate n false)=List.replicate n false:=by
 refine List.ext_getElem? fun i=>?_
 by_cases hi:i<n
 ·unfold fell
  rw [Di _ hi,List.getElem?_replicate,if_pos hi,Gv]
  unfold Tc
  rw [h i hi];rfl
 ·unfold fell
  rw [List.getElem?_eq_none (by rw [qQ];omega),List.getElem?_eq_none (by simp;omega)]
section
variable {l:aT} (hl:LV l) (hs:∀ x ∈ l.aB,Sm x) {es:List bC} (hes:es.length≤200000) (hown:∀ i,i<l.aB.length→∃ (k:Nat) (e:bC),es[k]?=some e∧ofB e (i:Int)=true)
include hl hs hes hown
theorem Qi {p:Nat} {x:aV} (hx:l.aB[p]?=some x):∀ k,k≤x.bO.length→Reach l es (hSt l es.length p 0) (xX x p k) (hSt l es.length p k)
 | 0,_=>by simp only [xX,List.range_zero,List.map_nil];exact .nil _
 | k+1,hk=>by
   rw [Qh]
   have hp:=bG hx
   have hget:=uY l p k hx
   have hnf:∀ i,i<l.aB.length→yL es (List.replicate es.length false) (i:Int)=false:=fun i hi=>by
    obtain ⟨j,e,h1,h2⟩:=hown i hi
    exact EZ (by simp) h1 h2 (Gv _ _ _)
   refine (Qi hx k (by omega)).append (.one ?_)
   have hst:=HK hl hs hes (FA l es.length p k) (h:=k) hx (t:=(List.range x.bO.length).map fun h=>decide (p<p∨(p=p∧h<k))) (by show (List.replicate l.aB.length false)[p]?=some false;rw [List.getElem?_replicate,if_pos hp]) hget (by rw [List.getElem?_map,List.getElem?_range (by omega)];simp)
   have e:Wj l.aB.length es (hSt l es.length p k) p k ((List.range x.bO.length).map fun h=>decide (p<p∨(p=p∧h<k)))=hSt l es.length p (k+1):=by
    unfold Wj hSt
    simp only
    rw [HJ hnf]
    congr 1
    refine List.ext_getElem? fun q=>?_
    rw [List.getElem?_set]
    have hHl:(uA l p k).length=l.aB.length:=by simp [uA]
    by_cases e:p=q
    ·subst e
     rw [if_pos rfl,if_pos (by rw [hHl];exact hp),uY l p (k+1) hx]
     congr 1
     refine List.ext_getElem? fun h=>?_
     rw [List.getElem?_set,List.getElem?_map,List.getElem?_map]
     by_cases hh:h<x.bO.length
     ·rw [List.getElem?_range hh]
      by_cases e2:k=h
      ·subst e2
       rw [if_pos rfl,if_pos (by simp;omega)]
       simp
      ·rw [if_neg e2]
       simp only [Option.map_some]
       have hkk:(p<p∨(True∧h<k))↔(p<p∨(True∧h<k+1)):=by
        constructor
        ·rintro (q | ⟨_,q⟩)
         ·exact .inl q
         ·exact .inr ⟨trivial,by omega⟩
        ·rintro (q | ⟨_,q⟩)
         ·exact .inl q
         ·exact .inr ⟨trivial,by omega⟩
       exact congrArg some (decide_eq_decide.2 hkk)
     ·rw [List.getElem?_eq_none (by simp;omega)]
      split
      ·omega
      ·rfl
    ·rw [if_neg e]
     cases hq:l.aB[q]? with
     | none =>
       have:=List.getElem?_eq_none_iff.1 hq
       rw [List.getElem?_eq_none (by rw [hHl];omega),List.getElem?_eq_none (by simp [uA];omega)]
     | some y =>
       rw [uY l p k hq,uY l p (k+1) hq]
       congr 1
       refine List.map_congr_left fun h _=>?_
       have:(q<p∨(q=p∧h<k))↔(q<p∨(q=p∧h<k+1)):=by omega
       simp only [this]
   rw [e] at hst
   exact hst
theorem Wl:∀ p,p≤l.aB.length→Reach l es (st0 l es.length) (nL l p) (hSt l es.length p 0)
 | 0,_=>by
   rw [LN]
   simp only [nL,List.range_zero,List.flatMap_nil]
   exact .nil _
 | p+1,hp=>by
   rw [Jy]
   have hx:l.aB[p]?=some l.aB[p]:=List.getElem?_eq_getElem (by omega)
   refine (Wl p (by omega)).append ?_
   rw [← LM l es.length p hx]
   have:=Qi hl hs hes hown hx l.aB[p].bO.length (Nat.le_refl _)
   unfold Pg
   simp only [hx]
   exact this
end
theorem PG {R:List (List aS)} {xs ys:List Int} (hL:Lay R xs ys):∀ e ∈ Fj R xs ys,-1048576≤e.Line.X1∧e.Line.X2≤1048576∧-1048576≤e.Line.Y1∧e.Line.Y2≤1048576:=by
 have ln:∀ (s:cT) a b,(mkE s a b).Line=s:=fun s a b=>by
  unfold mkE
  exact RJ _ s _ _
 have rn:∀ {s:Int→Int} {p:Int×Int},p ∈ mB s→Mq s p.1 p.2:=fun {s p} hp=>by
  unfold mB at hp
  split at hp
  ·rename_i hx
   exact ((Classical.choose_spec hx).2 p.1 p.2).1 hp
  ·cases hp
 have one:∀ {x y:Int} {i:Nat},lK R x y=some i→(-1048576≤x∧x+1≤1048576)∧-1048576≤y∧y+1≤1048576:=fun {x y i} h=>by
  obtain ⟨⟨a,ha,a1⟩,⟨b,hb,b1⟩,⟨c,hc,c1⟩,⟨d,hd,d1⟩⟩:=MC hL h
  have:=hL.X.within a ha;have:=hL.X.within b hb;have:=hL.Y.within c hc;have:=hL.Y.within d hd
  omega
 have two:∀ {x y x' y':Int},cod (eJ R x y) (eJ R x' y')≠0→(∃ i,lK R x y=some i)∨∃ i,lK R x' y'=some i:=fun {x y x' y'} h=>by
  cases e1:lK R x y with
  | some i=>exact .inl ⟨i,rfl⟩
  | none =>
    cases e2:lK R x' y' with
    | some i=>exact .inr ⟨i,rfl⟩
    | none=>exact absurd (by rw [nU e1,nU e2];rfl) h
 intro e he
 unfold Fj at he
 rw [List.mem_append,List.mem_flatMap,List.mem_flatMap] at he
 rcases he with ⟨y,hy,h⟩ | ⟨x,hx,h⟩
 ·obtain ⟨p,hp,rfl⟩:=List.mem_map.1 h
  obtain ⟨r1,r2,r3,_,_⟩:=rn hp
  rw [ln]
  have wy:=hL.Y.within y hy
  have h1:hS R y p.1≠0:=r2
  have h2:hS R y (p.2-1)≠0:=by rw [r3 (p.2-1) (by omega) (by omega)];exact r2
  have b1 : -1048576≤p.1:=by
   rcases two h1 with ⟨i,hi⟩ | ⟨i,hi⟩ <;> have:=one hi <;> omega
  have b2:p.2≤1048576:=by
   rcases two h2 with ⟨i,hi⟩ | ⟨i,hi⟩ <;> have:=one hi <;> omega
  exact ⟨b1,b2,wy.1,wy.2⟩
 ·obtain ⟨p,hp,rfl⟩:=List.mem_map.1 h
  obtain ⟨r1,r2,r3,_,_⟩:=rn hp
  rw [ln]
  have wx:=hL.X.within x hx
  have h1:vS R x p.1≠0:=r2
  have h2:vS R x (p.2-1)≠0:=by rw [r3 (p.2-1) (by omega) (by omega)];exact r2
  have b1 : -1048576≤p.1:=by
   rcases two h1 with ⟨i,hi⟩ | ⟨i,hi⟩ <;> have:=one hi <;> omega
  have b2:p.2≤1048576:=by
   rcases two h2 with ⟨i,hi⟩ | ⟨i,hi⟩ <;> have:=one hi <;> omega
  exact ⟨wx.1,wx.2,b1,b2⟩
structure LI (l:aT) (es:List bC) (T:List Nat) (m:Nat) (s:RS):Prop where
 f:Fit l es.length s
 d0:∀ i ∈ T.take m,s.cG.getD i false=false
 d1:∀ i ∈ T.drop m,s.cG.getD i false=true
 fl:∀ i ∈ T.take m,s.bJ.getD i false=false
 h:∀ (q:Nat) (t:List Bool),s.bD[q]?=some t→(t.all fun b=>b)=true
 c:∀ (k:Nat) (e:bC),es[k]?=some e→s.Cut.getD k false=true→∃ p ∈ T.drop m,ofB e (p:Int)=true
section
variable {l:aT} (hl:LV l) (hs:∀ x ∈ l.aB,Sm x) {xs ys:List Int} (hL:Lay (eK l) xs ys) {es:List bC} (he:es=Fj (eK l) xs ys) (hes:es.length≤200000) {T:List Nat} (hT:Zg l.aB.length es T) (hTl:T.length=l.aB.length)
include hl hs hL he hes hT hTl
theorem AX {m:Nat} {c:List Bool} (hc:c.length=es.length) (hcut:∀ k e,es[k]?=some e→c.getD k false=true→∃ p ∈ T.drop m,ofB e (p:Int)=true) {i:Nat} (hi:i ∈ T.take m):yL es c (i:Int)=false:=by
 obtain ⟨k,hk⟩:=List.mem_iff_getElem?.1 hi
 have hkl:=bG hk
 have hkm:k<m:=by rw [List.length_take] at hkl;omega
 rw [List.getElem?_take,if_pos hkm] at hk
 obtain ⟨e,hem,ho,hx⟩:=hT.ex k i hk
 obtain ⟨j,hj⟩:=List.mem_iff_getElem?.1 hem
 refine EZ hc hj ho ?_
 cases hu:c.getD j false with
 | false=>rfl
 | true =>
   exfalso
   obtain ⟨p,hp,hop⟩:=hcut j e hj hu
   have no:∀ (q k':Nat),T[k']?=some q→k'<m→q ∈ T.drop m→False:=fun q k' h1 h2 h3=>by
    obtain ⟨a,ha⟩:=List.mem_iff_getElem?.1 h3
    rw [List.getElem?_drop] at ha
    have hlt:=bG h1
    have:=(List.getElem?_inj hlt hT.nd).1 (h1.trans ha.symm)
    omega
   have hei:=Wb hL e (he ▸ hem)
   obtain ⟨a1,a2,a3,a4⟩:=hei
   unfold ofB at ho hop
   rw [Bool.or_eq_true,beq_iff_eq,beq_iff_eq] at ho hop
   rcases hx with hb | ⟨o,hom,hod,hob⟩
   ·have:p=i:=by omega
    subst this
    exact no p k hk hkm hp
   ·have:p=i∨p=o:=by omega
    rcases this with rfl | rfl
    ·exact no p k hk hkm hp
    ·obtain ⟨a,ha⟩:=List.mem_iff_getElem?.1 hom
     have hal:=bG ha
     have hak:a<k:=by rw [List.length_take] at hal;omega
     rw [List.getElem?_take,if_pos hak] at ha
     exact no p a ha (by omega) hp
theorem HX {m p:Nat} {s:RS} (hI:LI l es T (m+1) s) (hp:T[m]?=some p):∃ s',Step l es s (Vm l es s.Cut p) s'∧LI l es T m s'∧s'.Cut=mark es.length (yS es (p:Int)) s.Cut:=by
 have hpl:=hT.lt p (List.mem_of_getElem? hp)
 have hml:=bG hp
 have hy:l.aB[p]?=some l.aB[p]:=List.getElem?_eq_getElem hpl
 have hym:=List.mem_of_getElem? hy
 generalize l.aB[p]=y at hy hym
 have hpm:p ∈ T.take (m+1):=by
  refine List.mem_iff_getElem?.2 ⟨m, ?_⟩
  rw [List.getElem?_take,if_pos (by omega)];exact hp
 have hf:=hI.f
 have sl:=SLf hl hs hes hf
 have nf:=AX hl hs hL he hes hT hTl hf.c hI.c hpm
 -- the first edge that is not cut
 obtain ⟨i0,hi0⟩:∃ i0,sP es s.Cut (p:Int) es.length=some i0:=by
  cases q:sP es s.Cut (p:Int) es.length with
  | some i=>exact ⟨i,rfl⟩
  | none =>
    exfalso
    unfold sP at q
    rw [List.find?_eq_none] at q
    unfold yL at nf
    rw [Bool.not_eq_false',List.any_eq_true] at nf
    obtain ⟨j,hj,hh⟩:=nf
    have hjl:=List.mem_range.1 hj
    refine q j hj ?_
    have g1:es[j]?=some es[j]:=List.getElem?_eq_getElem hjl
    have g2:s.Cut[j]?=some (s.Cut[j]'(by rw [hf.c];exact hjl)):=List.getElem?_eq_getElem (by rw [hf.c];exact hjl)
    unfold held at hh
    rw [g1,g2] at hh
    unfold unB yS
    rw [g1,mD g2]
    exact hh
 have hu0:=List.find?_some (show (List.range es.length).find? (unB es s.Cut (p:Int))=some i0 from hi0)
 have hi0l:i0<es.length:=List.mem_range.1 (List.mem_of_find?_eq_some (show (List.range es.length).find? (unB es s.Cut (p:Int))=some i0 from hi0))
 have ge:es[i0]?=some es[i0]:=List.getElem?_eq_getElem hi0l
 have gc:s.Cut[i0]?=some (s.Cut[i0]'(by rw [hf.c];exact hi0l)):=List.getElem?_eq_getElem (by rw [hf.c];exact hi0l)
 have hem:es[i0] ∈ Fj (eK l) xs ys:=by rw [← he];exact List.getElem_mem hi0l
 generalize es[i0]=e at ge hem
 obtain ⟨⟨c1,c2,c3,c4⟩,c5,c6⟩:=GX hl hL hem
 obtain ⟨⟨o1,o2⟩,_⟩:=Sy hL e hem
 have hsp:Ac es (sP es s.Cut (p:Int) es.length)=⟨e.Line.X1,e.Line.Y1⟩:=by rw [hi0];unfold Ac;simp only [ge]
 unfold unB yS at hu0
 rw [ge,mD gc] at hu0
 simp only [Bool.and_eq_true,Bool.not_eq_true'] at hu0
 have hout:Vm l es s.Cut p=⟨(p:Int),-1,if Ja y then 1 else 0,⟨e.Line.X1,e.Line.Y1⟩⟩:=by
  unfold Vm;simp only [hy,hsp]
 obtain ⟨x,hx⟩:∃ x:bU,x=⟨(p:Int),-1,if Ja y then 1 else 0,⟨e.Line.X1,e.Line.Y1⟩⟩:=⟨_,rfl⟩
 have hxp:x.aV=(p:Int):=by rw [hx]
 have hxh:x.jU=-1:=by rw [hx]
 have hxj:x.aX=if Ja y then 1 else 0:=by rw [hx]
 have hxl:x.cW=⟨e.Line.X1,e.Line.Y1⟩:=by rw [hx]
 -- it may begin there
 have hlead:lS l es s (p:Int) x.cW=some true:=by
  obtain ⟨b,b1,b2,_⟩:=Wr hl (show es.length≤1000000 by omega) hf.c x (by rw [hxh];omega)
  have hb:b=true:=by
   obtain ⟨n1,_⟩:=Sz (show es.length≤1000000 by omega) hf.c x
   have hany:(List.range es.length).any (Ob es s.Cut x.aV x.cW)=true:=by
    refine List.any_eq_true.2 ⟨i0,List.mem_range.2 hi0l, ?_⟩
    unfold Ob
    rw [ge,gc,hxp,hxl]
    have hgap:LH ⟨e.Line.X1,e.Line.Y1⟩ e.Line=0:=by
     unfold LH
     have hw:e.Line.X1-e.Line.X1=0:=by omega
     have hh:e.Line.Y1-e.Line.Y1=0:=by omega
     simp only [Ks]
     have z1:aJ e.Line.X1 e.Line.X1=0:=by unfold aJ;rw [hw];exact yH 0 (by omega) (by omega)
     have z2:aJ e.Line.Y1 e.Line.Y1=0:=by unfold aJ;rw [hh];exact yH 0 (by omega) (by omega)
     have hX : -1048576≤e.Line.X1∧e.Line.X2≤1048576∧-1048576≤e.Line.Y1∧e.Line.Y2≤1048576:=PG hL e hem
     rw [z1,z2,bK (a:=e.Line.X1) (b:=e.Line.X2) (by omega) (by omega),bK (a:=e.Line.Y1) (b:=e.Line.Y2) (by omega) (by omega)]
     omega
    have h1:=hu0.1
    have h2:=hu0.2
    simp only [h1,h2,hgap]
    decide
   rw [hany,if_pos rfl] at n1
   have pl:aK (fO l x) 0=some (.inr ()):=by
    have:=jF l.aB.length (fO l x) (fun k=>(k:Int)) (fun _=>false) (.inr ()) (.inl ()) rfl (fun k hk=>?_) ?_
    ·have this':aK (fO l x) 0=_:=this
     rw [this']
     simp
    ·have e2:l.aB[k]?=some l.aB[k]:=List.getElem?_eq_getElem hk
     have e3:eT l.aB[k].aD (Ar.mk x.cW.X x.cW.Y)=some false:=by rw [hxl];exact c6 _ (List.mem_of_getElem? e2)
     unfold fO
     have hd:decide ((k:Int)<(l.aB.length:Int))=true:=by simp [hk]
     have h8:=hl.n
     simp only [hd,if_true,aQ e2,Option.bind_some,e3,Bool.false_eq_true,if_false,bH k (by omega)]
    ·simp [fO]
   have hd:oW (toC s) l es x=some true:=by
    unfold oW
    have h0:decide (x.jU ≥ 0)=false:=by rw [hxh];rfl
    have c5':eT l.bF.cC (Ar.mk x.cW.X x.cW.Y)=some false:=by rw [hxl];exact c5
    have d1:¬ x.cW.X<0:=by rw [hxl];simp only;omega
    have d2:¬ x.cW.X>l.bF.fA:=by rw [hxl];simp only;omega
    have d3:¬ x.cW.Y<0:=by rw [hxl];simp only;omega
    have d4:¬ x.cW.Y>l.bF.cQ:=by rw [hxl];simp only;omega
    simp only [h0,d1,d2,d3,d4,decide_false,Bool.false_eq_true,if_false,c5',Option.bind_some,pl,n1]
   rw [b1] at hd
   exact Option.some.inj hd
  rw [hb,hxp] at b2
  exact b2
 -- it is not refused
 obtain ⟨fb,f1,f2,f3⟩:=Pe hl.n es.length sl
 have hfb:fb=true:=f3.2 hf
 subst hfb
 have gf:s.bJ[p]?=some false:=by
  have h1:s.bJ[p]?=some (s.bJ[p]'(by rw [hf.f];exact hpl)):=List.getElem?_eq_getElem (by rw [hf.f];exact hpl)
  have:=hI.fl p hpm
  rw [mD h1] at this
  rw [h1,this]
 have gd:s.cG[p]?=some false:=by
  have h1:s.cG[p]?=some (s.cG[p]'(by rw [hf.d];exact hpl)):=List.getElem?_eq_getElem (by rw [hf.d];exact hpl)
  have:=hI.d0 p hpm
  rw [mD h1] at this
  rw [h1,this]
 have gh:s.bD[p]?=some (s.bD[p]'(by rw [hf.h];exact hpl)):=List.getElem?_eq_getElem (by rw [hf.h];exact hpl)
 generalize s.bD[p]'(by rw [hf.h];exact hpl)=t at gh
 have hta:=hI.h p t gh
 have htm:=sl.hh t (List.mem_of_getElem? gh)
 have r12:=hl.r12 y hym
 have fr:gL es s (p:Int)=some (yL es s.Cut (p:Int)):=Tt (show es.length≤1000000 by omega) hf.c (p:Int) s.bD s.cG s.aX s.bJ
 have hsmall:(if (x.aX==0)=true then fH y else some false)=some false:=by
  rw [hxj,Xd y (by omega)]
  cases hb:Ja y with
  | true=>rfl
  | false =>
    show some (Ja y)=some false
    rw [hb]
 have hr:bT l es s x=some 0:=by
  unfold bT
  rw [f2]
  have b1:¬ (p:Int)<0:=by omega
  have b2:¬ (p:Int) ≥ (l.aB.length:Int):=by omega
  have b4:¬ (-1:Int) ≥ (y.bO.length:Int):=by omega
  have b5:¬ x.aX<0:=by rw [hxj];split <;> omega
  have b6:¬ x.aX>4:=by rw [hxj];split <;> omega
  simp only [Option.bind_some,if_true,hxp,hxh,b1,b2,b4,b5,b6,decide_false,Bool.false_eq_true,if_false,aQ hy,aQ gf,aQ gd,aQ gh,all_eq t htm,hta,fr,nf,show ¬ (-1:Int) < -1 from by omega,show ¬ (-1:Int) ≥ 0 from by omega,hlead,Bool.not_true]
  have hsm':((if (x.aX==0)=true then (fH y).bind fun r92=>some r92 else some false:Option Bool))=some false:=by
   rw [← hsmall]
   cases (x.aX==0) with
   | true=>simp only [if_true];cases fH y <;> rfl
   | false=>rfl
  rw [hsm']
  rfl
 obtain ⟨s',hst⟩:=vY hl hs hes hf hr
 rw [hout,← hx]
 refine ⟨s',hst, ?_⟩
 have hf':=Nl hst.d hf
 have hnd:p ∉ T.drop (m+1)∧p ∉ T.take m:=by
  constructor
  ·intro h
   obtain ⟨a,ha⟩:=List.mem_iff_getElem?.1 h
   rw [List.getElem?_drop] at ha
   have:=(List.getElem?_inj hml hT.nd).1 (hp.trans ha.symm)
   omega
  ·intro h
   obtain ⟨a,ha⟩:=List.mem_iff_getElem?.1 h
   have hal:=bG ha
   have ham:a<m:=by rw [List.length_take] at hal;omega
   rw [List.getElem?_take,if_pos ham] at ha
   have:=(List.getElem?_inj hml hT.nd).1 (hp.trans ha.symm)
   omega
 have hdrop:T.drop m=p::T.drop (m+1):=by
  rw [List.drop_eq_getElem_cons hml]
  congr 1
  have:=List.getElem?_eq_getElem hml
  rw [hp] at this
  exact (Option.some.inj this).symm
 have hsub:∀ i ∈ T.take m,i ∈ T.take (m+1):=fun i hi=>by
  obtain ⟨a,ha⟩:=List.mem_iff_getElem?.1 hi
  have hal:=bG ha
  have ham:a<m:=by rw [List.length_take] at hal;omega
  rw [List.getElem?_take,if_pos ham] at ha
  exact List.mem_iff_getElem?.2 ⟨a,by rw [List.getElem?_take,if_pos (by omega)];exact ha⟩
 have hd:=hst.d
 cases hd with
 | @hole p' h' y' t' hp' hh' _ _ _ _ _=>rw [hxh] at hh';omega
 | @line p' y' t' hp' _ hj' hy' hfl' hdn' ht' ha' hn' =>
   have e1:p'=p:=by rw [hxp] at hp';omega
   subst e1
   have hcm:∀ k e,es[k]?=some e→(mark es.length (yS es (p':Int)) s.Cut).getD k false=true→∃ q ∈ T.drop m,ofB e (q:Int)=true:=fun k e hk hu=>by
    rw [Wv _ _ (bG hk),Bool.or_eq_true] at hu
    rw [hdrop]
    rcases hu with hu | hu
    ·refine ⟨p',by simp, ?_⟩
     unfold yS at hu;rw [hk] at hu;exact hu
    ·obtain ⟨q,hq,ho⟩:=hI.c k e hk hu
     exact ⟨q,List.mem_cons_of_mem _ hq,ho⟩
   have hlt:∀ i ∈ T.take m,i<l.aB.length:=fun i hi=>hT.lt i (List.mem_of_mem_take hi)
   refine ⟨⟨hf',fun i hi=>?_,fun i hi=>?_,fun i hi=>?_,hI.h,hcm⟩,rfl⟩
   ·show (s.cG.set p' true).getD i false=false
    rw [Ju _ _ _ _ _ (bG gd),if_neg (fun e:i=p'=>hnd.2 (e ▸ hi))]
    exact hI.d0 i (hsub i hi)
   ·show (s.cG.set p' true).getD i false=true
    rw [Ju _ _ _ _ _ (bG gd)]
    rw [hdrop] at hi
    rcases List.mem_cons.1 hi with rfl | hi
    ·rw [if_pos rfl]
    ·split
     ·rfl
     ·exact hI.d1 i hi
   ·show (fell l.aB.length es (mark es.length (yS es (p':Int)) s.Cut) (s.cG.set p' true) (s.aX.set p' x.aX) s.bJ).getD i false=false
    unfold fell
    rw [Wv _ _ (hlt i hi),hI.fl i (hsub i hi),Bool.or_false]
    unfold Tc
    rw [AX hl hs hL he hes hT hTl (m:=m) (qQ _ _ _) hcm hi]
    rfl
theorem Wu:∀ (m:Nat) (s:RS),m≤T.length→LI l es T m s→∃ t,Reach l es s (Fo l es (T.take m).reverse s.Cut) t∧LI l es T 0 t
 | 0,s,_,hI=>⟨s,by simp only [List.take_zero,List.reverse_nil,Fo];exact .nil s,hI⟩
 | m+1,s,hm,hI=>by
   have hp:T[m]?=some (T[m]'(by omega)):=List.getElem?_eq_getElem (by omega)
   obtain ⟨s',h1,h2,h3⟩:=HX hl hs hL he hes hT hTl hI hp
   obtain ⟨t,t1,t2⟩:=Wu m s' (by omega) h2
   refine ⟨t, ?_,t2⟩
   have e:(T.take (m+1)).reverse=(T[m]'(by omega))::(T.take m).reverse:=by
    rw [List.take_add_one,hp]
    simp
   rw [e]
   show Reach l es s (Vm l es s.Cut _::Fo l es (T.take m).reverse (mark es.length (yS es _) s.Cut)) t
   rw [← h3]
   exact (Reach.one h1).append t1
end
theorem QB {l:aT} {es:List bC} {x:bU} {e:Int}:∀ (pre xs:List bU) (post:List bU) (s:RS) (ss ss':List RS),Steps l es s xs ss→xs=pre++x::post→Steps l es s pre ss'→Pz l es (sG s ss') x e→False:=by
 intro pre
 induction pre with
 | nil =>
   intro xs post s ss ss' a b c d
   cases c
   subst b
   cases a with
   | cons a1 _=>have:=a1.r;rw [show sG s []=s from rfl] at d;rw [d.r] at this;injection this with this;exact d.n this
 | cons y pre ih =>
   intro xs post s ss ss' a b c d
   subst b
   cases c with
   | cons c1 c2 =>
     cases a with
     | cons a1 a2 =>
       have e3:=a1.f;rw [c1.f] at e3;injection e3 with e3
       subst e3
       exact ih _ post _ _ _ a2 rfl c2 d
theorem JF {l:aT} {es:List bC} {s:RS} {xs:List bU} {ss:List RS} (h:Steps l es s xs ss):∀ {ss':List RS},Steps l es s xs ss'→ss=ss':=by
 induction h with
 | nil s=>intro ss' h;cases h;rfl
 | cons h _ ih =>
   intro ss' g
   cases g with
   | cons g1 g2 =>
     have e:=h.f;rw [g1.f] at e;injection e with e
     subst e
     rw [ih g2]
theorem NK {l:aT} (h:uN l) {es:List bC} (e1:oK l=some (es,0)) {items:List bU} (hk:items.length≤128) {t:RS} (hr:Reach l es (st0 l es.length) items t) (hd:(t.cG.all fun b=>b)=true) (hh:(t.bD.all fun u=>u.all fun b=>b)=true):(∃ ss,Ran l items es ss)∧yT l items=some 0∧lR l items=some 0:=by
 obtain ⟨ss0,hs0,hl0⟩:=hr
 obtain ⟨s,k,e,r1,r2,r3,r4⟩:=Zi l h items
 have eqs:∀ es' c,oK l=some (es',c)→es'=es∧c=0:=fun es' c h=>by rw [e1] at h;injection h with h;injection h with h g;exact ⟨h.symm,g.symm⟩
 have key:e=0∧∃ ss,Ran l items es ss∧s=sG (st0 l es.length) ss:=by
  rcases r4 with ⟨he,_,⟨_,⟨es',h1⟩ | ⟨es',_,_,h1,_⟩⟩ | ⟨es',pre,x,post,ss,h1,_,h2,_,_,h5,h6,h7,h8⟩⟩ | ⟨he,_,es',ss,hr,hs⟩
  ·exact absurd (eqs _ _ h1).2 he
  ·exact absurd hk h1
  ·obtain ⟨rfl,_⟩:=eqs _ _ h2
   exact (QB pre items post _ _ _ hs0 h5 h7 h8).elim
  ·obtain ⟨rfl,_⟩:=eqs _ _ hr.e1
   exact ⟨he,ss,hr,hs⟩
 obtain ⟨rfl,ss,hran,hs⟩:=key
 have hst:s=t:=by rw [hs,← hl0,JF hran.s hs0]
 subst hst
 refine ⟨⟨ss,hran⟩, ?_⟩
 obtain ⟨e,c1,c2,_⟩:=CB l h items
 have he:e=0:=by
  have c:=c1
  unfold yT at c
  rw [r1] at c
  have q1:=uP s.cG r3.d
  have q1':dJ (toC s).cG false=some (!(s.cG.all fun b=>b)):=q1
  have hl2:=r3.h
  have l1:aK (nT (toC s,k,0,s.bD)) 0=some (if s.bD.all (fun t=>t.all fun b=>b) then .inr () else .inl ()):=by
   refine He s.bD (nT (toC s,k,0,s.bD)) (fun t=>t.all fun b=>b) (.inl ()) (.inr ()) (fun j t ht=>?_) ?_
   ·have hj:=bG ht
    have ht':(toC s).bD[j]?=some t:=ht
    unfold nT
    have hd:decide ((j:Int)<((toC s).bD.length:Int))=true:=by show decide ((j:Int)<(s.bD.length:Int))=true;simp [hj]
    simp only [hd,if_true,aQ ht',Option.bind_some,uP t (r3.hh t (List.mem_of_getElem? ht)),bH j (show (j:Int)<9223372036854775807 by omega)]
    cases (t.all fun b=>b) <;> rfl
   ·unfold nT
    have:decide ((s.bD.length:Int)<((toC s).bD.length:Int))=false:=by show decide ((s.bD.length:Int)<(s.bD.length:Int))=false;simp
    simp only [this,Bool.false_eq_true,if_false]
  simp only [Option.bind_some,bne_self_eq_false,Bool.false_eq_true,if_false,q1',hd,Bool.not_true,l1,hh,if_true] at c
  exact (Option.some.inj c).symm
 subst he
 exact ⟨c1,c2⟩
theorem OI {l:aT} (n8:l.aB.length≤8) (hc:∀ x ∈ l.aB,x.bO.length≤1048576) {es:List bC} (hes:es.length≤200000) (he:cZ l=some es):pO l=some (wr (Xn l es)):=by
 unfold pO
 rw [Cr (n:=l.aB.length) (AM l) (mS l) (fun k acc hk ha=>?_) (fun acc=>by simp [mS]) GB]
 ·simp only [Option.bind_some,he]
  rw [Cr (n:=es.length) (HW es) (mT es) (fun k acc hk ha=>?_) (fun acc=>by simp [mT]) (OJ _),Za,Int.zero_add]
  ·unfold Xn
   rw [Int.add_comm (Lg (HW es) es.length)]
   rfl
  ·have hx:es[k]?=some es[k]:=List.getElem?_eq_getElem hk
   unfold mT HW
   have hd:decide ((k:Int)<(es.length:Int))=true:=by simp [hk]
   simp only [hd,if_true,aQ hx,hx,Option.bind_some,vO,bH k (show (k:Int)<9223372036854775807 by omega)]
   rfl
 ·have hx:l.aB[k]?=some l.aB[k]:=List.getElem?_eq_getElem hk
  have hcl:=hc _ (List.mem_of_getElem? hx)
  generalize l.aB[k]=x at hx hcl
  have hin:aK (mR l (acc,(k:Int))) (acc,0)=some (wr (acc+Lg (GY x) x.bO.length)):=by
   refine Cr _ _ (fun j a hj _=>?_) (fun a=>by unfold mR;simp [aQ hx]) ha
   have hr:x.bO[j]?=some x.bO[j]:=List.getElem?_eq_getElem hj
   unfold mR GY
   have hd:decide ((j:Int)<(x.bO.length:Int))=true:=by simp [hj]
   simp only [aQ hx,Option.bind_some,hd,if_true,aQ hr,hr,bH j (show (j:Int)<9223372036854775807 by omega)]
   rfl
  unfold mS AM
  have hd:decide ((k:Int)<(l.aB.length:Int))=true:=by simp [hk]
  simp only [hd,if_true,hx,Option.bind_some,hin,bH k (show (k:Int)<9223372036854775807 by omega)]
theorem LX (T:List Nat):(ints T).reverse=ints T.reverse:=by unfold ints;rw [List.map_reverse]
theorem Yj (l:aT) (h:uN l):rP l=some true:=by
 obtain ⟨es,b,v1,v2,e1,e2,e3,e4,e5⟩:=Sb l h
 unfold rP
 by_cases hb:b=0
 case neg =>
  have hb':(b != 0)=true:=by rw [bne_iff_ne];exact hb
  have hp:Gj l=some ([],b):=by
   unfold Gj
   rw [e1]
   simp only [Option.bind_some,hb',if_true]
  rw [hp,v2]
  simp only [Option.bind_some,hb',if_true,beq_self_eq_true,List.length_nil,Int.natCast_zero,Wp]
 subst hb
 obtain ⟨hl,g1,g2,xs,ys,hL,he⟩:=e5 rfl
 have hs:=RO h
 have hc:=EN h
 have h8:=hl.n
 have c12:∀ x ∈ l.aB,x.bO.length≤12:=KO hl hs
 -- the order of the pieces
 obtain ⟨T,hT,hTl,hloop⟩:=Xb hl hs hL he (show es.length≤1000000 by omega) l.aB.length [] (by simp) ⟨List.nodup_nil,(fun i hi=>nomatch hi),(fun k i hk=>by simp at hk)⟩
 have hpeel:Nh (l.aB.length:Int) es=some (ints T.reverse):=by
  unfold Nh
  rw [mk_eq _ false (show l.aB.length≤1048576 by omega)]
  have e0:List.replicate l.aB.length false=uK l.aB.length []:=by
   refine List.ext_getElem? fun i=>?_
   unfold uK
   rw [List.getElem?_map,List.getElem?_replicate]
   by_cases hi:i<l.aB.length
   ·rw [List.getElem?_range hi,if_pos hi];simp
   ·rw [if_neg hi,List.getElem?_eq_none (by simp;omega)];rfl
  have hloop':aK (Bc (l.aB.length:Int) es) ([],List.replicate l.aB.length false)=some (.inr (ints T)):=by rw [e0];exact hloop
  simp only [Option.bind_some,hloop',DP (l:=ints T) (by simp [ints];omega),LX]
 have hOl:T.reverse.length=l.aB.length:=by rw [List.length_reverse];exact hTl
 have hal:=Mg h8 c12 l.aB.length
 have hlines:=Uf hl (show es.length≤1000000 by omega) 0 (O:=T.reverse) (by omega) (fun p hp=>hT.lt p (List.mem_reverse.1 hp)) T.reverse 0 (nL l l.aB.length) (List.replicate es.length false) (by simp) (by simp) (by omega)
 obtain ⟨items,hitems⟩:∃ items,items=nL l l.aB.length++Fo l es T.reverse (List.replicate es.length false):=⟨_,rfl⟩
 have hp:Gj l=some (items,0):=by
  unfold Gj
  rw [e1]
  have hlines':aK (Az l (es,0) (ints T.reverse)) (0,nL l l.aB.length,(toC (st0 l es.length)).Cut)=some items:=by rw [hitems];exact hlines
  simp only [Option.bind_some,bne_self_eq_false,Bool.false_eq_true,if_false,DJ h8 c12,hpeel,BT h8 hc es.length e3,hlines']
 have hlen:items.length≤128:=by
  rw [hitems,List.length_append,Tr]
  omega
 -- they run
 have hin:=SA hT.nd hT.lt hTl
 have hown:∀ i,i<l.aB.length→∃ (k:Nat) (e:bC),es[k]?=some e∧ofB e (i:Int)=true:=fun i hi=>by
  obtain ⟨k,hk⟩:=List.mem_iff_getElem?.1 (hin i hi)
  obtain ⟨e,hem,ho,_⟩:=hT.ex k i hk
  obtain ⟨j,hj⟩:=List.mem_iff_getElem?.1 hem
  exact ⟨j,e,hj,ho⟩
 have hr1:=Wl hl hs e3 hown l.aB.length (Nat.le_refl _)
 have hLI:LI l es T T.length (hSt l es.length l.aB.length 0):=by
  refine ⟨FA l es.length _ _,fun i _=>Gv _ _ _,fun i hi=>?_,fun i _=>Gv _ _ _,fun q t hq=>?_,fun k e _ hu=>?_⟩
  ·rw [List.drop_length] at hi;cases hi
  ·have hql:=bG hq
   have hql':q<l.aB.length:=by
    have:(uA l l.aB.length 0).length=l.aB.length:=by simp [uA]
    have hq2:q<(uA l l.aB.length 0).length:=hql
    omega
   have hx:l.aB[q]?=some l.aB[q]:=List.getElem?_eq_getElem hql'
   have hq':(uA l l.aB.length 0)[q]?=some t:=hq
   rw [uY l _ _ hx] at hq'
   rw [← Option.some.inj hq',List.all_eq_true]
   intro b hb
   obtain ⟨j,_,rfl⟩:=List.mem_map.1 hb
   rw [decide_eq_true_eq];exact .inl hql'
  ·have:(List.replicate es.length false).getD k false=true:=hu
   rw [Gv] at this;cases this
 obtain ⟨t,hr2,hLt⟩:=Wu hl hs hL he e3 hT hTl T.length _ (Nat.le_refl _) hLI
 rw [List.take_length] at hr2
 have hreach:Reach l es (st0 l es.length) items t:=by
  rw [hitems]
  exact hr1.append hr2
 have hft:=hLt.f
 have hd:(t.cG.all fun b=>b)=true:=by
  rw [List.all_eq_true]
  intro b hb
  obtain ⟨i,hi⟩:=List.mem_iff_getElem?.1 hb
  have hil:=bG hi
  have:=hLt.d1 i (by rw [List.drop_zero];exact hin i (by rw [← hft.d];exact hil))
  rw [mD hi] at this
  exact this
 have hh:(t.bD.all fun u=>u.all fun b=>b)=true:=by
  rw [List.all_eq_true]
  intro u hu
  obtain ⟨i,hi⟩:=List.mem_iff_getElem?.1 hu
  exact hLt.h i u hi
 obtain ⟨_,k1,k2⟩:=NK h e1 hlen hreach hd hh
 have hL1:Ij l items=some (wr (Xn l es),0):=by
  unfold Ij
  have q1:=GZ h8 hc e3
  rw [k1]
  simp only [Option.bind_some,bne_self_eq_false,Bool.false_eq_true,if_false,g1]
  cases hz:aK (tW es) (0,0) with
  | none=>rw [hz] at q1;cases q1
  | some a =>
    rw [hz] at q1
    simp only [Option.bind_some] at q1 ⊢
    rw [q1];rfl
 rw [hp]
 simp only [Option.bind_some,bne_self_eq_false,Bool.false_eq_true,if_false,hL1,k1,k2,beq_self_eq_true,if_true,OI h8 hc e3 g2,Wp]
end Go.SM
