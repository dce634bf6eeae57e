/- What the functions compute, part 4. -/
import Derived.Test.YtonmponhpfpokaaGreatRPl3
set_option linter.unusedVariables false
set_option linter.unusedSimpArgs false
set_option linter.unusedSectionVars false
namespace Go.SM
open Go Go.VI Go.Cells
theorem ES {s:bI} {taken:List (List aF)} {x:aU} {t:bA} (hs:bO s=some 0) (vx:bB x=some 0) (tl:taken.length≤8) (t12:∀ l ∈ taken,l.length≤12) (tv:∀ l ∈ taken,∀ r ∈ l,vR r) (ht:cX t=some true) :
  VS s∧(0≤t.Gap∧t.Gap≤14400)∧(0≤t.aS∧t.aS≤14400)∧∃ P,Lc x s (Kc (s.bG++s.Used) taken.flatten t) t.aS P ∧
   (∃ u1 u2 u3,Hq s taken x t=some (⟨0,0,(iJ P 4).2.1,(iJ P 4).2.2.1,(iJ P 4).2.2.2⟩,(iJ P 4).1,0,u1,u2,u3)) ∧
   (∃ u1 u2 u3 u4 u5,lN s taken.flatten x t=some (⟨0,0,(iJ P 4).2.1,(iJ P 4).2.2.1,(iJ P 4).2.2.2⟩,(iJ P 4).1,u1,u2,u3,u4,u5)):=by
 obtain ⟨pl,ok,e,u1,u2,u3,w1,w2,w3,w4,w5,h1,h2,h3,h4⟩:=ET s taken x t
 obtain ⟨a,a1,a2,a3⟩:=Jk s
 obtain ⟨b,b1,b2,b3⟩:=vH x
 obtain ⟨c,c1,c2,c3⟩:=Ov t
 have ha:a=0:=Option.some.inj (a1.symm.trans hs)
 have hb:b=0:=Option.some.inj (b1.symm.trans vx)
 have hc:c=true:=Option.some.inj (c1.symm.trans ht)
 subst ha hb hc
 obtain ⟨cg,cm⟩:=c3 rfl
 have vs:=a3 rfl
 have n1:=vs.n1;have n2:=vs.n2
 have lf:=Vm t12
 have sv:∀ r ∈ taken.flatten,vR r:=fun r hr=>by
  obtain ⟨l,hl,hr⟩:=List.mem_flatten.1 hr
  exact tv l hl r hr
 obtain ⟨P',hP'⟩:=Vk (fun n hn=>Uk vx vs cm cg sv (by omega) n hn)
 have T':Lc x s (Kc (s.bG++s.Used) taken.flatten t) t.aS P':=⟨fun n hn=>(hP' n hn).1,fun n hn=>(hP' n hn).2.1⟩
 have fD:=Uj (fun n hn=>(hP' n hn).2.2)
 refine ⟨vs,cg,cm,P',T', ?_,⟨_,_,_,_,_,fD⟩⟩
 have he:e=0:=by
  have hbad:(taken.flatten.any fun r=>!decide (vR r))=false:=by
   rw [List.any_eq_false];intro r hr;simp [sv r hr]
  have hL:Sd taken=false:=by
   unfold Sd
   rw [List.any_eq_false];intro l hl;have:=t12 l hl;simp;omega
  have h8':¬ (taken.length:Int)>8:=by omega
  unfold wY at h2
  simp only [a2,b2,c2,Option.bind_some,bne_self_eq_false,Bool.false_eq_true,if_false,h8',decide_false,Pb tl,hL,mQ taken.flatten (by omega),hbad,Bool.not_false,Bool.not_true,fD,Option.some.injEq,Prod.mk.injEq] at h2
  exact h2.2.2.1.symm
 subst he
 obtain ⟨_,_,_,_,_,_,_,P,T,e1,e2⟩:=h4 rfl
 have eb:iJ P 4=iJ P' 4:=Ie (T.same T') 4 (Nat.le_refl 4)
 rw [eb] at e1 e2
 exact ⟨u1,u2,u3,by rw [h1,e1,e2]⟩
def Vb (x:aU) (s:bI) (taken:List (List aF)) (t:bA):Prop:=∀ n:Nat,n<4→eJ x s (n:Int)=some true→∀ X Y,¬ Fe (trn n x.aD x.aD) (Kc (s.bG++s.Used) taken.flatten t) t.aS (s.cM-t.aS-xJ (trn n x.aD x.aD)) (s.bP-t.aS-wX (trn n x.aD x.aD)) X Y
theorem Ms {P:Nat→Option (Int×Int)}:∀ {k:Nat},(iJ P k).1=true→∃ n,n<k∧P n=some ((iJ P k).2.1,(iJ P k).2.2.1)∧(iJ P k).2.2.2=(n:Int)
 | 0,h=>by cases h
 | k+1,h=>by
   rw [Dq] at h ⊢
   cases hp:P k with
   | none =>
     rw [hp] at h
     simp only [upd] at h ⊢
     obtain ⟨n,h1,h2,h3⟩:=Ms h
     exact ⟨n,by omega,h2,h3⟩
   | some p =>
     rw [hp] at h
     simp only [upd] at h ⊢
     split
     ·exact ⟨k,Nat.lt_succ_self k,hp,rfl⟩
     ·rename_i hc
      rw [if_neg hc] at h
      obtain ⟨n,h1,h2,h3⟩:=Ms h
      exact ⟨n,by omega,h2,h3⟩
theorem Wg {P:Nat→Option (Int×Int)}:∀ {k n:Nat} {p:Int×Int},n<k→P n=some p→(iJ P k).1=true
 | 0,_,_,h,_=>by omega
 | k+1,n,p,h,hp=>by
   rw [Dq]
   rcases Nat.lt_or_ge n k with q | q
   ·have h1:=Wg q hp
    cases hk:P k with
    | none=>exact h1
    | some p'=>simp only [upd];split <;> simp [h1]
   ·have e:n=k:=by omega
    subst e
    rw [hp]
    simp only [upd]
    split
    ·rfl
    ·rename_i hc
     cases hb:(iJ P n).1 with
     | true=>rfl
     | false=>exact absurd (.inl hb) hc
theorem OV {x:aU} {s:bI} {taken:List (List aF)} {t:bA} {P:Nat→Option (Int×Int)} (T:Lc x s (Kc (s.bG++s.Used) taken.flatten t) t.aS P) (h:(iJ P 4).1=false):Vb x s taken t:=fun n hn ha X Y hF=>by
 have L:=T.al n hn ha
 cases hP:P n with
 | none=>rw [hP] at L;exact L X Y hF
 | some p=>rw [Wg hn hP] at h;cases h
structure EU (x:aU) (s:bI) (taken:List (List aF)) (t:bA) (p:aN) (q:aU):Prop where
 put:∃ a b c d,tD x p=some (q,0,a,b,c,d)
 mat:q.bD=x.bD∧q.cE=x.cE∧q.bQ=x.bQ
 q12:q.aD.length≤12
 qv:∀ r ∈ q.aD,vR r
 fe:∃ n:Nat,n≤3∧p.tZ=n∧eJ x s (n:Int)=some true∧(-1048576≤p.X∧p.X≤1048576)∧(-1048576≤p.Y∧p.Y≤1048576)∧q.aD=(trn n x.aD x.aD).map (trR p.X p.Y) ∧
  Fe (trn n x.aD x.aD) (Kc (s.bG++s.Used) taken.flatten t) t.aS (s.cM-t.aS-xJ (trn n x.aD x.aD)) (s.bP-t.aS-wX (trn n x.aD x.aD)) p.X p.Y
theorem DP {x:aU} {s:bI} {taken:List (List aF)} {t:bA} (vs:VS s) (vx:bB x=some 0) (tv:∀ l ∈ taken,∀ r ∈ l,vR r) (hg:0≤t.Gap∧t.Gap≤14400) (hm:0≤t.aS∧t.aS≤14400)
  {P:Nat→Option (Int×Int)} (T:Lc x s (Kc (s.bG++s.Used) taken.flatten t) t.aS P) (h:(iJ P 4).1=true) (i k:Int) :
  ∃ q,EU x s taken t ⟨i,k,(iJ P 4).2.1,(iJ P 4).2.2.1,(iJ P 4).2.2.2⟩ q∧(∃ u1 u2 u3 u4,tH x ⟨i,k,(iJ P 4).2.1,(iJ P 4).2.2.1,(iJ P 4).2.2.2⟩=some (q,0,u1,u2,u3,u4)):=by
 obtain ⟨n,hn,hP,hT⟩:=Ms h
 obtain ⟨al,ha,_⟩:=wJ x s (n:Int)
 cases al with
 | false=>rw [T.no n hn ha] at hP;cases hP
 | true =>
   have L:=T.al n hn ha
   rw [hP] at L
   have F:=L.1
   simp only at F
   obtain ⟨tw,th⟩:=Yd vx hn
   have w0:=vs.w;have hh:=vs.h
   have f1:=F.1;have f2:=F.2.1;have f3:=F.2.2.1;have f4:=F.2.2.2.1
   have rX : -1048576≤(iJ P 4).2.1∧(iJ P 4).2.1≤1048576:=by omega
   have rY : -1048576≤(iJ P 4).2.2.1∧(iJ P 4).2.2.1≤1048576:=by omega
   obtain ⟨q,c,u1,u2,u3,u4,e1,e2,c1,c2,c3⟩:=KT vx (show n≤3 by omega) ⟨i,k,(iJ P 4).2.1,(iJ P 4).2.2.1,(iJ P 4).2.2.2⟩ hT rX rY
   have hc:=c1 fun r hr=>((FT vx (show n≤3 by omega) vs tv hg hm rX rY).1 F r hr).1
   subst hc
   obtain ⟨er,vr,hmat⟩:=c2 rfl
   refine ⟨q,⟨⟨_,_,_,_,e2⟩,hmat,c3,fun r hr=>?_,n,by omega,hT,ha,rX,rY,er,F⟩,u1,u2,u3,u4,e1⟩
   rw [er] at hr
   obtain ⟨a,ha',rfl⟩:=List.mem_map.1 hr
   exact vr a ha'
section
variable {sheets:List bI} {pieces:List aU} {t:bA} (hs4:sheets.length≤4) (hp8:pieces.length≤8) (gs:∀ s ∈ sheets,bO s=some 0) (gp:∀ x ∈ pieces,bB x=some 0) (ht:cX t=some true)
structure TOk (sheets:List bI) (i:Nat) (T:List (List (List aF))):Prop where
 len:T.length=sheets.length
 n:∀ l ∈ T,l.length≤i
 l12:∀ l ∈ T,∀ x ∈ l,x.length≤12
 v:∀ l ∈ T,∀ x ∈ l,∀ r ∈ x,vR r
include hs4 hp8 gs gp ht
theorem HA {i:Nat} {x:aU} (hx:pieces[i]?=some x) {T:List (List (List aF))} (hT:TOk sheets i T) {O:List aN} (hO:O.length≤i) (L L':List Int) :
  (∃ (k:Nat) (s:bI) (l:List (List aF)) (p:aN) (q:aU),sheets[k]?=some s∧T[k]?=some l∧p.aU=i∧p.bI=k∧EU x s l t p q ∧
      aM (pI sheets t ((i:Int),T,O,L) x) 0=some (.inl (T.set k (l++[q.aD]),O++[p])) ∧
      aM (cH sheets pieces t ((i:Int),T.map List.flatten,O,L')) (false,0,T.map List.flatten,O)=some (true,(T.map List.flatten).set k (l.flatten++q.aD),O++[p])) ∨
  (aM (pI sheets t ((i:Int),T,O,L) x) 0=some (.inr ())∧aM (cH sheets pieces t ((i:Int),T.map List.flatten,O,L')) (false,0,T.map List.flatten,O)=some (false,T.map List.flatten,O) ∧
   ∀ (k:Nat) s l,sheets[k]?=some s→T[k]?=some l→Vb x s l t):=by
 have vx:=gp x (List.mem_of_getElem? hx)
 have hi:=bY hx
 have key:∀ (m k:Nat),k+m=sheets.length→(∀ (k':Nat) s l,k'<k→sheets[k']?=some s→T[k']?=some l→Vb x s l t) →
   ((∃ (k0:Nat) (s:bI) (l:List (List aF)) (p:aN) (q:aU),sheets[k0]?=some s∧T[k0]?=some l∧p.aU=i∧p.bI=k0∧EU x s l t p q ∧
     aM (pI sheets t ((i:Int),T,O,L) x) (k:Int)=some (.inl (T.set k0 (l++[q.aD]),O++[p])) ∧
     aM (cH sheets pieces t ((i:Int),T.map List.flatten,O,L')) (false,(k:Int),T.map List.flatten,O)=some (true,(T.map List.flatten).set k0 (l.flatten++q.aD),O++[p])) ∨
   (aM (pI sheets t ((i:Int),T,O,L) x) (k:Int)=some (.inr ())∧aM (cH sheets pieces t ((i:Int),T.map List.flatten,O,L')) (false,(k:Int),T.map List.flatten,O)=some (false,T.map List.flatten,O) ∧
    ∀ (k:Nat) s l,sheets[k]?=some s→T[k]?=some l→Vb x s l t)):=by
  intro m
  induction m with
  | zero =>
    intro k hk hno
    obtain rfl:k=sheets.length:=by omega
    refine .inr ⟨cF (by simp [pI]),cF (by simp [cH]),fun k s l h1 h2=>hno k s l (bY h1) h1 h2⟩
  | succ m ih =>
    intro k hk hno
    have hkl:k<sheets.length:=by omega
    obtain ⟨s,hs⟩:∃ s,sheets[k]?=some s:=⟨_,List.getElem?_eq_getElem hkl⟩
    obtain ⟨l,hl⟩:∃ l,T[k]?=some l:=⟨_,List.getElem?_eq_getElem (by have:=hT.len;omega)⟩
    have lm:=List.mem_of_getElem? hl
    have ln:=hT.n l lm
    have lv:=hT.v l lm
    obtain ⟨vs,cg,cm,P,TP,⟨u1,u2,u3,fP⟩,⟨w1,w2,w3,w4,w5,fD⟩⟩:=ES (gs s (List.mem_of_getElem? hs)) vx (by omega) (hT.l12 l lm) lv ht
    have hd:decide ((k:Int)<(sheets.length:Int))=true:=by simp [hkl]
    have hlf:(T.map List.flatten)[k]?=some l.flatten:=by rw [List.getElem?_map,hl];rfl
    cases hb:(iJ P 4).1 with
    | false =>
      have nf:=OV TP hb
      have r1:pI sheets t ((i:Int),T,O,L) x (k:Int)=some (.inl ((k+1:Nat):Int)):=by
       unfold pI
       simp only [hd,if_true,bE hs,bE hl,Option.bind_some,fP,hb,bne_self_eq_false,Bool.false_eq_true,if_false,Bool.not_false,bT k (by omega)]
      have r2:cH sheets pieces t ((i:Int),T.map List.flatten,O,L') (false,(k:Int),T.map List.flatten,O)=some (.inl (false,((k+1:Nat):Int),T.map List.flatten,O)):=by
       unfold cH kG
       simp only [hd,if_true,Bool.not_false,bE hs,bE hlf,bE hx,Option.bind_some,fD,hb,Bool.false_eq_true,if_false,bT k (by omega)]
      rw [eI r1,eI r2]
      exact ih (k+1) (by omega) fun k' s' l' h1 h2 h3=>by
       rcases Nat.lt_or_ge k' k with q | q
       ·exact hno k' s' l' q h2 h3
       ·have e:k'=k:=by omega
        subst e
        rw [hs] at h2;rw [hl] at h3
        injection h2 with h2;injection h3 with h3
        subst h2 h3;exact nf
    | true =>
      obtain ⟨q,hq,v1,v2,v3,v4,hput⟩:=DP vs vx lv cg cm TP hb (i:Int) (k:Int)
      obtain ⟨a,b,c,d,hP1⟩:=hq.put
      obtain ⟨q',c',n',m',g',h',z1,z2,_⟩:=Rb x ⟨(i:Int),(k:Int),(iJ P 4).2.1,(iJ P 4).2.2.1,(iJ P 4).2.2.2⟩
      rw [hP1] at z1
      simp only [Option.some.injEq,Prod.mk.injEq] at z1
      obtain ⟨rfl,_⟩:=z1
      have q12:=hq.q12
      have lf:=Vm (hT.l12 l lm)
      left
      refine ⟨k,s,l,⟨(i:Int),(k:Int),(iJ P 4).2.1,(iJ P 4).2.2.1,(iJ P 4).2.2.2⟩,q,hs,hl,rfl,rfl,hq, ?_, ?_⟩
      ·refine cF ?_
       unfold pI
       simp only [hd,if_true,bE hs,bE hl,Option.bind_some,fP,hb,bne_self_eq_false,Bool.false_eq_true,if_false,Bool.not_true,hput,Int.toNat_natCast]
       rw [jZ (by simp [LIM];omega)]
       simp only [Option.bind_some]
       rw [jZ (by simp [LIM];omega)]
       rfl
      ·have r2:cH sheets pieces t ((i:Int),T.map List.flatten,O,L') (false,(k:Int),T.map List.flatten,O)=some (.inl (true,((k+1:Nat):Int),(T.map List.flatten).set k (l.flatten++q.aD),O++[⟨(i:Int),(k:Int),(iJ P 4).2.1,(iJ P 4).2.2.1,(iJ P 4).2.2.2⟩])):=by
        unfold cH kG
        simp only [hd,if_true,Bool.not_false,bE hs,bE hlf,bE hx,Option.bind_some,fD,hb,z2,Int.toNat_natCast,bT k (by omega)]
        rw [jZ (by unfold LIM;omega)]
        simp only [Option.bind_some]
        rw [jZ (by simp [LIM];omega)]
        rfl
       rw [eI r2]
       refine cF ?_
       unfold cH
       have:(if decide ((((k+1:Nat):Int))<(sheets.length:Int))=true then some (!true) else some false)=some false:=by split <;> rfl
       simp only [this,Option.bind_some,Bool.false_eq_true,if_false]
 exact key sheets.length 0 (by omega) fun k' s l h=>by omega
end
theorem Vb.mono {x:aU} {s:bI} {l l':List (List aF)} {t:bA} (h:Vb x s l t) (hs:∀ y ∈ l,y ∈ l'):Vb x s l' t:=fun n hn ha X Y hF=>by
 refine h n hn ha X Y ⟨hF.1,hF.2.1,hF.2.2.1,hF.2.2.2.1,fun o ho r hr=>hF.2.2.2.2 o ?_ r hr⟩
 rcases List.mem_append.1 ho with q | q
 ·exact List.mem_append_left _ q
 ·obtain ⟨z,hz,rfl⟩:=List.mem_map.1 q
  obtain ⟨y,hy,hz⟩:=List.mem_flatten.1 hz
  exact List.mem_append_right _ (List.mem_map.2 ⟨z,List.mem_flatten.2 ⟨y,hs y hy,hz⟩,rfl⟩)
structure Inv (sheets:List bI) (pieces:List aU) (t:bA) (i:Nat) (T:List (List (List aF))) (O:List aN) (L:List Int) (Q:List aU):Prop where
 tok:TOk sheets i T
 ol:O.length+L.length=i
 oq:Q.length=O.length
 pl:∀ (j:Nat) a b,O[j]?=some a→Q[j]?=some b→∃ (x:aU) (s:bI) (m k:Nat) (tk:List (List aF)),a.aU=m∧m<i∧pieces[m]?=some x∧a.bI=k∧sheets[k]?=some s∧EU x s tk t a b∧(∀ l ∈ tk,∀ r ∈ l,vR r) ∧
  (∀ (j':Nat) a' b',j'<j→O[j']?=some a'→Q[j']?=some b'→a'.bI=a.bI→b'.aD ∈ tk)
 m1:∀ (j:Nat) a b,O[j]?=some a→Q[j]?=some b→∃ (k:Nat) (l:List (List aF)),a.bI=k∧T[k]?=some l∧b.aD ∈ l
 m2:∀ (k:Nat) l x,T[k]?=some l→x ∈ l→∃ (j:Nat) (a:aN) (b:aU),O[j]?=some a∧Q[j]?=some b∧a.bI=k∧b.aD=x
 asc:∀ (j j':Nat) a a',j<j'→O[j]?=some a→O[j']?=some a'→a.aU<a'.aU
 rest:∀ z ∈ L,∃ m:Nat,z=m∧m<i∧∃ x,pieces[m]?=some x∧∀ (k:Nat) s l,sheets[k]?=some s→T[k]?=some l→Vb x s l t
theorem Fb {α:Type} {l:List α} {x y:α} {j:Nat} (h:(l++[x])[j]?=some y):(j<l.length∧l[j]?=some y)∨(j=l.length∧y=x):=by
 rcases Nat.lt_or_ge j l.length with q | q
 ·rw [List.getElem?_append_left q] at h;exact .inl ⟨q,h⟩
 ·rw [List.getElem?_append_right q] at h
  rcases Nat.eq_zero_or_pos (j-l.length) with e | e
  ·rw [e] at h;simp at h;exact .inr ⟨by omega,h.symm⟩
  ·rw [List.getElem?_eq_none (by simp;omega)] at h;cases h
theorem Ni {α:Type} {l:List α} {x y:α} {j:Nat} (h:l[j]?=some y):(l++[x])[j]?=some y:=by
 rw [List.getElem?_append_left (bY h)];exact h
section
variable {sheets:List bI} {pieces:List aU} {t:bA} {i:Nat} {T:List (List (List aF))} {O:List aN} {L:List Int} {Q:List aU} (h:Inv sheets pieces t i T O L Q)
include h
theorem Inv.put {x:aU} (hx:pieces[i]?=some x) {k:Nat} {s:bI} {l:List (List aF)} {p:aN} {q:aU} (hs:sheets[k]?=some s) (hl:T[k]?=some l) (pp:p.aU=i) (ps:p.bI=k) (h1:EU x s l t p q):Inv sheets pieces t (i+1) (T.set k (l++[q.aD])) (O++[p]) L (Q++[q]):=by
 have lm:=List.mem_of_getElem? hl
 have kl:=bY hl
 have new:∀ l' ∈ T.set k (l++[q.aD]),l' ∈ T∨l'=l++[q.aD]:=fun l' h'=>List.mem_or_eq_of_mem_set h'
 have grow:∀ (k':Nat) l',T[k']?=some l'→∃ l2,(T.set k (l++[q.aD]))[k']?=some l2∧∀ y ∈ l',y ∈ l2:=fun k' l' h'=>by
  by_cases e:k=k'
  ·subst e
   rw [hl] at h';injection h' with h';subst h'
   exact ⟨l++[q.aD],by rw [List.getElem?_set,if_pos rfl,if_pos kl],fun y hy=>List.mem_append_left _ hy⟩
  ·exact ⟨l',by rw [List.getElem?_set,if_neg e];exact h',fun y hy=>hy⟩
 have back:∀ (k':Nat) l',(T.set k (l++[q.aD]))[k']?=some l'→(k'=k∧l'=l++[q.aD])∨T[k']?=some l':=fun k' l' h'=>by
  rw [List.getElem?_set] at h'
  by_cases e:k=k'
  ·rw [if_pos e,if_pos kl] at h';exact .inl ⟨e.symm,(Option.some.inj h').symm⟩
  ·rw [if_neg e] at h';exact .inr h'
 have hoq:=h.oq
 refine ⟨⟨by rw [List.length_set];exact h.tok.len,fun l' h'=>?_,fun l' h'=>?_,fun l' h'=>?_⟩, ?_, ?_,fun j a b ha hb=>?_,fun j a b ha hb=>?_,fun k' l' y h' hy=>?_,fun j j' a a' hj ha ha'=>?_,fun z hz=>?_⟩
 ·rcases new l' h' with w | rfl
  ·have:=h.tok.n l' w;omega
  ·have:=h.tok.n l lm;simp;omega
 ·rcases new l' h' with w | rfl
  ·exact h.tok.l12 l' w
  ·intro y hy
   rcases List.mem_append.1 hy with w | w
   ·exact h.tok.l12 l lm y w
   ·simp at w;subst w;exact h1.q12
 ·rcases new l' h' with w | rfl
  ·exact h.tok.v l' w
  ·intro y hy
   rcases List.mem_append.1 hy with w | w
   ·exact h.tok.v l lm y w
   ·simp at w;subst w;exact h1.qv
 ·have:=h.ol;simp;omega
 ·simp;omega
 ·rcases Fb ha with ⟨j1,ha⟩ | ⟨j1,rfl⟩
  ·rcases Fb hb with ⟨_,hb⟩ | ⟨j2,_⟩
   ·obtain ⟨x',s',m,k',tk,a1,a2,a3,a4,a5,a6,a7,a8⟩:=h.pl j a b ha hb
    refine ⟨x',s',m,k',tk,a1,by omega,a3,a4,a5,a6,a7,fun j' a' b' hj' ha' hb' hss=>?_⟩
    have j3:j'<O.length:=by omega
    rw [List.getElem?_append_left j3] at ha'
    rw [List.getElem?_append_left (by omega)] at hb'
    exact a8 j' a' b' hj' ha' hb' hss
   ·omega
  ·rcases Fb hb with ⟨j2,_⟩ | ⟨_,rfl⟩
   ·omega
   ·refine ⟨x,s,i,k,l,pp,Nat.lt_succ_self i,hx,ps,hs,h1,h.tok.v l lm,fun j' a' b' hj' ha' hb' hss=>?_⟩
    have j3:j'<O.length:=by omega
    rw [List.getElem?_append_left j3] at ha'
    rw [List.getElem?_append_left (by omega)] at hb'
    obtain ⟨k2,l2,c1,c2,c3⟩:=h.m1 j' a' b' ha' hb'
    have:k2=k:=by rw [hss,ps] at c1;omega
    subst this
    rw [hl] at c2;injection c2 with c2;subst c2;exact c3
 ·rcases Fb ha with ⟨j1,ha⟩ | ⟨j1,rfl⟩
  ·rcases Fb hb with ⟨_,hb⟩ | ⟨j2,_⟩
   ·obtain ⟨k2,l2,c1,c2,c3⟩:=h.m1 j a b ha hb
    obtain ⟨l3,d1,d2⟩:=grow k2 l2 c2
    exact ⟨k2,l3,c1,d1,d2 _ c3⟩
   ·omega
  ·rcases Fb hb with ⟨j2,_⟩ | ⟨_,rfl⟩
   ·omega
   ·exact ⟨k,l++[b.aD],ps,by rw [List.getElem?_set,if_pos rfl,if_pos kl],List.mem_append_right _ (by simp)⟩
 ·rcases back k' l' h' with ⟨rfl,rfl⟩ | w
  ·rcases List.mem_append.1 hy with v | v
   ·obtain ⟨j,a,b,c1,c2,c3,c4⟩:=h.m2 k' l y hl v
    exact ⟨j,a,b,Ni c1,Ni c2,c3,c4⟩
   ·simp at v
    exact ⟨O.length,p,q,by simp,by rw [← hoq];simp,ps,v.symm⟩
  ·obtain ⟨j,a,b,c1,c2,c3,c4⟩:=h.m2 k' l' y w hy
   exact ⟨j,a,b,Ni c1,Ni c2,c3,c4⟩
 ·rcases Fb ha' with ⟨j1,ha'⟩ | ⟨j1,rfl⟩
  ·rw [List.getElem?_append_left (by omega)] at ha
   exact h.asc j j' a a' hj ha ha'
  ·have j2:j<O.length:=by omega
   rw [List.getElem?_append_left j2] at ha
   obtain ⟨b,hb⟩:∃ b,Q[j]?=some b:=⟨_,List.getElem?_eq_getElem (by omega)⟩
   obtain ⟨_,_,m,_,_,a1,a2,_⟩:=h.pl j a b ha hb
   rw [a1,pp];omega
 ·obtain ⟨m,z1,z2,x',z3,z4⟩:=h.rest z hz
  refine ⟨m,z1,by omega,x',z3,fun k' s' l' hs' hl'=>?_⟩
  rcases back k' l' hl' with ⟨rfl,rfl⟩ | w
  ·exact (z4 k' s' l hs' hl).mono fun y hy=>List.mem_append_left _ hy
  ·exact z4 k' s' l' hs' w
theorem Inv.left {x:aU} (hx:pieces[i]?=some x) (hno:∀ (k:Nat) s l,sheets[k]?=some s→T[k]?=some l→Vb x s l t):Inv sheets pieces t (i+1) T O (L++[(i:Int)]) Q:=by
 refine ⟨⟨h.tok.len,fun l hl=>by have:=h.tok.n l hl;omega,h.tok.l12,h.tok.v⟩,by have:=h.ol;simp;omega,h.oq,fun j a b ha hb=>?_,h.m1,h.m2,h.asc,fun z hz=>?_⟩
 ·obtain ⟨x',s',m,k',tk,a1,a2,a3⟩:=h.pl j a b ha hb
  exact ⟨x',s',m,k',tk,a1,by omega,a3⟩
 ·rcases List.mem_append.1 hz with w | w
  ·obtain ⟨m,z1,z2,z3⟩:=h.rest z w
   exact ⟨m,z1,by omega,z3⟩
  ·simp at w;subst w
   exact ⟨i,rfl,Nat.lt_succ_self i,x,hx,hno⟩
end
section
variable {sheets:List bI} {pieces:List aU} {t:bA} (hs4:sheets.length≤4) (hp8:pieces.length≤8) (gs:∀ s ∈ sheets,bO s=some 0) (gp:∀ x ∈ pieces,bB x=some 0) (ht:cX t=some true)
include hs4 hp8 gs gp ht
theorem HE:∃ T O L Q,Inv sheets pieces t pieces.length T O L Q∧aM (wP sheets pieces t) (0,List.replicate sheets.length [],[],[])=some (O,L)∧aM (iF sheets pieces t) (0,List.replicate sheets.length [],[],[])=some (O,L):=by
 have key:∀ (m i:Nat) T O L Q,i+m=pieces.length→Inv sheets pieces t i T O L Q→∃ T' O' L' Q',Inv sheets pieces t pieces.length T' O' L' Q'∧aM (wP sheets pieces t) ((i:Int),T,O,L)=some (O',L')∧aM (iF sheets pieces t) ((i:Int),T.map List.flatten,O,L)=some (O',L'):=by
  intro m
  induction m with
  | zero =>
    intro i T O L Q hi h
    obtain rfl:i=pieces.length:=by omega
    exact ⟨T,O,L,Q,h,cF (by simp [wP]),cF (by simp [iF])⟩
  | succ m ih =>
    intro i T O L Q hi h
    have hil:i<pieces.length:=by omega
    obtain ⟨x,hx⟩:∃ x,pieces[i]?=some x:=⟨_,List.getElem?_eq_getElem hil⟩
    have hd:decide ((i:Int)<(pieces.length:Int))=true:=by simp [hil]
    have hol:=h.ol
    rcases HA hs4 hp8 gs gp ht hx h.tok (O:=O) (by omega) L L with ⟨k,s,l,p,q,a1,a2,a3,a4,a5,a6,a7⟩ | ⟨a1,a2,a3⟩
    ·have h2:=h.put hx a1 a2 a3 a4 a5
     obtain ⟨T',O',L',Q',b1,b2,b3⟩:=ih (i+1) _ _ _ _ (by omega) h2
     refine ⟨T',O',L',Q',b1, ?_, ?_⟩
     ·rw [eI (s':=(((i+1:Nat):Int),T.set k (l++[q.aD]),O++[p],L)),b2]
      unfold wP Ak
      simp only [hd,if_true,bE hx,Option.bind_some,a6,bT i (by omega)]
     ·have e:(T.map List.flatten).set k (l.flatten++q.aD)=(T.set k (l++[q.aD])).map List.flatten:=by
       rw [List.map_set];congr 1;simp
      rw [eI (s':=(((i+1:Nat):Int),(T.set k (l++[q.aD])).map List.flatten,O++[p],L)),b3]
      unfold iF kF
      simp only [hd,if_true,Option.bind_some,a7,Bool.not_true,Bool.false_eq_true,if_false,bT i (by omega),e]
    ·have h2:=h.left hx a3
     obtain ⟨T',O',L',Q',b1,b2,b3⟩:=ih (i+1) _ _ _ _ (by omega) h2
     refine ⟨T',O',L',Q',b1, ?_, ?_⟩
     ·rw [eI (s':=(((i+1:Nat):Int),T,O,L++[(i:Int)])),b2]
      unfold wP Ak
      simp only [hd,if_true,bE hx,Option.bind_some,a1,bT i (by omega)]
      rw [jZ (by simp [LIM];omega)];rfl
     ·rw [eI (s':=(((i+1:Nat):Int),T.map List.flatten,O,L++[(i:Int)])),b3]
      unfold iF kF
      simp only [hd,if_true,Option.bind_some,a2,Bool.not_false,bT i (by omega)]
      rw [jZ (by simp [LIM];omega)];rfl
 have h0:Inv sheets pieces t 0 (List.replicate sheets.length []) [] [] []:=by
  have r:∀ l ∈ List.replicate sheets.length ([]:List (List aF)),l=[]:=fun l hl=>List.eq_of_mem_replicate hl
  refine ⟨⟨by simp,fun l hl=>by rw [r l hl];simp,fun l hl=>by rw [r l hl];simp,fun l hl=>by rw [r l hl];simp⟩,rfl,rfl,fun j a b ha _=>by simp at ha,fun j a b ha _=>by simp at ha,fun k l x hl hx=>?_,fun j j' a a' _ ha _=>by simp at ha,fun z hz=>by simp at hz⟩
  rw [r l (List.mem_of_getElem? hl)] at hx;cases hx
 obtain ⟨T,O,L,Q,a,b,c⟩:=key pieces.length 0 _ _ _ _ (by omega) h0
 refine ⟨T,O,L,Q,a,b, ?_⟩
 have e:(List.replicate sheets.length ([]:List (List aF))).map List.flatten=List.replicate sheets.length []:=by rw [List.map_replicate];rfl
 rw [e] at c
 exact c
omit ht in
theorem GP:vX sheets pieces=some 0:=by
 unfold vX
 have h1:¬ (sheets.length:Int)>4:=by omega
 have h2:¬ (pieces.length:Int)>8:=by omega
 have e1:aM (fX sheets) 0=some (.inr ()):=by
  have:=dB sheets (fX sheets) (fun k=>(k:Int)) (fun _=>false) (.inr ()) (.inl 0) rfl (fun k x hx=>?_) ?_
  ·refine this.trans ?_;simp
  ·have hk:=bY hx
   have hd:decide ((k:Int)<(sheets.length:Int))=true:=by simp [hk]
   unfold fX
   simp only [hd,if_true,bE hx,Option.bind_some,gs x (List.mem_of_getElem? hx),bne_self_eq_false,Bool.false_eq_true,if_false,bT k (by omega)]
  ·simp [fX]
 have e2:aM (fY pieces) 0=some (.inr ()):=by
  have:=dB pieces (fY pieces) (fun k=>(k:Int)) (fun _=>false) (.inr ()) (.inl 0) rfl (fun k x hx=>?_) ?_
  ·refine this.trans ?_;simp
  ·have hk:=bY hx
   have hd:decide ((k:Int)<(pieces.length:Int))=true:=by simp [hk]
   unfold fY
   simp only [hd,if_true,bE hx,Option.bind_some,gp x (List.mem_of_getElem? hx),bne_self_eq_false,Bool.false_eq_true,if_false,bT k (by omega)]
  ·simp [fY]
 simp only [h1,h2,decide_false,Bool.false_eq_true,if_false,Option.bind_some,e1,e2]
theorem Zn {T:List (List (List aF))} {O:List aN} {L:List Int} {Q:List aU} (h:Inv sheets pieces t pieces.length T O L Q):Bf sheets pieces t O=some (0,0):=by
 have hol:=h.ol
 have hoq:=h.oq
 obtain ⟨c,c1,c2,c3⟩:=Ov t
 have hc:c=true:=Option.some.inj (c1.symm.trans ht)
 subst hc
 obtain ⟨cg,cm⟩:=c3 rfl
 have step:∀ (j:Nat) a b,O[j]?=some a→Q[j]?=some b→jP sheets pieces t O ((j:Int),Q.take j)=some (.inl (((j+1:Nat):Int),Q.take (j+1))):=fun j a b ha hb=>by
  have hj:=bY ha
  obtain ⟨x,s,m,k,tk,e1,e2,e3,e4,e5,e6,e7,e8⟩:=h.pl j a b ha hb
  have vs:VS s:=by
   obtain ⟨z,z1,_,z3⟩:=Jk s
   exact z3 (Option.some.inj (z1.symm.trans (gs s (List.mem_of_getElem? e5))))
  have vx:=gp x (List.mem_of_getElem? e3)
  obtain ⟨u1,u2,u3,u4,hput⟩:=e6.put
  have q12:=e6.q12
  obtain ⟨n,n3,hn,hal,hX,hY,hr,hF⟩:=e6.fe
  have good:=(FT vx n3 vs e7 cg cm hX hY).1 hF
  have hd:decide ((j:Int)<(O.length:Int))=true:=by simp [hj]
  have km:=bY e3
  have kk:=bY e5
  have f0:aI (pieces.length:Int) 1=(pieces.length:Int)-1:=bF (by omega) (by omega)
  have f1:aI (sheets.length:Int) 1=(sheets.length:Int)-1:=bF (by omega) (by omega)
  have hx:idx pieces a.aU=some x:=by rw [e1];exact bE e3
  have hs:idx sheets a.bI=some s:=by rw [e4];exact bE e5
  have b1:(0≤a.aU∧a.aU≤(pieces.length:Int)-1):=by omega
  have b2:(0≤a.bI∧a.bI≤(sheets.length:Int)-1):=by omega
  have hlt:(O.take j).length=j:=by rw [List.length_take];omega
  have hqt:(Q.take j).length=j:=by rw [List.length_take];omega
  have hdup:dup (O.take j) a=false:=by
   unfold dup
   rw [List.any_eq_false]
   intro p hp
   obtain ⟨j',hj'⟩:=List.mem_iff_getElem?.1 hp
   have l1:=bY hj'
   rw [List.getElem?_take,if_pos (by omega)] at hj'
   have:=h.asc j' j p a (by omega) hj' ha
   simp;omega
  have al1:eJ b s a.tZ=some true:=by
   rw [hn]
   obtain ⟨h1,h2,h3⟩:=e6.mat
   have:eJ b s (n:Int)=eJ x s (n:Int):=by unfold eJ;rw [h1,h2,h3]
   rw [this];exact hal
  have n1:=vs.n1;have n2:=vs.n2;have sw:=vs.w;have sh:=vs.h
  have tp:=JE vx n3
  have b0:0<b.aD.length:=by rw [hr,List.length_map];exact tp.n0
  have einn:Bd s t.aS=⟨t.aS,t.aS,s.cM-2*t.aS,s.bP-2*t.aS⟩:=by
   unfold Bd
   have e0:eS 2 t.aS=2*t.aS:=De (by omega) (by omega)
   rw [e0,bF (by omega) (by omega),bF (by omega) (by omega)]
  have hlies:lies b.aD s (Bd s t.aS)=true:=by
   unfold lies
   rw [Bool.not_eq_true',List.any_eq_false,einn]
   intro y hy
   rw [hr] at hy
   obtain ⟨r,hr',rfl⟩:=List.mem_map.1 hy
   obtain ⟨g0,g1,g2,_⟩:=good r hr'
   have c1:s.bG.any (oG (trR a.X a.Y r))=false:=by
    rw [List.any_eq_false]
    intro o ho w
    exact g2 o (List.mem_append_left _ ho) (of_decide_eq_true w)
   have c2:s.Used.any (oG (trR a.X a.Y r))=false:=by
    rw [List.any_eq_false]
    intro o ho w
    exact g2 o (List.mem_append_right _ ho) (of_decide_eq_true w)
   rw [c1,c2,decide_eq_true g1];simp
  have hlw:=Pd (x:=b) (s:=s) t a.tZ al1 (by omega) b0 (by omega) (by omega)
  have hlw':uM (aU.mk b.Name b.bD b.cE b.bQ b.aD b.bN b.Forms) s t a.tZ=some (true&&lies b.aD s (Bd s t.aS)):=hlw
  have hnear:(List.range (O.take j).length).any (Pe t (O.take j) (Q.take j) a b)=false:=by
   rw [List.any_eq_false,hlt]
   intro j' hj'
   rw [List.mem_range] at hj'
   obtain ⟨a',ha'⟩:∃ a',O[j']?=some a':=⟨_,List.getElem?_eq_getElem (by omega)⟩
   obtain ⟨b',hb'⟩:∃ b',Q[j']?=some b':=⟨_,List.getElem?_eq_getElem (by omega)⟩
   unfold Pe
   have g1:(O.take j)[j']?=some a':=by rw [List.getElem?_take,if_pos hj'];exact ha'
   have g2:(Q.take j)[j']?=some b':=by rw [List.getElem?_take,if_pos hj'];exact hb'
   rw [g1,g2]
   simp only
   by_cases hss:a'.bI=a.bI
   ·have hm:=e8 j' a' b' hj' ha' hb' hss
    have:clr t b.aD b'.aD=true:=by
     unfold clr
     rw [Bool.not_eq_true',List.any_eq_false]
     intro y hy w
     rw [hr] at hy
     obtain ⟨r,hr',rfl⟩:=List.mem_map.1 hy
     obtain ⟨o,ho,w⟩:=List.any_eq_true.1 w
     rw [(good r hr').2.2.2 _ hm o ho] at w;cases w
    rw [this];simp
   ·have:(a'.bI==a.bI)=false:=by rw [beq_eq_false_iff_ne];exact hss
    rw [this];simp
  have nl:=Up (pieces:=pieces) t (l:=O.take j) (placed:=Q.take j) a (b,0,u1,u2,u3,u4) (j:Int) (by omega) (by omega) q12 (fun j' a' b' ha' hb'=>by
   have l1:=bY ha'
   rw [List.getElem?_take,if_pos (by omega)] at ha'
   rw [List.getElem?_take,if_pos (by omega)] at hb'
   obtain ⟨x',s',m',k',tk',c1,c2,c3,c4,c5,c6,_⟩:=h.pl j' a' b' ha' hb'
   obtain ⟨w1,w2,w3,w4,w5⟩:=c6.put
   obtain ⟨q',c',v1,v2,v3,v4,z1,z2,_⟩:=Rb x' a'
   rw [w5] at z1
   simp only [Option.some.injEq,Prod.mk.injEq] at z1
   obtain ⟨rfl,rfl,rfl,rfl,rfl,rfl⟩:=z1
   exact ⟨x',0,_,_,_,_,by rw [c1];exact bE c3,w5,z2,c6.q12⟩)
  unfold jP
  simp only [hd,if_true,bE ha,Option.bind_some,yG,f0,f1,b1,b2,and_self,decide_true,Bool.not_true,Bool.false_eq_true,if_false,hx,hput,bne_self_eq_false,Kx (Nat.le_of_lt hj),Wr (O.take j) a (by omega),hdup,hs,hlw',hlies,Bool.and_self,nl]
  rw [hnear]
  simp only [Bool.false_eq_true,if_false,Option.bind_some]
  rw [jZ (by rw [List.length_take];simp [LIM];omega),bT j (by omega),fI hb]
  rfl
 have loop : ∀ (m k:Nat),k+m=O.length→aM (jP sheets pieces t O) ((k:Int),Q.take k)=some (.inr ()):=by
  intro m
  induction m with
  | zero => intro k hk;obtain rfl:k = O.length := by omega
            exact cF (by simp [jP])
  | succ m ih =>
    intro k hk
    obtain ⟨a,ha⟩:∃ a,O[k]?=some a:=⟨_,List.getElem?_eq_getElem (by omega)⟩
    obtain ⟨b,hb⟩:∃ b,Q[k]?=some b:=⟨_,List.getElem?_eq_getElem (by omega)⟩
    rw [eI (step k a b ha hb)]
    exact ih (k+1) (by omega)
 have l0:=loop O.length 0 (by omega)
 rw [List.take_zero] at l0
 obtain ⟨b,b1,_,b3⟩:=Mi sheets pieces
 have hb:b=0:=by
  have:vX sheets pieces=some 0:=GP hs4 hp8 gs gp
  exact Option.some.inj (b1.symm.trans this)
 subst hb
 unfold Bf
 simp only [b1,c1,Option.bind_some,bne_self_eq_false,Bool.false_eq_true,if_false,Bool.not_true]
 rw [show ((0:Int),([]:List aU))=(((0:Nat):Int),[]) from rfl,l0]
 rfl
end
theorem NT {a:List aN} (ha:a.length≤1000):fQ a a=some true:=by
 unfold fQ
 have key:aM (eM a a) 0=some (.inr ()):=by
  have:=dB a (eM a a) (fun k=>(k:Int)) (fun _=>false) (.inr ()) (.inl ()) rfl (fun k x hx=>?_) ?_
  ·refine this.trans ?_;simp
  ·have hk:=bY hx
   have h1:decide ((k:Int)<(a.length:Int))=true:=by simp;omega
   unfold eM
   simp only [h1,if_true,bE hx,Option.bind_some,beq_self_eq_true,Bool.and_self,Bool.not_true,Bool.false_eq_true,if_false,bT k (by omega)]
  ·simp [eM]
 rw [key];simp
theorem NS {a:List Int} (ha:a.length≤1000):nI a a=some true:=by
 unfold nI
 have key:aM (gY a a) 0=some (.inr ()):=by
  have:=dB a (gY a a) (fun k=>(k:Int)) (fun _=>false) (.inr ()) (.inl ()) rfl (fun k x hx=>?_) ?_
  ·refine this.trans ?_;simp
  ·have hk:=bY hx
   have h1:decide ((k:Int)<(a.length:Int))=true:=by simp;omega
   unfold gY
   simp only [h1,if_true,bE hx,Option.bind_some,bne_self_eq_false,Bool.false_eq_true,if_false,bT k (by omega)]
  ·simp [gY]
 rw [key];simp
theorem CB (sheets:List bI) (pieces:List aU) (t:bA):∃ O L e,Hr sheets pieces t=some (O,L,e)∧rS sheets pieces t=some (O,L,e)∧O.length≤8∧L.length≤8∧(e≠0→O=[]∧L=[]) ∧
  (e=0→sheets.length≤4∧pieces.length≤8∧(∀ s ∈ sheets,bO s=some 0)∧(∀ x ∈ pieces,bB x=some 0)∧cX t=some true∧∃ T Q,Inv sheets pieces t pieces.length T O L Q):=by
 obtain ⟨b,b1,b2,b3⟩:=Mi sheets pieces
 obtain ⟨c,c1,c2⟩:=Gh t
 unfold Hr rS
 rw [b1,b2,c1,c2]
 simp only [Option.bind_some]
 by_cases hb:b=0
 ·subst hb
  obtain ⟨g1,g2,g3,g4⟩:=b3 rfl
  simp only [bne_self_eq_false,Bool.false_eq_true,if_false]
  cases c with
  | false=>exact ⟨[],[],1,rfl,rfl,by simp,by simp,fun _=>⟨rfl,rfl⟩,fun q=>absurd q (by decide)⟩
  | true =>
    obtain ⟨T,O,L,Q,h1,h2,h3⟩:=HE g1 g2 g3 g4 c1
    have hol:=h1.ol
    have m1:mk (sheets.length:Int) ([]:List (List (List aF))).head?.toList.flatten=some (List.replicate sheets.length []):=by
     unfold mk
     rw [if_pos ⟨by omega,by simp [LIM];omega⟩,Int.toNat_natCast];rfl
    have m2:∀ {β:Type} (z:β),mk (sheets.length:Int) z=some (List.replicate sheets.length z):=fun {β} z=>by
     unfold mk
     rw [if_pos ⟨by omega,by simp [LIM];omega⟩,Int.toNat_natCast]
    simp only [Bool.not_true,Bool.false_eq_true,if_false,m2,Option.bind_some,h2,h3]
    exact ⟨O,L,0,rfl,rfl,by omega,by omega,fun q=>absurd rfl q,fun _=>⟨g1,g2,g3,g4,trivial,T,Q,h1⟩⟩
 ·have hb':(b != 0)=true:=by rw [bne_iff_ne];exact hb
  simp only [hb',if_true]
  exact ⟨[],[],b,rfl,rfl,by simp,by simp,fun _=>⟨rfl,rfl⟩,fun q=>absurd q hb⟩
theorem Th (j:sY):rB j=some true:=by
 obtain ⟨O,L,e,h1,h2,h3,h4,h5,h6⟩:=CB j.Lw j.Lt j.Set
 obtain ⟨r,r1,_,_⟩:=Yf j.Lw j.Lt j.Set O (by omega)
 unfold rB
 simp only [h1,h2,Option.bind_some,bne_self_eq_false,Bool.false_eq_true,if_false,NT (show O.length≤1000 by omega),NS (show L.length≤1000 by omega),if_true,Bool.not_true,r1]
 by_cases he:e=0
 ·subst he
  obtain ⟨g1,g2,g3,g4,g5,T,Q,hI⟩:=h6 rfl
  have:=Zn g1 g2 g3 g4 g5 hI
  rw [r1] at this
  have hr:r=(0,0):=Option.some.inj this
  subst hr
  simp only [bne_self_eq_false,Bool.false_eq_true,if_false,beq_self_eq_true,if_true,Um,Option.bind_some]
 ·have he':(e != 0)=true:=by rw [bne_iff_ne];exact he
  simp only [he',if_true,Um,Option.bind_some]
end Go.SM
