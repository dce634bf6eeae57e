/- What the functions compute, part 2. -/
import Derived.Test.YtonmponhpfpokaaGreatRPl1
set_option linter.unusedVariables false
set_option linter.unusedSimpArgs false
set_option linter.unusedSectionVars false
noncomputable section
namespace Go.SM
open Go Go.VI
theorem Al (n lo hi:Int):lX n lo hi=some (decide (lo≤n∧n≤hi)):=by
 unfold lX
 by_cases h1:lo≤n <;> simp [h1]
theorem Ke (g r:Int):Bs g r=some (decide ((1≤g∧g≤60)∧0≤r∧r≤2)):=by
 unfold Bs
 simp only [Al,Option.bind_some]
 by_cases h1:1≤g∧g≤60
 ·simp [h1]
 ·simp only [h1,decide_false,false_and];rfl
theorem Tu {n m:ByteArray} {a b:Bool} (hn:fI n=some a) (hm:fI m=some b) (g r:Int):nT n m g r=some (if a&&b then (if (1≤g∧g≤60)∧0≤r∧r≤2 then 0 else 1) else 2):=by
 unfold nT
 rw [hn,hm]
 cases a
 ·rfl
 ·cases b
  ·rfl
  ·by_cases h1:g<1
   ·have:¬ ((1≤g∧g≤60)∧0≤r∧r≤2):=by omega
    simp [h1,this]
   ·by_cases h2:g>60
    ·have:¬ ((1≤g∧g≤60)∧0≤r∧r≤2):=by omega
     simp [h1,h2,this]
    ·by_cases h3:r<0
     ·have:¬ ((1≤g∧g≤60)∧0≤r∧r≤2):=by omega
      simp [h1,h2,h3,this]
     ·by_cases h4:r>2
      ·have:¬ ((1≤g∧g≤60)∧0≤r∧r≤2):=by omega
       simp [h1,h2,h3,h4,this]
      ·have:((1≤g∧g≤60)∧0≤r∧r≤2):=by omega
       simp [h1,h2,h3,h4,this]
theorem kR (l:List aF) (hl:l.length≤9223372036854775806):mA l=some (!(l.any fun x=>!decide (vR x))):=by
 have key:aL (uO l) 0=some (if (l.any fun x=>!decide (vR x)) then .inl () else .inr ()):=by
  refine fH l (uO l) (fun k=>(k:Int)) _ _ _ rfl (fun k x hx=>?_) ?_
  ·have hk:=(List.getElem?_eq_some_iff.1 hx).1
   unfold uO
   have h1:decide ((k:Int)<(l.length:Int))=true:=by simp;omega
   simp only [h1,if_true,bC hx,Option.bind_some,oJ]
   rw [aP (a:=(k:Int)) (by omega) (by omega)]
   rfl
  ·simp [uO]
 unfold mA
 rw [key]
 cases (l.any fun x=>!decide (vR x)) <;> rfl
theorem Av (l:List aF) (hl:l.length≤9223372036854775806):dV l=some (!(l.any fun x=>!decide (vR x))):=by
 have key:aL (gM l) 0=some (if (l.any fun x=>!decide (vR x)) then .inl () else .inr ()):=by
  refine fH l (gM l) (fun k=>(k:Int)) _ _ _ rfl (fun k x hx=>?_) ?_
  ·have hk:=(List.getElem?_eq_some_iff.1 hx).1
   unfold gM
   have h1:decide ((k:Int)<(l.length:Int))=true:=by simp;omega
   simp only [h1,if_true,bC hx,Option.bind_some,Iy]
   rw [aP (a:=(k:Int)) (by omega) (by omega)]
   rfl
  ·simp [gM]
 unfold dV
 rw [key]
 cases (l.any fun x=>!decide (vR x)) <;> rfl
def outs (r:aF) (l:List aF):Bool:=l.any fun x=>!decide (Bm x r)
theorem BW (r:aF×Bool) (l:List aF) (hl:l.length≤9223372036854775806):aL (kL r l) 0=some (if outs r.1 l then .inl () else .inr ()):=by
 refine fH l (kL r l) (fun k=>(k:Int)) _ _ _ rfl (fun k x hx=>?_) ?_
 ·have hk:=(List.getElem?_eq_some_iff.1 hx).1
  unfold kL
  have h1:decide ((k:Int)<(l.length:Int))=true:=by simp;omega
  simp only [h1,if_true,bC hx,Option.bind_some,Pv]
  rw [aP (a:=(k:Int)) (by omega) (by omega)]
  rfl
 ·simp [kL]
theorem Qg (s:bU) (l:List aF) (hl:l.length≤9223372036854775806):mX s l=some (!(outs ⟨0,0,s.cQ,s.bJ⟩ l)):=by
 have key:aL (gO s l) 0=some (if outs ⟨0,0,s.cQ,s.bJ⟩ l then .inl () else .inr ()):=by
  refine fH l (gO s l) (fun k=>(k:Int)) _ _ _ rfl (fun k x hx=>?_) ?_
  ·have hk:=(List.getElem?_eq_some_iff.1 hx).1
   unfold gO
   have h1:decide ((k:Int)<(l.length:Int))=true:=by simp;omega
   simp only [h1,if_true,bC hx,Option.bind_some,Xn]
   rw [aP (a:=(k:Int)) (by omega) (by omega)]
   rfl
  ·simp [gO]
 unfold mX
 rw [key]
 cases outs ⟨0,0,s.cQ,s.bJ⟩ l <;> rfl
theorem BX (s:bU) (r:aF×Bool) (h1:s.aY.length≤9223372036854775806) (h2:s.Used.length≤9223372036854775806):aL (kM s r) 0=some (if outs r.1 s.aY || outs r.1 s.Used then .inl () else .inr ()):=by
 have:=fH [s.aY,s.Used] (kM s r) (fun k=>(k:Int)) (fun l=>outs r.1 l) (.inr ()) (.inl ()) rfl (fun k x hx=>?_) ?_
 ·refine this.trans ?_;simp
 ·have hk:=(List.getElem?_eq_some_iff.1 hx).1
  unfold kM
  have hm:x=s.aY∨x=s.Used:=by have:=List.mem_of_getElem? hx;simpa using this
  have hl:x.length≤9223372036854775806:=by rcases hm with rfl | rfl <;> assumption
  have h3:decide ((k:Int)<(([s.aY,s.Used]:List (List aF)).length:Int))=true:=by rw [decide_eq_true_eq];exact Int.ofNat_lt.2 hk
  simp only [h3,if_true,bC hx,Option.bind_some,BW r x hl]
  have hk':k<2:=hk
  rw [aP (a:=(k:Int)) (by omega) (by omega)]
  cases outs r.1 x <;> simp
 ·simp [kM]
theorem Pb (s:bE):∃ b,iG s=some b∧gV s=some b:=by
 refine ⟨decide ((0≤s.Gap∧s.Gap≤14400)∧(0≤s.aR∧s.aR≤14400)), ?_, ?_⟩
 ·unfold iG
  simp only [Al,Option.bind_some]
  by_cases h:0≤s.Gap∧s.Gap≤14400
  ·simp [h]
  ·simp only [h,decide_false,false_and];rfl
 ·unfold gV
  by_cases h1:s.Gap ≥ 0
  ·by_cases h2:s.Gap≤14400
   ·by_cases h3:s.aR ≥ 0
    ·simp [h1,h2,h3]
    ·simp [h1,h2,h3]
   ·simp [h1,h2]
  ·simp [h1]
def cnt (l:List Bool):Nat:=l.countP (·==true)
theorem Wg {l:List Bool} {k:Nat} (h:l[k]?=some false):cnt (l.set k true)=cnt l+1:=by
 unfold cnt
 have hk:=(List.getElem?_eq_some_iff.1 h).1
 have hv:=(List.getElem?_eq_some_iff.1 h).2
 rw [List.countP_set hk]
 simp [hv]
theorem FA {l:List Bool} (h:cnt l=l.length):∀ x ∈ l,x=true:=by
 have:=List.countP_eq_length.1 h
 intro x hx;simpa using this x hx
theorem Lk (a b:aF):uR a b=nN a b:=rfl
theorem Vw (a b:aF):∃ t,nN a b=some t:=by
 unfold nN
 split
 ·split
  ·exact ⟨_,rfl⟩
  ·split <;> exact ⟨_,rfl⟩
 ·split <;> exact ⟨_,rfl⟩
theorem Yc {l:List aF} (hl:l.length≤1000) {x:Int} {r:aF} (hx:idx l x=some r) {i:Nat} {b0:Bool×Unit} :
  ∀ (m k:Nat) (seen:List Bool) (w0 l0 ext:List Int) (s:Int×List Bool×List Int),k+m=l.length→seen.length=l.length→l0[i]?=some x→s.1=(i:Int)→w0.length+ext.length≤1000000-m→l0.length+ext.length≤1000000-m →
    ∃ seen' ext',aL (fA l x) ((k:Int),seen,w0++ext)=some (seen',w0++ext')∧aL (cY l s) ((k:Int),seen,l0++ext)=some (seen',l0++ext')∧seen'.length=l.length∧cnt seen'+ext.length=cnt seen+ext'.length∧(∀ y ∈ ext',y ∈ ext∨(0≤y∧y<l.length)):=by
 intro m
 induction m with
 | zero =>
   intro k seen w0 l0 ext s hk hs hi hsi h1 h2
   obtain rfl:k=l.length:=by omega
   refine ⟨seen,ext,eK ?_,eK ?_,hs,rfl,fun y hy=>.inl hy⟩
   ·simp [fA]
   ·simp [cY]
 | succ m ih =>
   intro k seen w0 l0 ext s hk hs hi hsi h1 h2
   have hkl:k<l.length:=by omega
   have hy:l[k]?=some l[k]:=by simp
   have hsn:seen[k]?=some seen[k]:=by simp [hs,hkl]
   have hle:i<l0.length:=(List.getElem?_eq_some_iff.1 hi).1
   have hi':∀ e:List Int,(l0++e)[i]?=some x:=fun e=>by rw [List.getElem?_append_left hle];exact hi
   have hd:decide ((k:Int)<(l.length:Int))=true:=by simp;omega
   have e1:aJ (k:Int) 1=((k+1:Nat):Int):=by rw [aP (by omega) (by omega)];rfl
   obtain ⟨t,ht⟩:=Vw r l[k]
   by_cases hb:seen[k]=true
   ·obtain ⟨seen',ext',p1,p2,p3⟩:=ih (k+1) seen w0 l0 ext s (by omega) hs hi hsi (by omega) (by omega)
    refine ⟨seen',ext', ?_, ?_,p3⟩
    ·rw [iD (s':=(((k+1:Nat):Int),seen,w0++ext))]
     ·exact p1
     ·unfold fA lW
      simp only [hd,if_true,bC hsn,hb,Option.bind_some,Bool.false_eq_true,if_false,e1]
    ·rw [iD (s':=(((k+1:Nat):Int),seen,l0++ext))]
     ·exact p2
     ·unfold cY fQ
      simp only [hd,if_true,bC hsn,hb,Option.bind_some,Bool.false_eq_true,if_false,e1]
   ·have hb':seen[k]=false:=by simpa using hb
    cases t with
    | false =>
      obtain ⟨seen',ext',p1,p2,p3⟩:=ih (k+1) seen w0 l0 ext s (by omega) hs hi hsi (by omega) (by omega)
      refine ⟨seen',ext', ?_, ?_,p3⟩
      ·rw [iD (s':=(((k+1:Nat):Int),seen,w0++ext))]
       ·exact p1
       ·unfold fA lW
        simp only [hd,if_true,bC hsn,bC hy,hx,ht,hb',Option.bind_some,Bool.false_eq_true,if_false,e1]
      ·rw [iD (s':=(((k+1:Nat):Int),seen,l0++ext))]
       ·exact p2
       ·unfold cY fQ
        simp only [hd,if_true,bC hsn,bC hy,hsi,bC (hi' ext),hx,Lk,ht,hb',Option.bind_some,Bool.false_eq_true,if_false,e1]
    | true =>
      have hset:(seen.set k true).length=l.length:=by rw [List.length_set];exact hs
      obtain ⟨seen',ext',p1,p2,p3,p4,p5⟩:=ih (k+1) (seen.set k true) w0 l0 (ext++[(k:Int)]) s (by omega) hset hi hsi (by simp;omega) (by simp;omega)
      have a1:app (w0++ext) [(k:Int)]=some (w0++(ext++[(k:Int)])):=by rw [pE (by unfold LIM;simp;omega),List.append_assoc]
      have a2:app (l0++ext) [(k:Int)]=some (l0++(ext++[(k:Int)])):=by rw [pE (by unfold LIM;simp;omega),List.append_assoc]
      refine ⟨seen',ext', ?_, ?_,p3, ?_,fun y hy'=>?_⟩
      ·rw [iD (s':=(((k+1:Nat):Int),seen.set k true,w0++(ext++[(k:Int)])))]
       ·exact p1
       ·unfold fA lW
        simp only [hd,if_true,bC hsn,bC hy,hx,ht,hb',Option.bind_some,Bool.false_eq_true,if_false,e1,a1,Int.toNat_natCast]
      ·rw [iD (s':=(((k+1:Nat):Int),seen.set k true,l0++(ext++[(k:Int)])))]
       ·exact p2
       ·unfold cY fQ
        simp only [hd,if_true,bC hsn,bC hy,hsi,bC (hi' ext),hx,Lk,ht,hb',Option.bind_some,Bool.false_eq_true,if_false,e1,a2,Int.toNat_natCast]
      ·rw [Wg (by rw [hsn,hb'])] at p4
       simp at p4;omega
      ·rcases p5 y hy' with h | h
       ·rcases List.mem_append.1 h with h | h
        ·exact .inl h
        ·right;rw [List.mem_singleton.1 h];omega
       ·exact .inr h
theorem Yd {l:List aF} (hl:l.length≤1000):∀ (m i:Nat) (seen:List Bool) (q:List Int),i+m=l.length→i≤q.length→seen.length=l.length→cnt seen=q.length→(∀ y ∈ q,0≤y∧y<l.length) →
  ∃ seen' q',aL (fY l) (seen,q.drop i)=some seen'∧aL (dP l) ((i:Int),seen,q)=some q'∧seen'.length=l.length∧cnt seen'=q'.length:=by
 intro m
 induction m with
 | zero =>
   intro i seen q him hiq hs hc hq
   have hcl:cnt seen≤seen.length:=List.countP_le_length
   obtain rfl:i=q.length:=by omega
   refine ⟨seen,q,eK ?_,eK ?_,hs,hc⟩
   ·simp [fY]
   ·simp [dP]
 | succ m ih =>
   intro i seen q him hiq hs hc hq
   have hcl:cnt seen≤seen.length:=List.countP_le_length
   by_cases hlt:i<q.length
   ·have hx:q[i]?=some q[i]:=by simp
    have hxm:=hq q[i] (List.getElem_mem hlt)
    have ed:q.drop i=q[i]::q.drop (i+1):=List.drop_eq_getElem_cons hlt
    have hr:idx l q[i]=some (l[q[i].toNat]'(by omega)):=by
     unfold idx;rw [if_pos hxm.1];simp [show q[i].toNat<l.length by omega]
    obtain ⟨seen',ext',p1,p2,p3,p4,p5⟩:=Yc hl hr (b0:=(true,())) l.length 0 seen (q.drop (i+1)) q [] ((i:Int),seen,q) (by omega) hs hx rfl (by simp;omega) (by simp;omega)
    simp only [List.append_nil,List.length_nil,Nat.add_zero] at p1 p2 p4
    obtain ⟨seen2,q2,r1,r2,r3⟩:=ih (i+1) seen' (q++ext') (by omega) (by simp;omega) p3 (by simp;omega) (fun y hy=>by
     rcases List.mem_append.1 hy with h | h
     ·exact hq y h
     ·rcases p5 y h with h | h
      ·exact absurd h (by simp)
      ·exact h)
    refine ⟨seen2,q2, ?_, ?_,r3⟩
    ·rw [iD (s':=(seen',(q++ext').drop (i+1)))]
     ·exact r1
     ·unfold fY
      have e0:idx (q.drop i) 0=some q[i]:=by rw [ed];rfl
      have e2:List.drop 1 (q.drop i)=q.drop (i+1):=by rw [List.drop_drop]
      have h1:decide (((q.drop i).length:Int)>0)=true:=by rw [ed];simp;omega
      have h2:decide (1≤(q.drop i).length)=true:=by rw [decide_eq_true_eq,List.length_drop];omega
      simp only [h1,if_true,e0,Option.bind_some,h2,e2]
      have p1':aL (fA l q[i]) (0,seen,List.drop (i+1) q)=some (seen',List.drop (i+1) q++ext'):=p1
      rw [p1',List.drop_append_of_le_length (by omega)]
      rfl
    ·rw [iD (s':=(((i+1:Nat):Int),seen',q++ext'))]
     ·exact r2
     ·unfold dP
      have h1:decide ((i:Int)<(q.length:Int))=true:=by simp;omega
      have p2':aL (cY l ((i:Int),seen,q)) (0,seen,q)=some (seen',q++ext'):=p2
      simp only [h1,if_true,p2',Option.bind_some]
      rw [aP (by omega) (by omega)]
      rfl
   ·obtain rfl:i=q.length:=by omega
    refine ⟨seen,q,eK ?_,eK ?_,hs,hc⟩
    ·simp [fY]
    ·simp [dP]
theorem AR (l:List Bool) (hl:l.length≤1000):aL (oT l) 0=some (if l.any (fun x=>!x) then .inl () else .inr ()):=by
 refine fH l (oT l) (fun k=>(k:Int)) _ _ _ rfl (fun k x hx=>?_) ?_
 ·have hk:=(List.getElem?_eq_some_iff.1 hx).1
  unfold oT
  have h1:decide ((k:Int)<(l.length:Int))=true:=by simp;omega
  simp only [h1,if_true,bC hx,Option.bind_some]
  rw [aP (a:=(k:Int)) (by omega) (by omega)]
  rfl
 ·simp [oT]
theorem Fy {l:List aF} (hl:l.length≤1000) (h0:0<l.length):∃ b,lM l=some b∧oB l=some b:=by
 have hmk:mk (l.length:Int) false=some (List.replicate l.length false):=by
  unfold mk;rw [if_pos (by unfold LIM;omega)];simp
 have hf:(List.replicate l.length false)[0]?=some false:=by simp [h0]
 have hc:cnt ((List.replicate l.length false).set 0 true)=1:=by
  rw [Wg hf];unfold cnt;simp [List.countP_replicate]
 obtain ⟨seen',q',p1,p2,p3,p4⟩:=Yd hl l.length 0 ((List.replicate l.length false).set 0 true) [0] (by omega) (by simp) (by simp) (by rw [hc];rfl) (by simp;omega)
 unfold lM oB
 have i0:idx (List.replicate l.length false) 0=some false:=bC (k:=0) hf
 have p1':aL (fY l) ((List.replicate l.length false).set (Int.toNat 0) true,[0])=some seen':=p1
 have p2':aL (dP l) (0,(List.replicate l.length false).set (Int.toNat 0) true,[0])=some q':=p2
 simp only [hmk,Option.bind_some,i0,p1',p2',AR seen' (by omega)]
 refine ⟨_, ?_,rfl⟩
 by_cases ha:seen'.any (fun x=>!x)=true
 ·have:¬ (q'.length:Int)=(l.length:Int):=by
   intro h
   obtain ⟨x,hx,hn⟩:=List.any_eq_true.1 ha
   have:=FA (l:=seen') (by omega) x hx
   subst this;simp at hn
  simp [ha,this]
 ·have:(q'.length:Int)=(l.length:Int):=by
   rw [← p4,← p3]
   congr 1
   unfold cnt
   rw [List.countP_eq_length]
   intro x hx
   by_cases h:x=true
   ·simp [h]
   ·exact absurd (List.any_eq_true.2 ⟨x,hx,by simpa using h⟩) ha
  rw [this]
  simp only [ha,Bool.false_eq_true,if_false,beq_self_eq_true,Option.bind_some]
def sH (h x:aF):Bool:=if h.X>x.X then (if h.Y>x.Y then (if aJ h.X h.W<aJ x.X x.W then decide (aJ h.Y h.H<aJ x.Y x.H) else false) else false) else false
theorem Tt (h:aF) (l:List aF) (hl:l.length≤1000):uN h l=some (l.any (sH h)):=by
 have key:aL (qO h l) 0=some (if l.any (sH h) then .inl () else .inr ()):=by
  refine fH l (qO h l) (fun k=>(k:Int)) _ _ _ rfl (fun k x hx=>?_) ?_
  ·have hk:=(List.getElem?_eq_some_iff.1 hx).1
   unfold qO
   have h1:decide ((k:Int)<(l.length:Int))=true:=by simp;omega
   simp only [h1,if_true,bC hx,Option.bind_some]
   rw [aP (a:=(k:Int)) (by omega) (by omega)]
   unfold sH
   by_cases q1:h.X>x.X
   ·by_cases q2:h.Y>x.Y
    ·by_cases q3:aJ h.X h.W<aJ x.X x.W
     ·by_cases q4:aJ h.Y h.H<aJ x.Y x.H <;> simp [q1,q2,q3,q4]
     ·simp [q1,q2,q3]
    ·simp [q1,q2]
   ·simp [q1]
  ·simp [qO]
 unfold uN
 rw [key]
 cases l.any (sH h) <;> rfl
theorem FD (h:aF) (l:List aF) (hl:l.length≤1000):tJ h l=some (l.any (sH h)):=by
 have key:aL (iR h l) 0=some (if l.any (sH h) then .inl () else .inr ()):=by
  refine fH l (iR h l) (fun k=>(k:Int)) _ _ _ rfl (fun k x hx=>?_) ?_
  ·have hk:=(List.getElem?_eq_some_iff.1 hx).1
   unfold iR
   have h1:decide ((k:Int)<(l.length:Int))=true:=by simp;omega
   simp only [h1,if_true,bC hx,Option.bind_some]
   rw [aP (a:=(k:Int)) (by omega) (by omega)]
   unfold sH
   by_cases q1:h.X>x.X
   ·by_cases q2:h.Y>x.Y
    ·by_cases q3:aJ h.X h.W<aJ x.X x.W
     ·by_cases q4:aJ h.Y h.H<aJ x.Y x.H <;> simp [q1,q2,q3,q4]
     ·simp [q1,q2,q3]
    ·simp [q1,q2]
   ·simp [q1]
  ·simp [iR]
 unfold tJ
 rw [key]
 cases l.any (sH h) <;> rfl
def wM (x0:aX) (l:List aF) (k:Nat):Bool:=match l[k]? with
 | some x=>!(x0.aD.any (sH x)) || (decide ((k:Int)<(x0.bQ.length:Int))&&((x.W==1) || (x.H==1)))
 | none=>false
theorem Kk (x0:aX) (l:List aF) (hl:l.length≤1000) (hr:x0.aD.length≤1000):aL (tA x0 l) 0=some (if (List.range l.length).any (wM x0 l) then .inl () else .inr ()):=by
 refine uH l.length (tA x0 l) (fun k=>(k:Int)) _ _ _ rfl (fun k hk=>?_) ?_
 ·have hx:l[k]?=some l[k]:=by simp
  unfold tA wM
  have h1:decide ((k:Int)<(l.length:Int))=true:=by simp;omega
  simp only [h1,if_true,bC hx,hx,Option.bind_some,Tt _ _ hr]
  rw [aP (a:=(k:Int)) (by omega) (by omega)]
  by_cases q1:(k:Int)<(x0.bQ.length:Int)
  ·cases q2:(l[k].W==1)
   ·cases q3:(l[k].H==1)
    ·cases x0.aD.any (sH l[k]) <;> simp [q1,q2,q3]
    ·cases x0.aD.any (sH l[k]) <;> simp [q1,q2,q3]
   ·cases x0.aD.any (sH l[k]) <;> simp [q1,q2]
  ·cases x0.aD.any (sH l[k]) <;> simp [q1]
 ·simp [tA]
theorem Vj (x0:aX) (l:List aF) (hl:l.length≤1000) (hr:x0.aD.length≤1000):aL (dY x0 l) 0=some (if (List.range l.length).any (wM x0 l) then .inl () else .inr ()):=by
 refine uH l.length (dY x0 l) (fun k=>(k:Int)) _ _ _ rfl (fun k hk=>?_) ?_
 ·have hx:l[k]?=some l[k]:=by simp
  unfold dY wM
  have h1:decide ((k:Int)<(l.length:Int))=true:=by simp;omega
  simp only [h1,if_true,bC hx,hx,Option.bind_some,FD _ _ hr]
  rw [aP (a:=(k:Int)) (by omega) (by omega)]
  by_cases q1:(k:Int)<(x0.bQ.length:Int)
  ·cases q2:(l[k].W==1)
   ·cases q3:(l[k].H==1)
    ·cases x0.aD.any (sH l[k]) <;> simp [q1,q2,q3]
    ·cases x0.aD.any (sH l[k]) <;> simp [q1,q2,q3]
   ·cases x0.aD.any (sH l[k]) <;> simp [q1,q2]
  ·cases x0.aD.any (sH l[k]) <;> simp [q1]
 ·simp [dY]
def yZ (p:aF→aF→Bool) (l:List aF) (k:Nat):Bool:=match l[k]? with
 | some x=>(l.take k).any (p x)
 | none=>false
def Eh (x y:aF):Bool:=yQ x y==0
def vY (x y:aF):Bool:=decide (ovR x y)
theorem Ov {l:List aF} {k:Nat} (h:k≤l.length):slc l 0 (k:Int)=some (l.take k):=by
 unfold slc;rw [if_pos (by omega)];simp
theorem in2 (x:aF) (l:List aF) (hl:l.length≤1000):aL (tB x l) 0=some (if l.any (Eh x) then .inl () else .inr ()):=by
 refine fH l (tB x l) (fun k=>(k:Int)) _ _ _ rfl (fun k y hy=>?_) ?_
 ·have hk:=(List.getElem?_eq_some_iff.1 hy).1
  unfold tB
  have h1:decide ((k:Int)<(l.length:Int))=true:=by simp;omega
  simp only [h1,if_true,bC hy,Option.bind_some,Kx]
  rw [aP (a:=(k:Int)) (by omega) (by omega)]
  rfl
 ·simp [tB]
theorem in3 (l:List aF) (hl:l.length≤1000):aL (tC l) 0=some (if (List.range l.length).any (yZ Eh l) then .inl () else .inr ()):=by
 refine uH l.length (tC l) (fun k=>(k:Int)) _ _ _ rfl (fun k hk=>?_) ?_
 ·have hx:l[k]?=some l[k]:=by simp
  unfold tC yZ
  have h1:decide ((k:Int)<(l.length:Int))=true:=by simp;omega
  simp only [h1,if_true,bC hx,hx,Option.bind_some,Ov (Nat.le_of_lt hk),in2 _ (l.take k) (by simp;omega)]
  rw [aP (a:=(k:Int)) (by omega) (by omega)]
  cases (l.take k).any (Eh l[k]) <;> simp
 ·simp [tC]
theorem LO (l:List aF) (hl:l.length≤1000):aL (eA l) 0=some (if (List.range l.length).any (yZ Eh l) then .inl () else .inr ()):=by
 have inner:∀ (k:Nat) (hk:k<l.length),aL (dZ l (k:Int)) 0=some (if (l.take k).any (Eh l[k]) then .inl () else .inr ()):=by
  intro k hk
  have hx:l[k]?=some l[k]:=by simp
  refine fH (l.take k) (dZ l (k:Int)) (fun k=>(k:Int)) _ _ _ rfl (fun j y hy=>?_) ?_
  ·have hj:=(List.getElem?_eq_some_iff.1 hy).1
   rw [List.length_take] at hj
   have hy':l[j]?=some y:=by rw [List.getElem?_take] at hy;simpa [show j<k by omega] using hy
   unfold dZ
   have h1:decide ((j:Int)<(k:Int))=true:=by simp;omega
   simp only [h1,if_true,bC hx,bC hy',Option.bind_some,AD]
   rw [aP (a:=(j:Int)) (by omega) (by omega)]
   rfl
  ·have:(l.take k).length=k:=by simp;omega
   simp [dZ,this]
 refine uH l.length (eA l) (fun k=>(k:Int)) _ _ _ rfl (fun k hk=>?_) ?_
 ·have hx:l[k]?=some l[k]:=by simp
  unfold eA yZ
  have h1:decide ((k:Int)<(l.length:Int))=true:=by simp;omega
  simp only [h1,if_true,hx,Option.bind_some,inner k hk]
  rw [aP (a:=(k:Int)) (by omega) (by omega)]
  cases (l.take k).any (Eh l[k]) <;> simp
 ·simp [eA]
theorem ov2 (x:aF) (l:List aF) (hl:l.length≤1000):aL (kJ x l) 0=some (if l.any (vY x) then .inl () else .inr ()):=by
 refine fH l (kJ x l) (fun k=>(k:Int)) _ _ _ rfl (fun k y hy=>?_) ?_
 ·have hk:=(List.getElem?_eq_some_iff.1 hy).1
  unfold kJ
  have h1:decide ((k:Int)<(l.length:Int))=true:=by simp;omega
  simp only [h1,if_true,bC hy,Option.bind_some,Ei]
  rw [aP (a:=(k:Int)) (by omega) (by omega)]
  rfl
 ·simp [kJ]
theorem ov3 (x0:aX) (hl:x0.aD.length≤1000):aL (kK x0) 0=some (if (List.range x0.aD.length).any (yZ vY x0.aD) then .inl () else .inr ()):=by
 refine uH x0.aD.length (kK x0) (fun k=>(k:Int)) _ _ _ rfl (fun k hk=>?_) ?_
 ·have hx:x0.aD[k]?=some x0.aD[k]:=by simp
  unfold kK yZ
  have h1:decide ((k:Int)<(x0.aD.length:Int))=true:=by simp;omega
  simp only [h1,if_true,bC hx,hx,Option.bind_some,Ov (Nat.le_of_lt hk),ov2 _ (x0.aD.take k) (by simp;omega)]
  rw [aP (a:=(k:Int)) (by omega) (by omega)]
  cases (x0.aD.take k).any (vY x0.aD[k]) <;> simp
 ·simp [kK]
theorem AG (x:aF) (l:List aF) (hl:l.length≤1000):sE x l=some (l.any (vY x)):=by
 have key:aL (hU x l) 0=some (if l.any (vY x) then .inl () else .inr ()):=by
  refine fH l (hU x l) (fun k=>(k:Int)) _ _ _ rfl (fun k y hy=>?_) ?_
  ·have hk:=(List.getElem?_eq_some_iff.1 hy).1
   unfold hU
   have h1:decide ((k:Int)<(l.length:Int))=true:=by simp;omega
   simp only [h1,if_true,bC hy,Option.bind_some,Ru]
   rw [aP (a:=(k:Int)) (by omega) (by omega)]
   rfl
  ·simp [hU]
 unfold sE
 rw [key]
 cases l.any (vY x) <;> rfl
theorem LP (x0:aX) (hl:x0.aD.length≤1000):aL (dW x0) 0=some (if (List.range x0.aD.length).any (yZ vY x0.aD) then .inl () else .inr ()):=by
 refine uH x0.aD.length (dW x0) (fun k=>(k:Int)) _ _ _ rfl (fun k hk=>?_) ?_
 ·have hx:x0.aD[k]?=some x0.aD[k]:=by simp
  unfold dW yZ
  have h1:decide ((k:Int)<(x0.aD.length:Int))=true:=by simp;omega
  simp only [h1,if_true,bC hx,hx,Option.bind_some,Ov (Nat.le_of_lt hk),AG _ (x0.aD.take k) (by simp;omega)]
  rw [aP (a:=(k:Int)) (by omega) (by omega)]
  rfl
 ·simp [dW]
def mQ (l:List aF) (a:Int):Int:=l.foldl (fun s r=>min s r.X) a
def mS (l:List aF) (a:Int):Int:=l.foldl (fun s r=>min s r.Y) a
theorem Jt (x0:aX) (hl:x0.aD.length≤1000) (a b:Int):aL (cX x0) (a,b,0)=some (mQ x0.aD a,mS x0.aD b):=by
 refine Ax x0.aD (cX x0) (fun k=>(mQ (x0.aD.take k) a,mS (x0.aD.take k) b,(k:Int))) _ (fun k r hr=>?_) ?_
 ·have hk:=(List.getElem?_eq_some_iff.1 hr).1
  unfold cX
  have h1:decide ((k:Int)<(x0.aD.length:Int))=true:=by simp;omega
  have e:x0.aD.take (k+1)=x0.aD.take k++[r]:=by rw [List.take_add_one,hr];rfl
  simp only [h1,if_true,bC hr,Option.bind_some,e,Jq]
  rw [aP (a:=(k:Int)) (by omega) (by omega)]
  unfold mQ mS
  rw [List.foldl_append,List.foldl_append]
  rfl
 ·simp [cX]
theorem Uq (x0:aX):pK x0.aD=cX x0:=by
 funext s
 unfold pK cX
 cases idx x0.aD s.2.2 <;> rfl
theorem Sv (x0:aX) (hl:x0.aD.length≤1000) {r:aF} (hr:x0.aD[0]?=some r):kQ x0.aD=some (mQ x0.aD r.X,mS x0.aD r.Y):=by
 unfold kQ
 have i0:idx x0.aD 0=some r:=bC (k:=0) hr
 have hk:=(List.getElem?_eq_some_iff.1 hr).1
 have h1:aL (cX x0) (r.X,r.Y,0)=aL (cX x0) (r.X,r.Y,1):=by
  refine iD ?_
  unfold cX
  have hd:decide ((0:Int)<(x0.aD.length:Int))=true:=by simp;omega
  simp only [hd,if_true,i0,Option.bind_some,Jq,Int.min_self]
  rfl
 rw [i0,Uq]
 simp only [Option.bind_some]
 rw [← h1,Jt x0 hl]
 rfl
end Go.SM
namespace Go.SM
open Go Go.VI Go.Cells
end Go.SM
namespace Go.SM
open Go Go.VI
def inB (a b:Int) (r:aF):Prop:=a≤r.X∧r.X+r.W≤a+1048576∧b≤r.Y∧r.Y+r.H≤b+1048576
structure VP (x:aX):Prop where
 n1:x.aD.length≤12
 n0:0<x.aD.length
 n2:x.bQ.length≤12
 n3:x.Forms.length≤12
 v1:∀ r ∈ x.aD,vR r∧inB 0 0 r
 v2:∀ r ∈ x.bQ,vR r∧inB 0 0 r
 v3:∀ r ∈ x.Forms,vR r∧inB 0 0 r
theorem Ig {l:List aF} (h:(l.any fun x=>!decide (vR x))=false):∀ r ∈ l,vR r:=by
 intro r hr
 have:=List.any_eq_false.1 h r hr
 simpa using this
theorem Jn {l:List aF} {g:aF→Int}:∀ {a:Int},l.foldl (fun s r=>min s (g r)) a≤a∧∀ r ∈ l,l.foldl (fun s r=>min s (g r)) a≤g r:=by
 induction l with
 | nil=>intro a;exact ⟨Int.le_refl _,fun r hr=>absurd hr (by simp)⟩
 | cons x l ih =>
   intro a
   obtain ⟨h1,h2⟩:=ih (a:=min a (g x))
   refine ⟨by simp only [List.foldl_cons];omega,fun r hr=>?_⟩
   simp only [List.foldl_cons]
   rcases List.mem_cons.1 hr with rfl | hr
   ·omega
   ·exact h2 r hr
theorem Gy {l:List aF} {g:aF→Int}:∀ {a:Int},l.foldl (fun s r=>min s (g r)) a=a∨∃ r ∈ l,l.foldl (fun s r=>min s (g r)) a=g r:=by
 induction l with
 | nil=>intro a;exact .inl rfl
 | cons x l ih =>
   intro a
   simp only [List.foldl_cons]
   rcases ih (a:=min a (g x)) with h | ⟨r,hr,h⟩
   ·rw [h]
    by_cases hx:a≤g x
    ·left;omega
    ·right;exact ⟨x,by simp,by omega⟩
   ·exact .inr ⟨r,by simp [hr],h⟩
theorem KZ {x:aX} {r0:aF} (k1:x.aD.length≤12) (k0:0<x.aD.length) (k2:x.bQ.length≤12) (k3:x.Forms.length≤12) (v1:(x.aD.any fun x=>!decide (vR x))=false) (v2:(x.bQ.any fun x=>!decide (vR x))=false) (v3:(x.Forms.any fun x=>!decide (vR x))=false)
  (v4:(List.range (x.bQ++x.Forms).length).any (wM x (x.bQ++x.Forms))=false) (hr:x.aD[0]?=some r0) (m1:mQ x.aD r0.X=0) (m2:mS x.aD r0.Y=0):VP x:=by
 have b1:∀ r ∈ x.aD,inB 0 0 r:=fun r hr=>by
  have q:=Ig v1 r hr
  have h1:=(Jn (l:=x.aD) (g:=fun r=>r.X) (a:=r0.X)).2 r hr
  have h2:=(Jn (l:=x.aD) (g:=fun r=>r.Y) (a:=r0.Y)).2 r hr
  have e1:x.aD.foldl (fun s r=>min s r.X) r0.X=0:=m1
  have e2:x.aD.foldl (fun s r=>min s r.Y) r0.Y=0:=m2
  rw [e1] at h1;rw [e2] at h2
  unfold vR at q;unfold inB;omega
 have b4 : ∀ c ∈ x.bQ++x.Forms,vR c→inB 0 0 c:=fun c hc hv=>by
  obtain ⟨k,hk⟩:=List.mem_iff_getElem?.1 hc
  have hkl:=(List.getElem?_eq_some_iff.1 hk).1
  have h:=List.any_eq_false.1 v4 k (List.mem_range.2 hkl)
  unfold wM at h
  rw [hk] at h
  simp only [Bool.or_eq_true,not_or] at h
  have h':x.aD.any (sH c)=true:=by simpa using h.1
  obtain ⟨r,hr,hd⟩:=List.any_eq_true.1 h'
  have q:=Ig v1 r hr
  have q2:=b1 r hr
  unfold sH at hd
  unfold vR at q hv
  rw [aP (by omega) (by omega),aP (by omega) (by omega),aP (by omega) (by omega),aP (by omega) (by omega)] at hd
  unfold inB at q2 ⊢
  by_cases t1:c.X>r.X
  ·by_cases t2:c.Y>r.Y
   ·by_cases t3:c.X+c.W<r.X+r.W
    ·simp only [t1,t2,t3,if_true,decide_eq_true_eq] at hd
     omega
    ·simp [t1,t2,t3] at hd
   ·simp [t1,t2] at hd
  ·simp [t1] at hd
 exact ⟨k1,k0,k2,k3,fun r hr=>⟨Ig v1 r hr,b1 r hr⟩,fun r hr=>⟨Ig v2 r hr,b4 r (List.mem_append.2 (.inl hr)) (Ig v2 r hr)⟩,fun r hr=>⟨Ig v3 r hr,b4 r (List.mem_append.2 (.inr hr)) (Ig v3 r hr)⟩⟩
theorem yP (x:aX):∃ b,bD x=some b∧lN x=some b∧(b=0→VP x):=by
 obtain ⟨a,ha,ha'⟩:=Au x.Name
 obtain ⟨b,hb,hb'⟩:=Au x.bA
 unfold bD lN
 rw [ha,hb,Tu ha' hb']
 cases a with
 | false=>exact ⟨2,rfl,rfl,fun h=>absurd h (by decide)⟩
 | true =>
 cases b with
 | false=>exact ⟨2,rfl,rfl,fun h=>absurd h (by decide)⟩
 | true =>
 simp only [Option.bind_some,Ke,Bool.and_self,if_true,Bool.not_true,Bool.false_eq_true,if_false]
 by_cases h1:(1≤x.dO∧x.dO≤60)∧0≤x.bW∧x.bW≤2
 ·simp only [h1,and_self,decide_true,if_true,Option.bind_some,Bool.not_true,Bool.false_eq_true,if_false,bne_self_eq_false]
  by_cases l1:(x.aD.length:Int)>12
  ·exact ⟨4,by simp [l1],by simp [l1],fun h=>absurd h (by decide)⟩
  by_cases l2:(x.bQ.length:Int)>12
  ·exact ⟨4,by simp [l2],by simp [l2],fun h=>absurd h (by decide)⟩
  by_cases l3:(x.Forms.length:Int)>12
  ·exact ⟨4,by simp [l3],by simp [l3],fun h=>absurd h (by decide)⟩
  have k1:x.aD.length≤12:=by omega
  have k2:x.bQ.length≤12:=by omega
  have k3:x.Forms.length≤12:=by omega
  simp only [l1,l2,l3,decide_false,Bool.false_eq_true,if_false,Option.bind_some]
  by_cases h0:(x.aD.length:Int)=0
  ·exact ⟨1,by simp [h0],by simp [h0],fun h=>absurd h (by decide)⟩
  have h0':((x.aD.length:Int)==0)=false:=by rw [beq_eq_false_iff_ne];exact h0
  simp only [h0',Bool.false_eq_true,if_false,kR x.aD (by omega),kR x.bQ (by omega),kR x.Forms (by omega),Av x.aD (by omega),Av x.bQ (by omega),Av x.Forms (by omega),Option.bind_some]
  cases v1:(x.aD.any fun x=>!decide (vR x)) with
  | true=>exact ⟨1,rfl,rfl,fun h=>absurd h (by decide)⟩
  | false =>
  cases v2:(x.bQ.any fun x=>!decide (vR x)) with
  | true=>exact ⟨1,rfl,rfl,fun h=>absurd h (by decide)⟩
  | false =>
  cases v3:(x.Forms.any fun x=>!decide (vR x)) with
  | true=>exact ⟨1,rfl,rfl,fun h=>absurd h (by decide)⟩
  | false =>
  have hr:x.aD[0]?=some (x.aD[0]'(by omega)):=by simp [show 0<x.aD.length by omega]
  have i0:idx x.aD 0=some (x.aD[0]'(by omega)):=bC (k:=0) hr
  obtain ⟨cn,c1,c2⟩:=Fy (l:=x.aD) (by omega) (by omega)
  have ap1:app [] x.bQ=some x.bQ:=by rw [pE (by unfold LIM;simp;omega)];rfl
  have ap2:app x.bQ x.Forms=some (x.bQ++x.Forms):=pE (by unfold LIM;omega)
  have k4:(x.bQ++x.Forms).length≤1000:=by simp;omega
  simp only [Bool.not_false,Bool.not_true,if_true,Bool.false_eq_true,if_false,Option.bind_some,i0,Jt x (by omega),Sv x (by omega) hr,ov3 x (by omega),LP x (by omega),c1,c2]
  generalize x.aD[0]'(by omega)=r0 at hr i0 ⊢
  by_cases m1:mQ x.aD r0.X=0
  ·by_cases m2:mS x.aD r0.Y=0
   ·simp only [m1,m2,bne_self_eq_false,Bool.false_eq_true,if_false,Option.bind_some]
    cases (List.range x.aD.length).any (yZ vY x.aD) with
    | true=>exact ⟨7,rfl,rfl,fun h=>absurd h (by decide)⟩
    | false =>
    cases cn with
    | false=>exact ⟨6,rfl,rfl,fun h=>absurd h (by decide)⟩
    | true =>
    simp only [Bool.not_true,Bool.false_eq_true,if_false,Option.bind_some]
    unfold yX
    simp only [ap1,ap2,Option.bind_some,Kk x _ k4 (show x.aD.length≤1000 by omega),Vj x _ k4 (show x.aD.length≤1000 by omega),in3 _ k4,LO _ k4]
    cases v4:(List.range (x.bQ++x.Forms).length).any (wM x (x.bQ++x.Forms)) with
    | true=>exact ⟨13,rfl,rfl,fun h=>absurd h (by decide)⟩
    | false =>
    cases (List.range (x.bQ++x.Forms).length).any (yZ Eh (x.bQ++x.Forms)) with
    | true=>exact ⟨7,rfl,rfl,fun h=>absurd h (by decide)⟩
    | false=>exact ⟨0,rfl,rfl,fun _=>KZ k1 (by omega) k2 k3 v1 v2 v3 v4 hr m1 m2⟩
   ·have m2':(mS x.aD r0.Y != 0)=true:=by rw [bne_iff_ne];exact m2
    simp only [m1,m2',bne_self_eq_false,Bool.false_eq_true,if_false,Option.bind_some,if_true]
    exact ⟨1,rfl,rfl,fun h=>absurd h (by decide)⟩
  ·have m1':(mQ x.aD r0.X != 0)=true:=by rw [bne_iff_ne];exact m1
   simp only [m1',Option.bind_some,if_true]
   exact ⟨1,rfl,rfl,fun h=>absurd h (by decide)⟩
 ·exact ⟨1,by simp only [h1,decide_false];rfl,by simp only [h1,if_false];rfl,fun h=>absurd h (by decide)⟩
theorem Js {α β:Type} (l:List α) (f:α→β) (body:Int×List β→Option ((Int×List β) ⊕ List β)) (hl:l.length≤1000) (step:∀ (k:Nat) x acc,l[k]?=some x→body ((k:Int),acc)=(app acc [f x]).bind fun l'=>some (.inl (((k+1:Nat):Int),l'))) (fin:∀ acc,body ((l.length:Int),acc)=some (.inr acc)) :
  aL body (0,[])=some (l.map f):=by
 refine Ax l body (fun k=>((k:Int),(l.take k).map f)) _ (fun k x hx=>?_) ?_
 ·have hk:=(List.getElem?_eq_some_iff.1 hx).1
  rw [step k x _ hx,pE (by unfold LIM;simp;omega)]
  simp only [Option.bind_some]
  rw [List.take_add_one,hx]
  simp
 ·rw [fin,List.take_length]
def qR (r:aF):aF:=⟨-(r.Y+r.H),r.X,r.H,r.W⟩
theorem Pt {r:aF} (h:vR r):vR (qR r):=by unfold vR at h ⊢;simp only [qR];omega
theorem LM {a b:Int} {r:aF} (h:inB a b r):inB (-(b+1048576)) a (qR r):=by unfold inB at h ⊢;simp only [qR];omega
def Good (a b:Int) (l:List aF):Prop:=l.length≤12∧∀ r ∈ l,vR r∧inB a b r
theorem Good.q {a b:Int} {l:List aF} (h:Good a b l):Good (-(b+1048576)) a (l.map qR):=by
 refine ⟨by rw [List.length_map];exact h.1,fun r hr=>?_⟩
 obtain ⟨x,hx,rfl⟩:=List.mem_map.1 hr
 exact ⟨Pt (h.2 x hx).1,LM (h.2 x hx).2⟩
theorem KO {r:aF} (h:vR r):wQ r=some (qR r):=by
 unfold vR at h
 unfold wQ qR
 rw [Hb (by omega) (by omega),aU (by omega) (by omega)]
 congr 2
 omega
theorem Oc {a b:Int} {l:List aF} (h:Good a b l):rY l=some (l.map qR):=by
 unfold rY
 rw [Js l qR (tP l) (by have:=h.1;omega) (fun k x acc hx=>?_) (fun acc=>?_)]
 ·rfl
 ·have hk:=(List.getElem?_eq_some_iff.1 hx).1
  have:=h.1
  unfold tP
  have h1:decide ((k:Int)<(l.length:Int))=true:=by simp;omega
  simp only [h1,if_true,bC hx,Option.bind_some,KO (h.2 x (List.mem_of_getElem? hx)).1]
  rw [aP (a:=(k:Int)) (by omega) (by omega)]
  rfl
 ·simp [tP]
theorem Gs {a b:Int} {l:List aF} (h:Good a b l):iT l=some (l.map qR):=by
 unfold iT
 rw [Js l qR (jL l) (by have:=h.1;omega) (fun k x acc hx=>?_) (fun acc=>?_)]
 ·rfl
 ·have hk:=(List.getElem?_eq_some_iff.1 hx).1
  have:=h.1
  have hv:=(h.2 x (List.mem_of_getElem? hx)).1
  unfold vR at hv
  unfold jL
  have h1:decide ((k:Int)<(l.length:Int))=true:=by simp;omega
  simp only [h1,if_true,bC hx,Option.bind_some]
  rw [aP (a:=(k:Int)) (by omega) (by omega),aP (by omega) (by omega),Hb (by omega) (by omega)]
  rfl
 ·simp [jL]
theorem IK (f:Flat) (h:f.nW=[]):aL (eF f) (0,[])=some []:=by
 refine eK ?_
 unfold eF
 rw [h];rfl
theorem Vg {a b:Int} {R C F:List aF} (h1:Good a b R) (h2:Good a b C) (h3:Good a b F):Ah ⟨R,C,F,[]⟩=some ⟨R.map qR,C.map qR,F.map qR,[]⟩:=by
 unfold Ah fF
 rw [IK _ rfl,Oc h1,Oc h2,Oc h3]
 rfl
def tq:Nat→List aF→List aF
 | 0,l=>l
 | n+1,l=>(tq n l).map qR
def ta:Nat→Int×Int→Int×Int
 | 0,p=>p
 | n+1,p=>(-((ta n p).2+1048576),(ta n p).1)
theorem Good.tq {l:List aF} (h:Good 0 0 l):∀ n,Good (ta n (0,0)).1 (ta n (0,0)).2 (SM.tq n l)
 | 0=>h
 | n+1=>(Good.tq h n).q
theorem Zy {R C F:List aF} (h1:Good 0 0 R) (h2:Good 0 0 C) (h3:Good 0 0 F) (n:Nat) (hn:n≤3):aL (rM (n:Int)) (0,R,C,F,[])=some (tq n R,tq n C,tq n F,[]):=by
 have:=Ax (List.range n) (rM (n:Int)) (fun k=>((k:Int),tq k R,tq k C,tq k F,[])) (tq n R,tq n C,tq n F,[]) (fun k x hx=>?_) ?_
 ·exact this
 ·have hk:=(List.getElem?_eq_some_iff.1 hx).1
  rw [List.length_range] at hk
  unfold rM
  have h1':decide ((k:Int)<(n:Int))=true:=by simp;omega
  simp only [h1',if_true,Vg (h1.tq k) (h2.tq k) (h3.tq k),Option.bind_some]
  rw [aP (a:=(k:Int)) (by omega) (by omega)]
  rfl
 ·simp [rM]
theorem Vm {R C F:List aF} (h1:Good 0 0 R) (h2:Good 0 0 C) (h3:Good 0 0 F) (n:Nat) (hn:n≤3):aL (gN (n:Int)) (0,R,C,F)=some (tq n R,tq n C,tq n F):=by
 have:=Ax (List.range n) (gN (n:Int)) (fun k=>((k:Int),tq k R,tq k C,tq k F)) (tq n R,tq n C,tq n F) (fun k x hx=>?_) ?_
 ·exact this
 ·have hk:=(List.getElem?_eq_some_iff.1 hx).1
  rw [List.length_range] at hk
  unfold gN
  have h1':decide ((k:Int)<(n:Int))=true:=by simp;omega
  simp only [h1',if_true,Gs (h1.tq k),Gs (h2.tq k),Gs (h3.tq k),Option.bind_some]
  rw [aP (a:=(k:Int)) (by omega) (by omega)]
  rfl
 ·simp [gN]
theorem Kw (n:Nat) (l:List aF):(tq n l).length=l.length:=by
 induction n with
 | zero=>rfl
 | succ n ih=>rw [tq,List.length_map,ih]
def mvR (x y:Int) (r:aF):aF:=⟨aJ r.X x,aJ r.Y y,r.W,r.H⟩
theorem Hd (a b:Int) (ha : -4194304≤a∧a≤4194304) (hb : -4194304≤b∧b≤4194304):aJ a (pR b)=aH a b:=by
 rw [Hb (by omega) (by omega),aP (by omega) (by omega),aU (by omega) (by omega)];omega
theorem Ed {a b:Int} {l:List aF} (h:Good a b l) (x y:Int):kP l x y=some (l.map (mvR x y)):=by
 unfold kP
 rw [Js l (mvR x y) (lC l x y) (by have:=h.1;omega) (fun k r acc hx=>?_) (fun acc=>?_)]
 ·rfl
 ·have hk:=(List.getElem?_eq_some_iff.1 hx).1
  have:=h.1
  have hv:=(h.2 r (List.mem_of_getElem? hx)).1
  unfold vR at hv
  unfold lC pJ
  have h1:decide ((k:Int)<(l.length:Int))=true:=by simp;omega
  have g1:decide (r.X > -2147483648)=true:=by simp;omega
  have g2:decide (r.X<2147483648)=true:=by simp;omega
  have g3:decide (r.Y > -2147483648)=true:=by simp;omega
  have g4:decide (r.Y<2147483648)=true:=by simp;omega
  simp only [h1,if_true,bC hx,Option.bind_some,g1,g2,g3,g4]
  rw [aP (a:=(k:Int)) (by omega) (by omega)]
  rfl
 ·simp [lC]
theorem mv0 {a b:Int} {l:List aF} (h:Good a b l):l.map (mvR 0 0)=l:=by
 conv=>rhs;rw [← List.map_id l]
 refine List.map_congr_left fun r hr=>?_
 have hv:=(h.2 r hr).1
 unfold vR at hv
 unfold mvR
 rw [aP (by omega) (by omega),aP (by omega) (by omega),Int.add_zero,Int.add_zero]
 rfl
theorem Gt {a b:Int} {l:List aF} (h:Good a b l) (mx my w ht:Int) (hx : -1048576≤mx∧mx≤1048576) (hy : -1048576≤my∧my≤1048576):qD l mx my w ht=some (l.map (mvR (pR mx) (pR my))):=by
 unfold qD
 rw [Js l (mvR (pR mx) (pR my)) (sJ l mx my w ht) (by have:=h.1;omega) (fun k r acc hr=>?_) (fun acc=>?_)]
 ·rfl
 ·have hk:=(List.getElem?_eq_some_iff.1 hr).1
  have:=h.1
  have hv:=(h.2 r (List.mem_of_getElem? hr)).1
  unfold vR at hv
  unfold sJ Be
  have h1:decide ((k:Int)<(l.length:Int))=true:=by simp;omega
  simp only [h1,if_true,bC hr,Option.bind_some,mvR]
  rw [aP (a:=(k:Int)) (by omega) (by omega),Hd _ _ (by omega) (by omega),Hd _ _ (by omega) (by omega)]
  rfl
 ·simp [sJ]
theorem xK {a b mx my:Int} {l:List aF} (h:Good a b l) (hx:a≤mx∧mx≤a+1048576) (hy:b≤my∧my≤b+1048576) (qx : -1048576≤mx∧mx≤1048576) (qy : -1048576≤my∧my≤1048576):Good (a-mx) (b-my) (l.map (mvR (pR mx) (pR my))):=by
 refine ⟨by rw [List.length_map];exact h.1,fun r hr=>?_⟩
 obtain ⟨x,hxm,rfl⟩:=List.mem_map.1 hr
 obtain ⟨p1,p2⟩:=h.2 x hxm
 have hv:=p1
 unfold vR at hv
 unfold mvR
 rw [Hd _ _ (by omega) (by omega),Hd _ _ (by omega) (by omega),aU (by omega) (by omega),aU (by omega) (by omega)]
 unfold inB at p2 ⊢
 unfold vR
 simp only
 omega
theorem Xy {l:List aF} (hl:l.length≤12) {r:aF} {t:List aF} (hc:l=r::t):∃ w h p q u v,Cj l=some (⟨mQ l r.X,mS l r.Y,w,h⟩,p,q,u,v):=by
 have i0:idx l 0=some r:=by rw [hc];rfl
 have hlt:l.length=t.length+1:=by rw [hc];rfl
 have e1:slc l 1 (l.length:Int)=some t:=by
  unfold slc
  rw [if_pos (by omega)]
  have:(l.length:Int).toNat=l.length:=by omega
  rw [this,List.take_length,hc];rfl
 let F:Int×Int×Int×Int→aF→Int×Int×Int×Int:=fun s x=>(wT s.1 x.X,wT s.2.1 x.Y,aH (imax (aJ s.1 s.2.2.1) (aJ x.X x.W)) (wT s.1 x.X),aH (imax (aJ s.2.1 s.2.2.2) (aJ x.Y x.H)) (wT s.2.1 x.Y))
 have key:aL (sU t) (0,r.X,r.Y,r.W,r.H)=some (t.foldl F (r.X,r.Y,r.W,r.H)):=by
  refine Ax t (sU t) (fun k=>((k:Int),(t.take k).foldl F (r.X,r.Y,r.W,r.H))) _ (fun k x hx=>?_) ?_
  ·have hk:=(List.getElem?_eq_some_iff.1 hx).1
   unfold sU
   have h1:decide ((k:Int)<(t.length:Int))=true:=by simp;omega
   have e:t.take (k+1)=t.take k++[x]:=by rw [List.take_add_one,hx];rfl
   simp only [h1,if_true,bC hx,Option.bind_some,e]
   rw [aP (a:=(k:Int)) (by omega) (by omega),List.foldl_append]
   rfl
  ·simp [sU]
 have hX:∀ (t:List aF) (s:Int×Int×Int×Int),(t.foldl F s).1=t.foldl (fun s r=>min s r.X) s.1∧(t.foldl F s).2.1=t.foldl (fun s r=>min s r.Y) s.2.1:=by
  intro t
  induction t with
  | nil=>intro s;exact ⟨rfl,rfl⟩
  | cons x t ih =>
    intro s
    simp only [List.foldl_cons]
    obtain ⟨a,b⟩:=ih (F s x)
    rw [a,b]
    have q1:(F s x).1=min s.1 x.X:=Jq _ _
    have q2:(F s x).2.1=min s.2.1 x.Y:=Jq _ _
    rw [q1,q2]
    exact ⟨rfl,rfl⟩
 obtain ⟨a,b⟩:=hX t (r.X,r.Y,r.W,r.H)
 refine ⟨(t.foldl F (r.X,r.Y,r.W,r.H)).2.2.1,(t.foldl F (r.X,r.Y,r.W,r.H)).2.2.2,(t.foldl F (r.X,r.Y,r.W,r.H)).1,(t.foldl F (r.X,r.Y,r.W,r.H)).2.1,(t.foldl F (r.X,r.Y,r.W,r.H)).2.2.1,(t.foldl F (r.X,r.Y,r.W,r.H)).2.2.2, ?_⟩
 unfold Cj
 rw [i0]
 simp only [Option.bind_some,e1,key]
 have c1:mQ l r.X=(t.foldl F (r.X,r.Y,r.W,r.H)).1:=by rw [a,hc];unfold mQ;simp only [List.foldl_cons,Int.min_self]
 have c2:mS l r.Y=(t.foldl F (r.X,r.Y,r.W,r.H)).2.1:=by rw [b,hc];unfold mS;simp only [List.foldl_cons,Int.min_self]
 rw [c1,c2]
theorem Rh {a b:Int} {l:List aF} (h:Good a b l) {r:aF} {t:List aF} (hc:l=r::t):(a≤mQ l r.X∧mQ l r.X≤a+1048576∧-1048576≤mQ l r.X∧mQ l r.X≤1048576)∧(b≤mS l r.Y∧mS l r.Y≤b+1048576∧-1048576≤mS l r.Y∧mS l r.Y≤1048576):=by
 have hr:r ∈ l:=by rw [hc];simp
 constructor
 ·obtain ⟨x,hx,e⟩:∃ x ∈ l,mQ l r.X=x.X:=by
   rcases Gy (l:=l) (g:=fun r=>r.X) (a:=r.X) with e | ⟨x,hx,e⟩
   ·exact ⟨r,hr,e⟩
   ·exact ⟨x,hx,e⟩
  have p:=h.2 x hx
  unfold vR inB at p
  omega
 ·obtain ⟨x,hx,e⟩:∃ x ∈ l,mS l r.Y=x.Y:=by
   rcases Gy (l:=l) (g:=fun r=>r.Y) (a:=r.Y) with e | ⟨x,hx,e⟩
   ·exact ⟨r,hr,e⟩
   ·exact ⟨x,hx,e⟩
  have p:=h.2 x hx
  unfold vR inB at p
  omega
theorem LD {a b:Int} {l:List aF} (h:Good a b l):aL (uB l) 0=some (.inr ()):=by
 have:=fH l (uB l) (fun k=>(k:Int)) (fun x=>!decide (vR x)) (.inr ()) (.inl ()) rfl (fun k x hx=>?_) ?_
 ·refine this.trans ?_
  have:l.any (fun x=>!decide (vR x))=false:=by
   rw [List.any_eq_false];intro x hx;simp [(h.2 x hx).1]
  rw [this];rfl
 ·have hk:=(List.getElem?_eq_some_iff.1 hx).1
  have:=h.1
  unfold uB
  have h1:decide ((k:Int)<(l.length:Int))=true:=by simp;omega
  simp only [h1,if_true,bC hx,Option.bind_some,oJ]
  rw [aP (a:=(k:Int)) (by omega) (by omega)]
  rfl
 ·simp [uB]
theorem Sf {a b:Int} {R C F:List aF} (h1:Good a b R) (h2:Good a b C) (h3:Good a b F) (h0:0<R.length):Bd ⟨R,C,F,[]⟩=some 0:=by
 unfold Bd
 have e0:((R.length:Int)==0)=false:=by rw [beq_eq_false_iff_ne];omega
 have key:aL (uC ⟨R,C,F,[]⟩) 0=some (.inr ()):=by
  have:=fH [R,C,F] (uC ⟨R,C,F,[]⟩) (fun k=>(k:Int)) (fun _=>false) (.inr ()) (.inl ()) rfl (fun k x hx=>?_) ?_
  ·refine this.trans ?_;simp
  ·have hk:=(List.getElem?_eq_some_iff.1 hx).1
   have hm:x=R∨x=C∨x=F:=by have:=List.mem_of_getElem? hx;simpa using this
   have hg:Good a b x:=by rcases hm with rfl | rfl | rfl <;> assumption
   have h4:decide ((k:Int)<(([R,C,F]:List (List aF)).length:Int))=true:=by rw [decide_eq_true_eq];exact Int.ofNat_lt.2 hk
   have h5:decide ((x.length:Int)>48)=false:=by have:=hg.1;simp;omega
   have hk':k<3:=hk
   unfold uC
   simp only [h4,if_true,bC hx,Option.bind_some,h5,Bool.false_eq_true,if_false,LD hg]
   rw [aP (a:=(k:Int)) (by omega) (by omega)]
   rfl
  ·simp [uC]
 have b0:aL (Cy ⟨R,C,F,[]⟩) 0=some (.inr ()):=eK (by simp [Cy])
 simp only [e0,Bool.false_eq_true,if_false,key,b0,Option.bind_some]
theorem IL (f:Flat) (h:f.nW=[]) (a b c d:Int):aL (eG f a b c d) (0,[])=some []:=by
 refine eK ?_
 unfold eG
 rw [h];rfl
theorem Vp {a b:Int} {R C F:List aF} (h1:Good a b R) (h2:Good a b C) (h3:Good a b F) {r:aF} {t:List aF} (hc:R=r::t) :
  Ak ⟨R,C,F,[]⟩=some (⟨R.map (mvR (pR (mQ R r.X)) (pR (mS R r.Y))),C.map (mvR (pR (mQ R r.X)) (pR (mS R r.Y))),F.map (mvR (pR (mQ R r.X)) (pR (mS R r.Y))),[]⟩,0):=by
 obtain ⟨w,h,p,q,u,v,e⟩:=Xy h1.1 hc
 obtain ⟨⟨lx1,lx2,lx3,lx4⟩,ly1,ly2,ly3,ly4⟩:=Rh h1 hc
 unfold Ak
 rw [e]
 simp only [Option.bind_some]
 unfold fG
 rw [IL _ rfl,Gt h1 _ _ _ _ ⟨lx3,lx4⟩ ⟨ly3,ly4⟩,Gt h2 _ _ _ _ ⟨lx3,lx4⟩ ⟨ly3,ly4⟩,Gt h3 _ _ _ _ ⟨lx3,lx4⟩ ⟨ly3,ly4⟩]
 simp only [Option.bind_some]
 rw [Sf (xK h1 ⟨lx1,lx2⟩ ⟨ly1,ly2⟩ ⟨lx3,lx4⟩ ⟨ly3,ly4⟩) (xK h2 ⟨lx1,lx2⟩ ⟨ly1,ly2⟩ ⟨lx3,lx4⟩ ⟨ly3,ly4⟩) (xK h3 ⟨lx1,lx2⟩ ⟨ly1,ly2⟩ ⟨lx3,lx4⟩ ⟨ly3,ly4⟩) (by rw [List.length_map,hc];simp)]
 rfl
theorem Dy {l:List aF} (hl:l.length≤12) (x y:Int):xQ l x y=some (l.map (mvR x y)):=by
 unfold xQ
 have hmk:mk (l.length:Int) (aF.mk 0 0 0 0)=some (List.replicate l.length ⟨0,0,0,0⟩):=by
  unfold mk;rw [if_pos (by unfold LIM;omega)];simp
 have hc:cpy (List.replicate l.length (aF.mk 0 0 0 0)) 0 (List.take (min l.length (List.replicate l.length (aF.mk 0 0 0 0)).length) l)=l:=by
  unfold cpy;simp
 rw [hmk]
 simp only [Option.bind_some,hc]
 have key:aL (uL l x y (List.replicate l.length ⟨0,0,0,0⟩)) (0,l)=some (l.map (mvR x y)):=by
  refine Ax l (uL l x y (List.replicate l.length ⟨0,0,0,0⟩)) (fun k=>((k:Int),(l.take k).map (mvR x y)++l.drop k)) _ (fun k r hr=>?_) ?_
  ·have hk:=(List.getElem?_eq_some_iff.1 hr).1
   unfold uL
   rw [hc]
   have h1:decide ((k:Int)<(l.length:Int))=true:=by simp;omega
   have ht:((l.take k).map (mvR x y)).length=k:=by simp;omega
   have ed:l.drop k=r::l.drop (k+1):=by rw [List.drop_eq_getElem_cons hk];congr 1;exact (List.getElem?_eq_some_iff.1 hr).2
   have i1:∀ z:aF,idx ((l.take k).map (mvR x y)++z::l.drop (k+1)) (k:Int)=some z:=fun z=>bC (by rw [List.getElem?_append_right (by omega),ht];simp)
   have s1:∀ z z':aF,List.set ((l.take k).map (mvR x y)++z::l.drop (k+1)) k z'=(l.take k).map (mvR x y)++z'::l.drop (k+1):=fun z z'=>by rw [List.set_append_right _ _ (by omega),ht];simp
   simp only [h1,if_true,ed,i1,s1,Option.bind_some,Int.toNat_natCast]
   rw [aP (a:=(k:Int)) (by omega) (by omega)]
   have e:l.take (k+1)=l.take k++[r]:=by rw [List.take_add_one,hr];rfl
   rw [e,List.map_append,List.append_assoc]
   rfl
  ·unfold uL
   rw [hc]
   simp
 rw [key]
 rfl
theorem Xm {x:aX} (h:VP x) (n:Nat) (hn:n≤3) {r:aF} {t:List aF} (hc:tq n x.aD=r::t):jI x (n:Int)=some (⟨x.Name,x.bA,x.dO,x.bW,(tq n x.aD).map (mvR (pR (mQ (tq n x.aD) r.X)) (pR (mS (tq n x.aD) r.Y))),(tq n x.bQ).map (mvR (pR (mQ (tq n x.aD) r.X)) (pR (mS (tq n x.aD) r.Y))),(tq n x.Forms).map (mvR (pR (mQ (tq n x.aD) r.X)) (pR (mS (tq n x.aD) r.Y)))⟩,x.Name,x.bA,x.dO,x.bW):=by
 have g1:Good 0 0 x.aD:=⟨h.n1,h.v1⟩
 have g2:Good 0 0 x.bQ:=⟨h.n2,h.v2⟩
 have g3:Good 0 0 x.Forms:=⟨h.n3,h.v3⟩
 have hl:(tq n x.aD).length≤1000:=by rw [Kw];have:=h.n1;omega
 unfold jI tH
 simp only [Ed g1,Ed g2,Ed g3,mv0 g1,mv0 g2,mv0 g3,Option.bind_some,Vm g1 g2 g3 n hn]
 have le:=Sv ⟨x.Name,x.bA,x.dO,x.bW,tq n x.aD,[],[]⟩ (show (tq n x.aD).length≤1000 from hl) (r:=r) (show (tq n x.aD)[0]?=some r by rw [hc];rfl)
 have le':kQ (tq n x.aD)=some (mQ (tq n x.aD) r.X,mS (tq n x.aD) r.Y):=le
 simp only [le',Option.bind_some,Ed (g1.tq n),Ed (g2.tq n),Ed (g3.tq n)]
theorem Mx {x:aX} (h:VP x) (n:Nat) (hn:n≤3) {r:aF} {t:List aF} (hc:tq n x.aD=r::t):wO ⟨x.aD,x.bQ,x.Forms,[]⟩ (n:Int)=some (⟨(tq n x.aD).map (mvR (pR (mQ (tq n x.aD) r.X)) (pR (mS (tq n x.aD) r.Y))),(tq n x.bQ).map (mvR (pR (mQ (tq n x.aD) r.X)) (pR (mS (tq n x.aD) r.Y))),(tq n x.Forms).map (mvR (pR (mQ (tq n x.aD) r.X)) (pR (mS (tq n x.aD) r.Y))),[]⟩,0):=by
 have g1:Good 0 0 x.aD:=⟨h.n1,h.v1⟩
 have g2:Good 0 0 x.bQ:=⟨h.n2,h.v2⟩
 have g3:Good 0 0 x.Forms:=⟨h.n3,h.v3⟩
 unfold wO
 have t1:decide ((n:Int)<0)=false:=by simp
 have t2:decide ((n:Int)>3)=false:=by simp;omega
 have t3:aL (zZ ⟨x.aD,x.bQ,x.Forms,[]⟩) ()=some ():=eK (by simp [zZ])
 simp only [Sf g1 g2 g3 h.n0,Option.bind_some,bne_self_eq_false,Bool.false_eq_true,if_false,t1,t2,Zy g1 g2 g3 n hn,t3,Vp (g1.tq n) (g2.tq n) (g3.tq n) hc]
structure Iso (g:aF→aF) (l:List aF):Prop where
 v:∀ a ∈ l,vR a→vR (g a)
 ov:∀ a ∈ l,∀ b ∈ l,vY (g a) (g b)=vY a b
 to:∀ a ∈ l,∀ b ∈ l,nN (g a) (g b)=nN a b
 de:∀ a ∈ l,∀ b ∈ l,sH (g a) (g b)=sH a b
 ze:∀ a ∈ l,∀ b ∈ l,Eh (g a) (g b)=Eh a b
 th:∀ a ∈ l,(((g a).W==1) || ((g a).H==1))=((a.W==1) || (a.H==1))
def trR (x y:Int) (r:aF):aF:=⟨r.X+x,r.Y+y,r.W,r.H⟩
theorem Kh {a b:aF} (ha:vR a) (hb:vR b):nN a b=some (decide ((min (a.X+a.W) (b.X+b.W)-max a.X b.X=0∧min (a.Y+a.H) (b.Y+b.H)-max a.Y b.Y>0)∨(min (a.Y+a.H) (b.Y+b.H)-max a.Y b.Y=0∧min (a.X+a.W) (b.X+b.W)-max a.X b.X>0))):=by
 unfold vR at ha hb
 unfold nN
 rw [aP (by omega) (by omega),aP (by omega) (by omega),aP (by omega) (by omega),aP (by omega) (by omega)]
 simp only [Jq,Er]
 rw [aU (by omega) (by omega),aU (by omega) (by omega)]
 generalize min (a.X+a.W) (b.X+b.W)-max a.X b.X=w
 generalize min (a.Y+a.H) (b.Y+b.H)-max a.Y b.Y=h
 by_cases h1:w=0
 ·by_cases h2:h>0
  ·simp [h1,h2]
  ·by_cases h3:h=0
   ·simp [h1,h3]
   ·simp [h1,h2,h3]
 ·by_cases h3:h=0
  ·simp [h1,h3]
  ·simp [h1,h3]
theorem Fz {a b:aF} (ha:vR a) (hb:vR b):sH a b=decide (a.X>b.X∧a.Y>b.Y∧a.X+a.W<b.X+b.W∧a.Y+a.H<b.Y+b.H):=by
 unfold vR at ha hb
 unfold sH
 rw [aP (by omega) (by omega),aP (by omega) (by omega),aP (by omega) (by omega),aP (by omega) (by omega)]
 by_cases h1:a.X>b.X <;> by_cases h2:a.Y>b.Y <;> by_cases h3:a.X+a.W<b.X+b.W <;> simp [h1,h2,h3]
theorem KF {l:List aF} (h:∀ r ∈ l,vR r):Iso qR l:=by
 refine ⟨fun a _ hv=>Pt hv,fun a ha b hb=>?_,fun a ha b hb=>?_,fun a ha b hb=>?_,fun a ha b hb=>?_,fun a ha=>?_⟩
 ·unfold vY
  refine decide_eq_decide.2 ?_
  have p1:=h a ha;have p2:=h b hb;have p3:=Pt p1;have p4:=Pt p2
  unfold ovR
  simp only [p1,p2,p3,p4,true_and]
  simp only [qR]
  omega
 ·rw [Kh (Pt (h a ha)) (Pt (h b hb)),Kh (h a ha) (h b hb)]
  congr 1
  refine decide_eq_decide.2 ?_
  simp only [qR]
  omega
 ·rw [Fz (Pt (h a ha)) (Pt (h b hb)),Fz (h a ha) (h b hb)]
  refine decide_eq_decide.2 ?_
  simp only [qR]
  omega
 ·have p1:=h a ha;have p2:=h b hb;have p3:=Pt p1;have p4:=Pt p2
  have:yQ (qR a) (qR b)=yQ a b:=by
   unfold yQ
   rw [if_pos ⟨p3,p4⟩,if_pos ⟨p1,p2⟩]
   simp only [qR]
   omega
  unfold Eh;rw [this]
 ·show ((a.H==1) || (a.W==1))=_
  exact Bool.or_comm _ _
theorem KG {l:List aF} (x y:Int) (h:∀ r ∈ l,vR r∧vR (trR x y r)):Iso (trR x y) l:=by
 refine ⟨fun a ha _=>(h a ha).2,fun a ha b hb=>?_,fun a ha b hb=>?_,fun a ha b hb=>?_,fun a ha b hb=>?_,fun a ha=>rfl⟩
 ·unfold vY
  refine decide_eq_decide.2 ?_
  have p1:=(h a ha).1;have p2:=(h b hb).1;have p3:=(h a ha).2;have p4:=(h b hb).2
  unfold ovR
  simp only [p1,p2,p3,p4,true_and]
  simp only [trR]
  omega
 ·rw [Kh (h a ha).2 (h b hb).2,Kh (h a ha).1 (h b hb).1]
  congr 1
  refine decide_eq_decide.2 ?_
  simp only [trR]
  omega
 ·rw [Fz (h a ha).2 (h b hb).2,Fz (h a ha).1 (h b hb).1]
  refine decide_eq_decide.2 ?_
  simp only [trR]
  omega
 ·have:yQ (trR x y a) (trR x y b)=yQ a b:=by
   unfold yQ
   rw [if_pos ⟨(h a ha).2,(h b hb).2⟩,if_pos ⟨(h a ha).1,(h b hb).1⟩]
   simp only [trR]
   omega
  unfold Eh;rw [this]
theorem Td {g:aF→aF} {p:aF→aF→Bool} {l:List aF} (h:∀ a ∈ l,∀ b ∈ l,p (g a) (g b)=p a b) (k:Nat):yZ p (l.map g) k=yZ p l k:=by
 unfold yZ
 rw [List.getElem?_map]
 cases e:l[k]? with
 | none=>rfl
 | some x =>
   have hx:=List.mem_of_getElem? e
   simp only [Option.map_some]
   rw [← List.map_take,List.any_map,Bool.eq_iff_iff,List.any_eq_true,List.any_eq_true]
   constructor
   ·rintro ⟨y,hy,q⟩;exact ⟨y,hy,by rw [← h x hx y (List.mem_of_mem_take hy)];exact q⟩
   ·rintro ⟨y,hy,q⟩;exact ⟨y,hy,by show p (g x) (g y)=true;rw [h x hx y (List.mem_of_mem_take hy)];exact q⟩
theorem Wq {α β:Type} (g:α→β) (l:List α) (i:Int):idx (l.map g) i=(idx l i).map g:=by
 unfold idx
 split
 ·rw [List.getElem?_map]
 ·rfl
theorem FB {g:aF→aF} {l:List aF} (h:∀ a ∈ l,∀ b ∈ l,nN (g a) (g b)=nN a b):lM (l.map g)=lM l:=by
 have mem:∀ {i:Int} {x:aF},idx l i=some x→x ∈ l:=fun {i x} e=>by
  unfold idx at e
  split at e
  ·exact List.mem_of_getElem? e
  ·cases e
 have b2:∀ x:Int,fA (l.map g) x=fA l x:=by
  intro x
  funext s
  unfold fA
  rw [List.length_map,Wq,Wq]
  cases e1:idx l x with
  | none=>rfl
  | some u =>
    cases e2:idx l s.1 with
    | none=>rfl
    | some w =>
      simp only [Option.map_some,Option.bind_some]
      rw [h u (mem e1) w (mem e2)]
 have b3:fY (l.map g)=fY l:=by
  funext s
  unfold fY
  simp only [b2]
 unfold lM
 rw [List.length_map,b3]
structure VG (R C F:List aF):Prop where
 n1:R.length≤12
 n0:0<R.length
 n2:C.length≤12
 n3:F.length≤12
 v:∀ r ∈ R++(C++F),vR r
 ov:∀ k,k<R.length→yZ vY R k=false
 co:lM R=some true
 ho:∀ k,k<(C++F).length→∃ x,(C++F)[k]?=some x∧R.any (sH x)=true∧(k<C.length→((x.W==1) || (x.H==1))=false)
 ze:∀ k,k<(C++F).length→yZ Eh (C++F) k=false
theorem VG.map {R C F:List aF} {g:aF→aF} (h:VG R C F) (i:Iso g (R++(C++F))):VG (R.map g) (C.map g) (F.map g):=by
 have mR:∀ {a:aF},a ∈ R→a ∈ R++(C++F):=fun h=>List.mem_append.2 (.inl h)
 have mC:∀ {a:aF},a ∈ C++F→a ∈ R++(C++F):=fun h=>List.mem_append.2 (.inr h)
 refine ⟨by rw [List.length_map];exact h.n1,by rw [List.length_map];exact h.n0,by rw [List.length_map];exact h.n2,by rw [List.length_map];exact h.n3,fun r hr=>?_,fun k hk=>?_, ?_,fun k hk=>?_,fun k hk=>?_⟩
 ·rw [← List.map_append,← List.map_append] at hr
  obtain ⟨a,ha,rfl⟩:=List.mem_map.1 hr
  exact i.v a ha (h.v a ha)
 ·rw [Td (fun a ha b hb=>i.ov a (mR ha) b (mR hb))]
  exact h.ov k (by rw [List.length_map] at hk;exact hk)
 ·rw [FB (fun a ha b hb=>i.to a (mR ha) b (mR hb))];exact h.co
 ·rw [← List.map_append,List.length_map] at hk
  obtain ⟨x,h1,h2,h3⟩:=h.ho k hk
  have hx:=List.mem_of_getElem? h1
  refine ⟨g x,by rw [← List.map_append,List.getElem?_map,h1];rfl, ?_,fun hc=>?_⟩
  ·obtain ⟨r,hr,q⟩:=List.any_eq_true.1 h2
   rw [List.any_eq_true]
   exact ⟨g r,List.mem_map_of_mem hr,by rw [i.de x (mC hx) r (mR hr)];exact q⟩
  ·rw [i.th x (mC hx)];exact h3 (by rw [List.length_map] at hc;exact hc)
 ·rw [← List.map_append] at hk ⊢
  rw [Td (fun a ha b hb=>i.ze a (mC ha) b (mC hb))]
  exact h.ze k (by rw [List.length_map] at hk;exact hk)
theorem VG.tq {R C F:List aF} (h:VG R C F):∀ n,VG (tq n R) (SM.tq n C) (SM.tq n F)
 | 0=>h
 | n+1=>(VG.tq h n).map (KF (VG.tq h n).v)
theorem EJ {x:aX} (hn:gG x.Name=some true) (hm:gG x.bA=some true) (hp:(1≤x.dO∧x.dO≤60)∧0≤x.bW∧x.bW≤2) (h:VG x.aD x.bQ x.Forms) {r:aF} (hr:x.aD[0]?=some r) (lx:mQ x.aD r.X=0) (ly:mS x.aD r.Y=0):bD x=some 0:=by
 have i0:idx x.aD 0=some r:=bC (k:=0) hr
 have k1:=h.n1;have k2:=h.n2;have k3:=h.n3;have k0:=h.n0
 have d1:decide ((x.aD.length:Int)>12)=false:=by simp;omega
 have d2:decide ((x.bQ.length:Int)>12)=false:=by simp;omega
 have d3:decide ((x.Forms.length:Int)>12)=false:=by simp;omega
 have d0:((x.aD.length:Int)==0)=false:=by rw [beq_eq_false_iff_ne];omega
 have any0:∀ l:List aF,(∀ r ∈ l,vR r)→(l.any fun x=>!decide (vR x))=false:=fun l hl=>by
  rw [List.any_eq_false];intro y hy;simp [hl y hy]
 have a1:=any0 x.aD fun r hr=>h.v r (List.mem_append.2 (.inl hr))
 have a2:=any0 x.bQ fun r hr=>h.v r (List.mem_append.2 (.inr (List.mem_append.2 (.inl hr))))
 have a3:=any0 x.Forms fun r hr=>h.v r (List.mem_append.2 (.inr (List.mem_append.2 (.inr hr))))
 have rng:∀ (n:Nat) (p:Nat→Bool),(∀ k,k<n→p k=false)→(List.range n).any p=false:=fun n p hp=>by
  rw [List.any_eq_false];intro k hk;rw [hp k (List.mem_range.1 hk)];simp
 have r1:=rng _ _ h.ov
 have r2:=rng _ (wM x (x.bQ++x.Forms)) fun k hk=>by
  obtain ⟨y,h1,h2,h3⟩:=h.ho k hk
  unfold wM
  rw [h1]
  simp only [h2,Bool.not_true,Bool.false_or]
  by_cases hc:k<x.bQ.length
  ·rw [h3 hc,Bool.and_false]
  ·have:decide ((k:Int)<(x.bQ.length:Int))=false:=by simp;omega
   rw [this,Bool.false_and]
 have r3:=rng _ _ h.ze
 have ap1:app [] x.bQ=some x.bQ:=by rw [pE (by unfold LIM;simp;omega)];rfl
 have ap2:app x.bQ x.Forms=some (x.bQ++x.Forms):=pE (by unfold LIM;omega)
 have k4:(x.bQ++x.Forms).length≤1000:=by simp;omega
 unfold bD
 simp only [hn,hm,Ke,hp,and_self,decide_true,Bool.not_true,Bool.false_eq_true,if_true,if_false,Option.bind_some,d1,d2,d3,d0,kR x.aD (by omega),kR x.bQ (by omega),kR x.Forms (by omega),a1,a2,a3,Bool.not_false,i0,Jt x (by omega),lx,ly,bne_self_eq_false,ov3 x (by omega),r1,h.co]
 unfold yX
 simp only [ap1,ap2,Option.bind_some,Kk x _ k4 (show x.aD.length≤1000 by omega),r2,in3 _ k4,r3,Bool.false_eq_true,if_false]
theorem Tc {x : aX} (h:bD x=some 0):gG x.Name=some true∧gG x.bA=some true∧((1≤x.dO∧x.dO≤60)∧0≤x.bW∧x.bW≤2)∧VG x.aD x.bQ x.Forms:=by
 obtain ⟨a,ha,_⟩:=Au x.Name
 obtain ⟨b,hb,_⟩:=Au x.bA
 obtain ⟨z,hz,_,hv⟩:=yP x
 have vp:=hv (Option.some.inj (hz.symm.trans h))
 obtain ⟨cn,c1,_⟩:=Fy (l:=x.aD) (by have:=vp.n1;omega) vp.n0
 unfold bD at h
 rw [ha,hb] at h
 cases a with
 | false=>exact absurd (Option.some.inj h) (by decide)
 | true =>
 cases b with
 | false=>exact absurd (Option.some.inj h) (by decide)
 | true =>
 have k1:=vp.n1;have k2:=vp.n2;have k3:=vp.n3;have k0:=vp.n0
 have d1:decide ((x.aD.length:Int)>12)=false:=by simp;omega
 have d2:decide ((x.bQ.length:Int)>12)=false:=by simp;omega
 have d3:decide ((x.Forms.length:Int)>12)=false:=by simp;omega
 have d0:((x.aD.length:Int)==0)=false:=by rw [beq_eq_false_iff_ne];omega
 have any0:∀ l:List aF,(∀ r ∈ l,vR r)→(l.any fun x=>!decide (vR x))=false:=fun l hl=>by
  rw [List.any_eq_false];intro y hy;simp [hl y hy]
 have a1:=any0 x.aD fun r hr=>(vp.v1 r hr).1
 have a2:=any0 x.bQ fun r hr=>(vp.v2 r hr).1
 have a3:=any0 x.Forms fun r hr=>(vp.v3 r hr).1
 have hr:x.aD[0]?=some (x.aD[0]'k0):=by simp [k0]
 have i0:idx x.aD 0=some (x.aD[0]'k0):=bC (k:=0) hr
 have ap1:app [] x.bQ=some x.bQ:=by rw [pE (by unfold LIM;simp;omega)];rfl
 have ap2:app x.bQ x.Forms=some (x.bQ++x.Forms):=pE (by unfold LIM;omega)
 have k4:(x.bQ++x.Forms).length≤1000:=by simp;omega
 simp only [Ke,Option.bind_some,Bool.not_true,if_true,Bool.false_eq_true,if_false,d1,d2,d3,d0,kR x.aD (by omega),kR x.bQ (by omega),kR x.Forms (by omega),a1,a2,a3,Bool.not_false,i0,Jt x (show x.aD.length≤1000 by omega),ov3 x (show x.aD.length≤1000 by omega),c1] at h
 unfold yX at h
 simp only [ap1,ap2,Option.bind_some,Kk x _ k4 (show x.aD.length≤1000 by omega),in3 _ k4] at h
 by_cases hp:(1≤x.dO∧x.dO≤60)∧0≤x.bW∧x.bW≤2
 ·refine ⟨ha,hb,hp, ?_⟩
  simp only [hp,and_self,decide_true,Bool.not_true,Bool.false_eq_true,if_false] at h
  cases e1:(mQ x.aD (x.aD[0]'k0).X != 0)
  ·cases e2:(mS x.aD (x.aD[0]'k0).Y != 0)
   ·cases e3:(List.range x.aD.length).any (yZ vY x.aD)
    ·cases cn
     ·simp [e1,e2,e3] at h
     ·cases e4:(List.range (x.bQ++x.Forms).length).any (wM x (x.bQ++x.Forms))
      ·cases e5:(List.range (x.bQ++x.Forms).length).any (yZ Eh (x.bQ++x.Forms))
       ·have rng:∀ {n:Nat} {p:Nat→Bool},(List.range n).any p=false→∀ k,k<n→p k=false:=fun {n p} hp k hk=>by
         have:=List.any_eq_false.1 hp k (List.mem_range.2 hk);simpa using this
        refine ⟨k1,k0,k2,k3,fun r hr=>?_,rng e3,c1,fun k hk=>?_,rng e5⟩
        ·rcases List.mem_append.1 hr with hr | hr
         ·exact (vp.v1 r hr).1
         ·rcases List.mem_append.1 hr with hr | hr
          ·exact (vp.v2 r hr).1
          ·exact (vp.v3 r hr).1
        ·have q:=rng e4 k hk
         unfold wM at q
         have hx:(x.bQ++x.Forms)[k]?=some (x.bQ++x.Forms)[k]:=by simp
         rw [hx] at q
         simp only [Bool.or_eq_false_iff] at q
         refine ⟨_,hx,by have:=q.1;simpa using this,fun hc=>?_⟩
         have hd:decide ((k:Int)<(x.bQ.length:Int))=true:=by simp;omega
         have:=q.2
         rw [hd,Bool.true_and] at this
         exact this
       ·simp only [e1,e2,e3,e4,e5,Bool.not_true,Bool.false_eq_true,if_false,if_true,Option.bind_some] at h
        exact absurd (Option.some.inj h) (by decide)
      ·simp only [e1,e2,e3,e4,Bool.not_true,Bool.false_eq_true,if_false,if_true,Option.bind_some] at h
       exact absurd (Option.some.inj h) (by decide)
    ·simp [e1,e2,e3] at h
   ·simp [e1,e2] at h
  ·simp [e1] at h
 ·simp only [hp,decide_false,Bool.not_false,if_true] at h
  exact absurd (Option.some.inj h) (by decide)
def lo (l:List aF):Int×Int:=match l with
 | []=>(0,0)
 | r::_=>(mQ l r.X,mS l r.Y)
def nrm (R l:List aF):List aF:=l.map (trR (-(lo R).1) (-(lo R).2))
theorem foldl_add (g:aF→Int) (f:aF→aF) (d:Int) (hf:∀ r,g (f r)=g r+d):∀ (l:List aF) (a:Int),(l.map f).foldl (fun s r=>min s (g r)) (a+d)=l.foldl (fun s r=>min s (g r)) a+d
 | [],a=>rfl
 | r::l,a=>by
   simp only [List.map_cons,List.foldl_cons,hf]
   rw [← foldl_add g f d hf l (min a (g r))]
   congr 1
   omega
theorem KI {R:List aF} (hne:R≠[]) (x y:Int):lo (R.map (trR x y))=((lo R).1+x,(lo R).2+y):=by
 cases R with
 | nil=>exact absurd rfl hne
 | cons r t =>
   have h1:=foldl_add (fun r=>r.X) (trR x y) x (fun _=>rfl) (r::t) r.X
   have h2:=foldl_add (fun r=>r.Y) (trR x y) y (fun _=>rfl) (r::t) r.Y
   exact Prod.ext h1 h2
theorem IY {R:List aF} (hne:R≠[]):lo (nrm R R)=(0,0):=by
 unfold nrm
 rw [KI hne]
 refine Prod.ext ?_ ?_ <;> simp only <;> omega
theorem Xk {l:List aF} (n:Nat) (h:0<l.length):tq n l≠[]:=by
 intro e
 have:=Kw n l
 rw [e] at this;simp at this;omega
def trn (n:Nat) (R l:List aF):List aF:=nrm (tq n R) (tq n l)
theorem Ib {a b mx my:Int} {l:List aF} (h:Good a b l) (hx : -1048576≤mx∧mx≤1048576) (hy : -1048576≤my∧my≤1048576):l.map (mvR (pR mx) (pR my))=l.map (trR (-mx) (-my)):=by
 refine List.map_congr_left fun r hr=>?_
 have hv:=(h.2 r hr).1
 unfold vR at hv
 unfold mvR trR
 rw [Hb (by omega) (by omega),Hb (by omega) (by omega),aP (by omega) (by omega),aP (by omega) (by omega)]
theorem Vy {x:aX} (hx:bD x=some 0) (n:Nat) (hn:n≤3):rO x ⟨0,0,0,0,(n:Int)⟩=some (⟨x.Name,x.bA,x.dO,x.bW,trn n x.aD x.aD,trn n x.aD x.bQ,trn n x.aD x.Forms⟩,0,x.Name,x.bA,x.dO,x.bW)∧bD ⟨x.Name,x.bA,x.dO,x.bW,trn n x.aD x.aD,trn n x.aD x.bQ,trn n x.aD x.Forms⟩=some 0:=by
 obtain ⟨z,hz,_,hv⟩:=yP x
 have h:=hv (Option.some.inj (hz.symm.trans hx))
 obtain ⟨hn1,hn2,hn3,vg⟩:=Tc hx
 have g1:Good 0 0 x.aD:=⟨h.n1,h.v1⟩
 have g2:Good 0 0 x.bQ:=⟨h.n2,h.v2⟩
 have g3:Good 0 0 x.Forms:=⟨h.n3,h.v3⟩
 obtain ⟨r,t,hc⟩:∃ r t,tq n x.aD=r::t:=by
  cases e:tq n x.aD with
  | nil=>exact absurd e (Xk n h.n0)
  | cons r t=>exact ⟨r,t,rfl⟩
 obtain ⟨⟨lx1,lx2,lx3,lx4⟩,ly1,ly2,ly3,ly4⟩:=Rh (g1.tq n) hc
 have k1:=xK (g1.tq n) ⟨lx1,lx2⟩ ⟨ly1,ly2⟩ ⟨lx3,lx4⟩ ⟨ly3,ly4⟩
 have k2:=xK (g2.tq n) ⟨lx1,lx2⟩ ⟨ly1,ly2⟩ ⟨lx3,lx4⟩ ⟨ly3,ly4⟩
 have k3:=xK (g3.tq n) ⟨lx1,lx2⟩ ⟨ly1,ly2⟩ ⟨lx3,lx4⟩ ⟨ly3,ly4⟩
 have hlo:lo (tq n x.aD)=(mQ (tq n x.aD) r.X,mS (tq n x.aD) r.Y):=by
  rw [show lo (tq n x.aD)=lo (r::t) by rw [hc],lo,hc]
 have hQ:=Mx h n hn hc
 rw [Ib (g1.tq n) ⟨lx3,lx4⟩ ⟨ly3,ly4⟩,Ib (g2.tq n) ⟨lx3,lx4⟩ ⟨ly3,ly4⟩,Ib (g3.tq n) ⟨lx3,lx4⟩ ⟨ly3,ly4⟩] at hQ
 rw [Ib (g1.tq n) ⟨lx3,lx4⟩ ⟨ly3,ly4⟩] at k1
 rw [Ib (g2.tq n) ⟨lx3,lx4⟩ ⟨ly3,ly4⟩] at k2
 rw [Ib (g3.tq n) ⟨lx3,lx4⟩ ⟨ly3,ly4⟩] at k3
 have e1:trn n x.aD x.aD=(tq n x.aD).map (trR (-(mQ (tq n x.aD) r.X)) (-(mS (tq n x.aD) r.Y))):=by unfold trn nrm;rw [hlo]
 have e2:trn n x.aD x.bQ=(tq n x.bQ).map (trR (-(mQ (tq n x.aD) r.X)) (-(mS (tq n x.aD) r.Y))):=by unfold trn nrm;rw [hlo]
 have e3:trn n x.aD x.Forms=(tq n x.Forms).map (trR (-(mQ (tq n x.aD) r.X)) (-(mS (tq n x.aD) r.Y))):=by unfold trn nrm;rw [hlo]
 rw [← e1,← e2,← e3] at hQ
 rw [← e1] at k1
 rw [← e2] at k2
 rw [← e3] at k3
 have any0:∀ {a b:Int} {l:List aF},Good a b l→(l.any fun x=>!decide (vR x))=false:=fun {a b l} hl=>by
  rw [List.any_eq_false];intro y hy;simp [(hl.2 y hy).1]
 have n1:=k1.1;have n2:=k2.1;have n3:=k3.1
 refine ⟨?_, ?_⟩
 ·unfold rO
  simp only [hx,Option.bind_some,bne_self_eq_false,Bool.false_eq_true,if_false,Al,show (0≤(n:Int)∧(n:Int)≤3) by omega,show ((-1048576:Int)≤0∧(0:Int)≤1048576) by omega,and_self,decide_true,Bool.not_true,if_true]
  unfold tD
  simp only [hQ,Option.bind_some,bne_self_eq_false,Bool.false_eq_true,if_false,Dy k1.1,Dy k2.1,Dy k3.1,mv0 k1,mv0 k2,mv0 k3,kR _ (show (trn n x.aD x.aD).length≤9223372036854775806 by omega),kR _ (show (trn n x.aD x.bQ).length≤9223372036854775806 by omega),kR _ (show (trn n x.aD x.Forms).length≤9223372036854775806 by omega),any0 k1,any0 k2,any0 k3,Bool.not_false,Bool.not_true,if_true]
 ·have hvg:VG (trn n x.aD x.aD) (trn n x.aD x.bQ) (trn n x.aD x.Forms):=by
   rw [e1,e2,e3]
   refine (VG.tq vg n).map (KG _ _ fun a ha=>⟨(VG.tq vg n).v a ha, ?_⟩)
   rcases List.mem_append.1 ha with ha | ha
   ·exact (k1.2 _ (by rw [e1];exact List.mem_map_of_mem ha)).1
   ·rcases List.mem_append.1 ha with ha | ha
    ·exact (k2.2 _ (by rw [e2];exact List.mem_map_of_mem ha)).1
    ·exact (k3.2 _ (by rw [e3];exact List.mem_map_of_mem ha)).1
  have hl0:=IY (Xk n h.n0:tq n x.aD≠[])
  have hl0':lo (trn n x.aD x.aD)=(0,0):=hl0
  cases hA:trn n x.aD x.aD with
  | nil=>have:=hvg.n0;rw [hA] at this;simp at this
  | cons r' t' =>
    rw [hA] at hl0'
    have q1:mQ (r'::t') r'.X=0:=congrArg Prod.fst hl0'
    have q2:mS (r'::t') r'.Y=0:=congrArg Prod.snd hl0'
    exact EJ (x:=⟨x.Name,x.bA,x.dO,x.bW,r'::t',trn n x.aD x.bQ,trn n x.aD x.Forms⟩) hn1 hn2 hn3 (by rw [← hA];exact hvg) (r:=r') rfl q1 q2
def Pm (sheets:(List bU)):Int→Option (Int ⊕ (Int ⊕ Unit)):=fun a0 =>
 if (decide (a0<(sheets.length:Int))) then ((idx sheets a0).bind fun a2=>(nK a2).bind fun a1=>if (a1 != 0) then (some (.inr (.inl a1))) else (some (.inl (aJ a0 1)))) else (some (.inr (.inr (()))))
def Pn (pieces:(List aX)):Int→Option (Int ⊕ (Int ⊕ Unit)):=fun a1 =>
 if (decide (a1<(pieces.length:Int))) then ((idx pieces a1).bind fun a2=>(bD a2).bind fun a0=>if (a0 != 0) then (some (.inr (.inl a0))) else (some (.inl (aJ a1 1)))) else (some (.inr (.inr (()))))
def Og (sheets:(List bU)) (pieces:(List aX)):Option (Int):=
 (if (decide ((sheets.length:Int)>4)) then (some true) else (some (decide ((pieces.length:Int)>8)))).bind fun j2=>if j2 then (some 4) else ((aL (Pm sheets) 0).bind fun a4=>match a4 with | .inl a3=>some a3 | .inr a5=>(aL (Pn pieces) 0).bind fun a1=>match a1 with | .inl a0=>some a0 | .inr a2=>some 0)
end Go.SM
namespace Go.SM
open Go Go.VI Go.Cells
def lay (base:Nat→List aF) (items:List (Nat×List aF)) (k:Nat):List aF:=items.flatMap (fun it=>if it.1=k then it.2 else [])++base k
structure VS (s:bU):Prop where
 w:1≤s.cQ∧s.cQ≤1048576
 h:1≤s.bJ∧s.bJ≤1048576
 v:HZ (s.aY++s.Used)
 i:∀ r ∈ s.aY++s.Used,0≤r.X∧r.X+r.W≤s.cQ∧0≤r.Y∧r.Y+r.H≤s.bJ
 n1:s.aY.length≤4
 n2:s.Used.length≤48
end Go.SM
namespace Go.SM
open Go Go.VI
end Go.SM
namespace Go.SM
open Go Go.VI Go.Cells
theorem LA {s:bU} (h2:1≤s.cQ∧s.cQ≤1048576) (h3:1≤s.bJ∧s.bJ≤1048576) (n1:s.aY.length≤4) (n2:s.Used.length≤48) (v1:(s.aY.any fun x=>!decide (vR x))=false) (v2:(s.Used.any fun x=>!decide (vR x))=false) (o1:outs ⟨0,0,s.cQ,s.bJ⟩ s.aY=false) (o2:outs ⟨0,0,s.cQ,s.bJ⟩ s.Used=false):VS s:=by
 have hv:∀ {l:List aF},(l.any fun x=>!decide (vR x))=false→HZ l:=fun {l} h r hr=>by
  have:=List.any_eq_false.1 h r hr
  simpa using this
 have hi:∀ {l:List aF},outs ⟨0,0,s.cQ,s.bJ⟩ l=false→∀ r ∈ l,0≤r.X∧r.X+r.W≤s.cQ∧0≤r.Y∧r.Y+r.H≤s.bJ:=fun {l} h r hr=>by
  have:=List.any_eq_false.1 h r hr
  have h2:Bm r ⟨0,0,s.cQ,s.bJ⟩:=by simpa using this
  obtain ⟨_,_,a,b,c,d⟩:=h2
  simp only at a b c d
  omega
 refine ⟨h2,h3,fun r hr=>?_,fun r hr=>?_,n1,n2⟩
 ·rcases List.mem_append.1 hr with h | h
  ·exact hv v1 r h
  ·exact hv v2 r h
 ·rcases List.mem_append.1 hr with h | h
  ·exact hi o1 r h
  ·exact hi o2 r h
theorem Rx (s:bU):∃ b,nK s=some b∧lO s=some b∧(b=0→VS s):=by
 obtain ⟨a,ha,ha'⟩:=Au s.Name
 obtain ⟨b,hb,hb'⟩:=Au s.bA
 unfold nK lO
 rw [ha,hb,Tu ha' hb']
 cases a with
 | false=>exact ⟨2,rfl,rfl,fun h=>absurd h (by decide)⟩
 | true =>
 cases b with
 | false=>exact ⟨2,rfl,rfl,fun h=>absurd h (by decide)⟩
 | true =>
 simp only [Option.bind_some,Ke,Al,Bool.and_self,if_true,Bool.not_true,Bool.false_eq_true,if_false]
 by_cases h1:(1≤s.dO∧s.dO≤60)∧0≤s.bW∧s.bW≤2
 ·simp only [h1,and_self,decide_true,if_true,Option.bind_some]
  by_cases h2:1≤s.cQ∧s.cQ≤1048576
  ·by_cases h3:1≤s.bJ∧s.bJ≤1048576
   ·have q1:¬ s.cQ<1:=by omega
    have q2:¬ s.cQ>1048576:=by omega
    have q3:¬ s.bJ<1:=by omega
    have q4:¬ s.bJ>1048576:=by omega
    simp only [h2,h3,q1,q2,q3,q4,and_self,decide_true,decide_false,if_true,Option.bind_some,Bool.not_true,Bool.false_eq_true,if_false,bne_self_eq_false]
    by_cases h4:(s.aY.length:Int)>4
    ·exact ⟨4,by simp [h4],by simp [h4],fun h=>absurd h (by decide)⟩
    by_cases h5:(s.Used.length:Int)>48
    ·exact ⟨4,by simp [h5],by simp [h5],fun h=>absurd h (by decide)⟩
    simp only [h4,h5,decide_false,Bool.false_eq_true,if_false,Option.bind_some,kR s.aY (by omega),kR s.Used (by omega),Av s.aY (by omega),Av s.Used (by omega),Qg s s.aY (by omega),Qg s s.Used (by omega)]
    cases v1:(s.aY.any fun x=>!decide (vR x)) with
    | true=>exact ⟨1,rfl,rfl,fun h=>absurd h (by decide)⟩
    | false =>
    cases v2:(s.Used.any fun x=>!decide (vR x)) with
    | true=>exact ⟨1,rfl,rfl,fun h=>absurd h (by decide)⟩
    | false =>
    have hi:vL s 0=some (⟨0,0,s.cQ,s.bJ⟩,decide (vR ⟨0,0,s.cQ,s.bJ⟩)):=by
     unfold vL
     rw [oJ]
     have e0:eQ 2 0=0:=by rw [Cq (by omega) (by omega)];rfl
     rw [e0,aU (by omega) (by omega),aU (by omega) (by omega),Int.sub_zero,Int.sub_zero]
     rfl
    simp only [hi,Option.bind_some,BX s _ (show s.aY.length≤_ by omega) (show s.Used.length≤_ by omega),Bool.not_false,if_true,Bool.not_true,Bool.false_eq_true,if_false]
    cases o1:outs ⟨0,0,s.cQ,s.bJ⟩ s.aY with
    | true=>exact ⟨13,rfl,rfl,fun h=>absurd h (by decide)⟩
    | false =>
    cases o2:outs ⟨0,0,s.cQ,s.bJ⟩ s.Used with
    | true=>exact ⟨13,rfl,rfl,fun h=>absurd h (by decide)⟩
    | false=>exact ⟨0,rfl,rfl,fun _=>LA h2 h3 (by omega) (by omega) v1 v2 o1 o2⟩
   ·refine ⟨1,by simp [h2,h3], ?_,fun h=>absurd h (by decide)⟩
    by_cases q3:s.bJ<1
    ·simp [q3]
    ·have q4:s.bJ>1048576:=by omega
     simp [q3,q4]
  ·refine ⟨1,by simp [h2], ?_,fun h=>absurd h (by decide)⟩
   by_cases q3:s.cQ<1
   ·simp [q3]
   ·have q4:s.cQ>1048576:=by omega
    simp [q3,q4]
 ·exact ⟨1,by simp only [h1,decide_false];rfl,by simp only [h1,if_false];rfl,fun h=>absurd h (by decide)⟩
end Go.SM
namespace Go.SM
open Go Go.VI
set_option maxRecDepth 10000
theorem Pf (h:List Int):qU h=Ip (fun x y=>x==y) 0 h:=by kernel_rfl
def ltI (x y:Int):Bool:=decide (x<y)
theorem HY:Ki ltI where
 asymm x y h:=by unfold ltI at *;simp at *;omega
 neg x y z h:=by unfold ltI at *;simp at *;omega
theorem LF (x y:Int):rL x y=some (if x<y then -1 else if y<x then 1 else 0):=by
 unfold rL pF
 have e:∀ z:Int,(z != z)=false:=fun z=>by simp
 simp only [e,Option.bind_some,Bool.false_eq_true,if_false]
 by_cases h1:x<y
 ·simp [h1]
 ·by_cases h2:x>y
  ·have:y<x:=h2
   simp [h1,h2,this]
  ·have:¬ y<x:=h2
   simp [h1,h2,this]
def nL (taken:(List (List aF))):Int→Option (Int ⊕ (Unit ⊕ Unit)):=fun a0 =>
 if (decide (a0<(taken.length:Int))) then ((idx taken a0).bind fun a1=>if (decide ((a1.length:Int)>12)) then (some (.inr (.inl ()))) else (some (.inl (aJ a0 1)))) else (some (.inr (.inr (()))))
def nM (taken:(List (List aF))):Int→Option (Int ⊕ (Unit ⊕ Unit)):=fun a0 =>
 if (decide (a0<(taken.length:Int))) then ((idx taken a0).bind fun a2=>(mA a2).bind fun a1=>if (!a1) then (some (.inr (.inl ()))) else (some (.inl (aJ a0 1)))) else (some (.inr (.inr (()))))
def vG (taken:(List (List aF))):Option (Int):=
 if (decide ((taken.length:Int)>8)) then (some 4) else ((aL (nL taken) 0).bind fun a0=>match a0 with | .inl a2=>some 4 | .inr a3=>(aL (nM taken) 0).bind fun a1=>match a1 with | .inl a4=>some 1 | .inr a5=>some 0)
def mL (a1:(List aF)):Int×(List aO)→Option (Int×(List aO) ⊕ (List aO)):=fun a0 =>
 if (decide (a0.1<(a1.length:Int))) then ((idx a1 a0.1).bind fun a3=>(app a0.2 [(aO.mk a3 0 false)]).bind fun a2=>some (.inl ((aJ a0.1 1),a2))) else (some (.inr a0.2))
def fW (s0:bU):Int×(List aO)→Option (Int×(List aO) ⊕ (List aO)):=fun a0 =>
 if (decide (a0.1<([s0.aY,s0.Used].length:Int))) then ((idx [s0.aY,s0.Used] a0.1).bind fun a1=>(aL (mL a1) (0,a0.2)).bind fun a2=>some (.inl ((aJ a0.1 1),a2))) else (some (.inr a0.2))
def pV (a1:Int×(List aO)):(List aO)→Option (Int×(List aO) ⊕ (List aO)):=fun a0 =>
 some (.inl ((aJ a1.1 1),a0))
def mM (set2:bE) (a1:(List aF)):Int×(List aO)→Option (Int×(List aO) ⊕ (List aO)):=fun a0 =>
 if (decide (a0.1<(a1.length:Int))) then ((idx a1 a0.1).bind fun a2=>(eS a2).bind fun a4=>if a4 then ((app a0.2 [(aO.mk a2 set2.Gap set2.eN)]).bind fun a3=>pV a0 a3) else (pV a0 a0.2)) else (some (.inr a0.2))
def pW (taken:(List (List aF))) (set2:bE):Int×(List aO)→Option (Int×(List aO) ⊕ (List aO)):=fun a0 =>
 if (decide (a0.1<(taken.length:Int))) then ((idx taken a0.1).bind fun a1=>(aL (mM set2 a1) (0,a0.2)).bind fun a2=>some (.inl ((aJ a0.1 1),a2))) else (some (.inr a0.2))
def tT (s0:bU) (taken:(List (List aF))) (set2:bE):Option ((List aO)):=
 (aL (fW s0) (0,[])).bind fun a0=>(aL (pW taken set2) (0,a0)).bind fun a1=>some a1
def dA (x0:Int) (y:Int):Option (Bool):=
 ((pF x0).bind fun r4=>if r4 then ((pF y).bind fun r5=>if r5 then (some (decide (x0<y))) else (some true)) else (some (decide (x0<y)))).bind fun j3=>some j3
def vP (a:Int):Int×(List Int)→Option (Int×(List Int) ⊕ (List Int)):=fun a0 =>
 (if (decide (a0.1>a)) then ((idx a0.2 a0.1).bind fun a4=>(idx a0.2 (aH a0.1 1)).bind fun a5=>(dA a4 a5).bind fun a3=>some a3) else (some false)).bind fun a2=>if a2 then ((idx a0.2 (aH a0.1 1)).bind fun a1=>(idx a0.2 a0.1).bind fun a6=>(idx a0.2 a0.1).bind fun a7=>(idx (List.set a0.2 (Int.toNat a0.1) a1) (aH a0.1 1)).bind fun a8=>some (.inl ((aH a0.1 1),(List.set (List.set a0.2 (Int.toNat a0.1) a1) (Int.toNat (aH a0.1 1)) a6)))) else (some (.inr a0.2))
def vQ (a:Int) (b:Int):Int×(List Int)→Option (Int×(List Int) ⊕ (List Int)):=fun a0 =>
 if (decide (a0.1<b)) then ((aL (vP a) (a0.1,a0.2)).bind fun a1=>some (.inl ((aJ a0.1 1),a1))) else (some (.inr a0.2))
def pQ (a:Int) (b:Int) (h0:(List Int)):Option ((List Int)):=
 (aL (vQ a b) ((aJ a 1),h0)).bind fun a0=>some a0
def lS (first:Int) (a0:Int×(List Int)):Int→Option (Int×(List Int) ⊕ ((List Int) ⊕ (List Int))):=fun a1 =>
 (idx a0.2 (aJ first a0.1)).bind fun a4=>(idx a0.2 (aJ first a1)).bind fun a5=>(dA a4 a5).bind fun a3=>if (!a3) then (some (.inr (.inr a0.2))) else ((idx a0.2 (aJ first a1)).bind fun a2=>(idx a0.2 (aJ first a0.1)).bind fun a6=>(idx a0.2 (aJ first a0.1)).bind fun a7=>(idx (List.set a0.2 (Int.toNat (aJ first a0.1)) a2) (aJ first a1)).bind fun a8=>some (.inl (a1,(List.set (List.set a0.2 (Int.toNat (aJ first a0.1)) a2) (Int.toNat (aJ first a1)) a6))))
def zR (hi:Int) (first:Int):Int×(List Int)→Option (Int×(List Int) ⊕ ((List Int) ⊕ (List Int))):=fun a0 =>
 if (decide ((aJ (eQ 2 a0.1) 1) ≥ hi)) then (some (.inr (.inl a0.2))) else ((if (decide ((aJ (aJ (eQ 2 a0.1) 1) 1)<hi)) then ((idx a0.2 (aJ first (aJ (eQ 2 a0.1) 1))).bind fun a3=>(idx a0.2 (aJ (aJ first (aJ (eQ 2 a0.1) 1)) 1)).bind fun a4=>(dA a3 a4).bind fun a2=>some a2) else (some false)).bind fun a1=>if a1 then (lS first a0 (aJ (aJ (eQ 2 a0.1) 1) 1)) else (lS first a0 (aJ (eQ 2 a0.1) 1)))
def nQ (lo:Int) (hi:Int) (first:Int) (h0:(List Int)):Option ((List Int)):=
 (aL (zR hi first) (lo,h0)).bind fun a2=>match a2 with | .inl a0=>some a0 | .inr a1=>some a1
def zI (a:Int) (b:Int):Int×(List Int)→Option (Int×(List Int) ⊕ (List Int)):=fun a0 =>
 if (decide (a0.1 ≥ 0)) then ((nQ a0.1 (aH b a) a a0.2).bind fun a1=>some (.inl ((aH a0.1 1),a1))) else (some (.inr a0.2))
def zJ (a:Int):Int×(List Int)→Option (Int×(List Int) ⊕ (List Int)):=fun a0 =>
 if (decide (a0.1 ≥ 0)) then ((idx a0.2 (aJ a a0.1)).bind fun a1=>(idx a0.2 a).bind fun a3=>(idx a0.2 a).bind fun a4=>(idx (List.set a0.2 (Int.toNat a) a1) (aJ a a0.1)).bind fun a5=>(nQ 0 a0.1 a (List.set (List.set a0.2 (Int.toNat a) a1) (Int.toNat (aJ a a0.1)) a3)).bind fun a2=>some (.inl ((aH a0.1 1),a2))) else (some (.inr a0.2))
def tK (a:Int) (b:Int) (h0:(List Int)):Option ((List Int)):=
 (aL (zI a b) ((mP (aH (aH b a) 1) 2),h0)).bind fun a1=>(aL (zJ a) ((aH (aH b a) 1),a1)).bind fun a0=>some a0
def iH (a:Int) (a0:Int×Int×(List Int)):Int→Option (Int×Int×(List Int) ⊕ (List Int)):=fun a1 =>
 (idx a0.2.2 (aJ a a1)).bind fun a2=>(idx a0.2.2 a0.1).bind fun a3=>(idx a0.2.2 a0.1).bind fun a4=>(idx (List.set a0.2.2 (Int.toNat a0.1) a2) (aJ a a1)).bind fun a5=>some (.inl ((aJ a0.1 1),(fM .u64 (fM .u64 (fM .u64 a0.2.1 (IntKind.wrap .u64 (a0.2.1*2^(min (Int.toNat 13) 64)))) (Int.fdiv (fM .u64 a0.2.1 (IntKind.wrap .u64 (a0.2.1*2^(min (Int.toNat 13) 64)))) (2^(min (Int.toNat 7) 64)))) (IntKind.wrap .u64 ((fM .u64 (fM .u64 a0.2.1 (IntKind.wrap .u64 (a0.2.1*2^(min (Int.toNat 13) 64)))) (Int.fdiv (fM .u64 a0.2.1 (IntKind.wrap .u64 (a0.2.1*2^(min (Int.toNat 13) 64)))) (2^(min (Int.toNat 7) 64))))*2^(min (Int.toNat 17) 64)))),(List.set (List.set a0.2.2 (Int.toNat a0.1) a2) (Int.toNat (aJ a a1)) a3)))
def vN (a:Int) (b:Int) (r2:Int):Int×Int×(List Int)→Option (Int×Int×(List Int) ⊕ (List Int)):=fun a0 =>
 if (decide (a0.1≤(aJ (aJ a (eQ (mP (aH b a) 4) 2)) 1))) then ((tL a0.2.1).bind fun a1=>if (decide ((IntKind.wrap .i64 (Es .u64 a1 (IntKind.wrap .u64 (r2-1)))) ≥ (aH b a))) then (iH a a0 (aH (IntKind.wrap .i64 (Es .u64 a1 (IntKind.wrap .u64 (r2-1)))) (aH b a))) else (iH a a0 (IntKind.wrap .i64 (Es .u64 a1 (IntKind.wrap .u64 (r2-1)))))) else (some (.inr a0.2.2))
def pP (a:Int) (b:Int) (h0:(List Int)):Option ((List Int)):=
 if (decide ((aH b a) ≥ 8)) then ((sG (aH b a)).bind fun r2=>(aL (vN a b r2) ((aH (aJ a (eQ (mP (aH b a) 4) 2)) 1),(IntKind.wrap .u64 (aH b a)),h0)).bind fun a0=>some a0) else (some h0)
def lI (data:(List Int)) (a:Int) (b:Int) (h0_0:Int):Option (Int×Int×Int):=
 (idx data b).bind fun a1=>(idx data a).bind fun a2=>(dA a1 a2).bind fun a0=>if a0 then (some (b,a,(aJ h0_0 1))) else (some (a,b,h0_0))
def pM (data:(List Int)) (a:Int) (b:Int) (c:Int) (h0_0:Int):Option (Int×Int):=
 (lI data a b h0_0).bind fun r2=>(lI data r2.2.1 c r2.2.2).bind fun r4=>(lI data r2.1 r4.1 r4.2.2).bind fun r6=>some (r6.2.1,r6.2.2)
def gB (data:(List Int)) (a:Int) (h0_0:Int):Option (Int×Int):=
 (pM data (aH a 1) a (aJ a 1) h0_0).bind fun r2=>some (r2.1,r2.2)
def jO:(Int×Int)→Option (Int×Int):=fun a0 =>
 if (a0.2==0) then (some (a0.1,1)) else (if (a0.2==12) then (some (a0.1,2)) else (some (a0.1,0)))
def jP (data:(List Int)):(Int×Int×Int×Int)→Option (Int×Int):=fun a0 =>
 (pM data a0.1 a0.2.1 a0.2.2.1 a0.2.2.2).bind fun a1=>jO (a1.1,a1.2)
def rF (data:(List Int)) (a:Int) (b:Int):Option (Int×Int):=
 if (decide ((aH b a) ≥ 8)) then (if (decide ((aH b a) ≥ 50)) then ((gB data (aJ a (eQ (mP (aH b a) 4) 1)) 0).bind fun a0=>(gB data (aJ a (eQ (mP (aH b a) 4) 2)) a0.2).bind fun a1=>(gB data (aJ a (eQ (mP (aH b a) 4) 3)) a1.2).bind fun a2=>jP data (a0.1,a1.1,a2.1,a2.2)) else (jP data ((aJ a (eQ (mP (aH b a) 4) 1)),(aJ a (eQ (mP (aH b a) 4) 2)),(aJ a (eQ (mP (aH b a) 4) 3)),0))) else (jO ((aJ a (eQ (mP (aH b a) 4) 2)),0))
def wF:Int×Int×(List Int)→Option (Int×Int×(List Int) ⊕ (List Int)):=fun a0 =>
 if (decide (a0.1<a0.2.1)) then ((idx a0.2.2 a0.2.1).bind fun a1=>(idx a0.2.2 a0.1).bind fun a2=>(idx a0.2.2 a0.1).bind fun a3=>(idx (List.set a0.2.2 (Int.toNat a0.1) a1) a0.2.1).bind fun a4=>some (.inl ((aJ a0.1 1),(aH a0.2.1 1),(List.set (List.set a0.2.2 (Int.toNat a0.1) a1) (Int.toNat a0.2.1) a2)))) else (some (.inr a0.2.2))
def rA (a:Int) (b:Int) (h0:(List Int)):Option ((List Int)):=
 (aL (wF) (a,(aH b 1),h0)).bind fun a0=>some a0
def fS (a1:Int×Int×(List Int)):Int×(List Int)→Option (Int×Int×(List Int) ⊕ (Bool×(List Int) ⊕ (List Int))):=fun a0 =>
 some (.inl (a0.1,(aJ a1.2.1 1),a0.2))
def rP (b:Int) (a1:Int×Int×(List Int)):Int→Option (Int ⊕ Int):=fun a0 =>
 (if (decide (a0<b)) then ((idx a1.2.2 a0).bind fun a4=>(idx a1.2.2 (aH a0 1)).bind fun a5=>(dA a4 a5).bind fun a3=>some (!a3)) else (some false)).bind fun a2=>if a2 then (some (.inl (aJ a0 1))) else (some (.inr a0))
def rQ (b:Int):Int×(List Int)→Option (Int×(List Int) ⊕ (List Int)):=fun a0 =>
 if (decide (a0.1<b)) then ((idx a0.2 a0.1).bind fun a3=>(idx a0.2 (aH a0.1 1)).bind fun a4=>(dA a3 a4).bind fun a2=>if (!a2) then (some (.inr a0.2)) else ((idx a0.2 (aH a0.1 1)).bind fun a1=>(idx a0.2 a0.1).bind fun a5=>(idx a0.2 a0.1).bind fun a6=>(idx (List.set a0.2 (Int.toNat a0.1) a1) (aH a0.1 1)).bind fun a7=>some (.inl ((aJ a0.1 1),(List.set (List.set a0.2 (Int.toNat a0.1) a1) (Int.toNat (aH a0.1 1)) a5))))) else (some (.inr a0.2))
def fT (b:Int) (a2:Int×Int×(List Int)) (a0:Int):(List Int)→Option (Int×Int×(List Int) ⊕ (Bool×(List Int) ⊕ (List Int))):=fun a1 =>
 if (decide ((aH b a0) ≥ 2)) then ((aL (rQ b) ((aJ a0 1),a1)).bind fun a3=>fS a2 (a0,a3)) else (fS a2 (a0,a1))
def rS:Int×(List Int)→Option (Int×(List Int) ⊕ (List Int)):=fun a0 =>
 if (decide (a0.1 ≥ 1)) then ((idx a0.2 a0.1).bind fun a3=>(idx a0.2 (aH a0.1 1)).bind fun a4=>(dA a3 a4).bind fun a2=>if (!a2) then (some (.inr a0.2)) else ((idx a0.2 (aH a0.1 1)).bind fun a1=>(idx a0.2 a0.1).bind fun a5=>(idx a0.2 a0.1).bind fun a6=>(idx (List.set a0.2 (Int.toNat a0.1) a1) (aH a0.1 1)).bind fun a7=>some (.inl ((aH a0.1 1),(List.set (List.set a0.2 (Int.toNat a0.1) a1) (Int.toNat (aH a0.1 1)) a5))))) else (some (.inr a0.2))
def rU (a:Int) (b:Int):Int×Int×(List Int)→Option (Int×Int×(List Int) ⊕ (Bool×(List Int) ⊕ (List Int))):=fun a0 =>
 if (decide (a0.2.1<5)) then ((aL (rP b a0) a0.1).bind fun a1=>if (a1==b) then (some (.inr (.inl (true,a0.2.2)))) else (if (decide ((aH b a)<50)) then (some (.inr (.inl (false,a0.2.2)))) else ((idx a0.2.2 (aH a1 1)).bind fun a2=>(idx a0.2.2 a1).bind fun a3=>(idx a0.2.2 a1).bind fun a5=>(idx (List.set a0.2.2 (Int.toNat a1) a2) (aH a1 1)).bind fun a6=>if (decide ((aH a1 a) ≥ 2)) then ((aL (rS) ((aH a1 1),(List.set (List.set a0.2.2 (Int.toNat a1) a2) (Int.toNat (aH a1 1)) a3))).bind fun a4=>fT b a0 a1 a4) else (fT b a0 a1 (List.set (List.set a0.2.2 (Int.toNat a1) a2) (Int.toNat (aH a1 1)) a3))))) else (some (.inr (.inr a0.2.2)))
def lP (a:Int) (b:Int) (h0:(List Int)):Option (Bool×(List Int)):=
 (aL (rU a b) ((aJ a 1),0,h0)).bind fun a2=>match a2 with | .inl a0=>some (a0.1,a0.2) | .inr a1=>some (false,a1)
def uT (a:Int) (a1:Int×Int×(List Int)):Int→Option (Int ⊕ Int):=fun a0 =>
 (if (decide (a0≤a1.2.1)) then ((idx a1.2.2 a).bind fun a4=>(idx a1.2.2 a0).bind fun a5=>(dA a4 a5).bind fun a3=>some (!a3)) else (some false)).bind fun a2=>if a2 then (some (.inl (aJ a0 1))) else (some (.inr a0))
def uU (a:Int) (a1:Int×Int×(List Int)) (a4:Int):Int→Option (Int ⊕ Int):=fun a0 =>
 (if (decide (a4≤a0)) then ((idx a1.2.2 a).bind fun a5=>(idx a1.2.2 a0).bind fun a6=>(dA a5 a6).bind fun a3=>some a3) else (some false)).bind fun a2=>if a2 then (some (.inl (aH a0 1))) else (some (.inr a0))
def uV (a:Int):Int×Int×(List Int)→Option (Int×Int×(List Int) ⊕ Int×(List Int)):=fun a0 =>
 (aL (uT a a0) a0.1).bind fun a1=>(aL (uU a a0 a1) a0.2.1).bind fun a2=>if (decide (a1>a2)) then (some (.inr (a1,a0.2.2))) else ((idx a0.2.2 a2).bind fun a3=>(idx a0.2.2 a1).bind fun a4=>(idx a0.2.2 a1).bind fun a5=>(idx (List.set a0.2.2 (Int.toNat a1) a3) a2).bind fun a6=>some (.inl ((aJ a1 1),(aH a2 1),(List.set (List.set a0.2.2 (Int.toNat a1) a3) (Int.toNat a2) a4))))
def oY (a:Int) (b:Int) (pivot:Int) (h0:(List Int)):Option (Int×(List Int)):=
 (idx h0 pivot).bind fun x9=>(idx h0 a).bind fun a1=>(idx h0 a).bind fun a2=>(idx (List.set h0 (Int.toNat a) x9) pivot).bind fun a3=>(aL (uV a) ((aJ a 1),(aH b 1),(List.set (List.set h0 (Int.toNat a) x9) (Int.toNat pivot) a1))).bind fun a0=>some (a0.1,a0.2)
def xW (a:Int) (b:Int) (pivot:Int) (h0:(List Int)) (x9:Int) (a5:Int):Int→Option (Int ⊕ Int):=fun a0 =>
 (if (decide (a0≤(aH b 1))) then ((idx (List.set (List.set h0 (Int.toNat a) x9) (Int.toNat pivot) a5) a0).bind fun a3=>(idx (List.set (List.set h0 (Int.toNat a) x9) (Int.toNat pivot) a5) a).bind fun a4=>(dA a3 a4).bind fun a2=>some a2) else (some false)).bind fun a1=>if a1 then (some (.inl (aJ a0 1))) else (some (.inr a0))
def xX (a:Int) (pivot:Int) (h0:(List Int)) (x9:Int) (a6:Int) (a3:Int):Int→Option (Int ⊕ Int):=fun a0 =>
 (if (decide (a3≤a0)) then ((idx (List.set (List.set h0 (Int.toNat a) x9) (Int.toNat pivot) a6) a0).bind fun a4=>(idx (List.set (List.set h0 (Int.toNat a) x9) (Int.toNat pivot) a6) a).bind fun a5=>(dA a4 a5).bind fun a2=>some (!a2)) else (some false)).bind fun a1=>if a1 then (some (.inl (aH a0 1))) else (some (.inr a0))
def xY (a:Int) (a1:Int×Int×(List Int)):Int→Option (Int ⊕ Int):=fun a0 =>
 (if (decide (a0≤a1.2.1)) then ((idx a1.2.2 a0).bind fun a4=>(idx a1.2.2 a).bind fun a5=>(dA a4 a5).bind fun a3=>some a3) else (some false)).bind fun a2=>if a2 then (some (.inl (aJ a0 1))) else (some (.inr a0))
def xZ (a:Int) (a1:Int×Int×(List Int)) (a4:Int):Int→Option (Int ⊕ Int):=fun a0 =>
 (if (decide (a4≤a0)) then ((idx a1.2.2 a0).bind fun a5=>(idx a1.2.2 a).bind fun a6=>(dA a5 a6).bind fun a3=>some (!a3)) else (some false)).bind fun a2=>if a2 then (some (.inl (aH a0 1))) else (some (.inr a0))
def yA (a:Int):Int×Int×(List Int)→Option (Int×Int×(List Int) ⊕ Int×(List Int)):=fun a0 =>
 (aL (xY a a0) a0.1).bind fun a1=>(aL (xZ a a0 a1) a0.2.1).bind fun a2=>if (decide (a1>a2)) then (some (.inr (a2,a0.2.2))) else ((idx a0.2.2 a2).bind fun a3=>(idx a0.2.2 a1).bind fun a4=>(idx a0.2.2 a1).bind fun a5=>(idx (List.set a0.2.2 (Int.toNat a1) a3) a2).bind fun a6=>some (.inl ((aJ a1 1),(aH a2 1),(List.set (List.set a0.2.2 (Int.toNat a1) a3) (Int.toNat a2) a4))))
def sR (a:Int) (b:Int) (pivot:Int) (h0:(List Int)):Option (Int×Bool×(List Int)):=
 (idx h0 pivot).bind fun x9=>(idx h0 a).bind fun a3=>(idx h0 a).bind fun b6=>(idx (List.set h0 (Int.toNat a) x9) pivot).bind fun b7=>(aL (xW a b pivot h0 x9 a3) (aJ a 1)).bind fun a2=>(aL (xX a pivot h0 x9 a3 a2) (aH b 1)).bind fun a1=>if (decide (a2>a1)) then ((idx (List.set (List.set h0 (Int.toNat a) x9) (Int.toNat pivot) a3) a).bind fun a6=>(idx (List.set (List.set h0 (Int.toNat a) x9) (Int.toNat pivot) a3) a1).bind fun a8=>(idx (List.set (List.set h0 (Int.toNat a) x9) (Int.toNat pivot) a3) a1).bind fun b2=>(idx (List.set (List.set (List.set h0 (Int.toNat a) x9) (Int.toNat pivot) a3) (Int.toNat a1) a6) a).bind fun b3=>some (a1,true,(List.set (List.set (List.set (List.set h0 (Int.toNat a) x9) (Int.toNat pivot) a3) (Int.toNat a1) a6) (Int.toNat a) a8))) else ((idx (List.set (List.set h0 (Int.toNat a) x9) (Int.toNat pivot) a3) a1).bind fun a7=>(idx (List.set (List.set h0 (Int.toNat a) x9) (Int.toNat pivot) a3) a2).bind fun a9=>(idx (List.set (List.set h0 (Int.toNat a) x9) (Int.toNat pivot) a3) a2).bind fun b4=>(idx (List.set (List.set (List.set h0 (Int.toNat a) x9) (Int.toNat pivot) a3) (Int.toNat a2) a7) a1).bind fun b5=>(aL (yA a) ((aJ a2 1),(aH a1 1),(List.set (List.set (List.set (List.set h0 (Int.toNat a) x9) (Int.toNat pivot) a3) (Int.toNat a2) a7) (Int.toNat a1) a9))).bind fun a0=>(idx a0.2 a).bind fun a4=>(idx a0.2 a0.1).bind fun a5=>(idx a0.2 a0.1).bind fun b0=>(idx (List.set a0.2 (Int.toNat a0.1) a4) a).bind fun b1=>some (a0.1,false,(List.set (List.set a0.2 (Int.toNat a0.1) a4) (Int.toNat a) a5)))
def mF (self:Int→Int→Int→(List Int)→Option ((List Int))) (a1:Int×Int×Int×Bool×Bool×(List Int)) (a3:Int×(List Int)) (a4:Int×Int×(List Int)):Bool×Bool×(List Int)→Option (Int×Int×Int×Bool×Bool×(List Int) ⊕ (List Int)):=fun a2 =>
 (if (decide (a1.1>0)) then ((idx a2.2.2 (aH a1.1 1)).bind fun b0=>(idx a2.2.2 a4.1).bind fun b1=>(dA b0 b1).bind fun a7=>some (!a7)) else (some false)).bind fun a6=>if a6 then ((oY a1.1 a1.2.1 a4.1 a2.2.2).bind fun a5=>some (.inl (a5.1,a1.2.1,a3.1,a2.1,a2.2.1,a5.2))) else ((sR a1.1 a1.2.1 a4.1 a2.2.2).bind fun a0=>if (decide ((aH a0.1 a1.1)<(aH a1.2.1 a0.1))) then ((self a1.1 a0.1 a3.1 a0.2.2).bind fun a8=>some (.inl ((aJ a0.1 1),a1.2.1,a3.1,(decide ((aH a0.1 a1.1) ≥ (mP (aH a1.2.1 a1.1) 8))),a0.2.1,a8))) else ((self (aJ a0.1 1) a1.2.1 a3.1 a0.2.2).bind fun a9=>some (.inl (a1.1,a0.1,a3.1,(decide ((aH a1.2.1 a0.1) ≥ (mP (aH a1.2.1 a1.1) 8))),a0.2.1,a9))))
def mG (self:Int→Int→Int→(List Int)→Option ((List Int))) (a3:Int×Int×Int×Bool×Bool×(List Int)) (a4:Int×(List Int)):Int×Int×(List Int)→Option (Int×Int×Int×Bool×Bool×(List Int) ⊕ (List Int)):=fun a0 =>
 (if a3.2.2.2.1 then (if a3.2.2.2.2.1 then (some (true,true,(a0.2.1==1))) else (some (true,false,false))) else (some (false,a3.2.2.2.2.1,false))).bind fun a1=>if a1.2.2 then ((lP a3.1 a3.2.1 a0.2.2).bind fun a2=>if a2.1 then (some (.inr a2.2)) else (mF self a3 a4 a0 (a1.1,a1.2.1,a2.2))) else (mF self a3 a4 a0 (a1.1,a1.2.1,a0.2.2))
def mI (self:Int→Int→Int→(List Int)→Option ((List Int))) (a2:Int×Int×Int×Bool×Bool×(List Int)):Int×(List Int)→Option (Int×Int×Int×Bool×Bool×(List Int) ⊕ (List Int)):=fun a0 =>
 (rF a0.2 a2.1 a2.2.1).bind fun a1=>if (a1.2==2) then ((rA a2.1 a2.2.1 a0.2).bind fun a3=>mG self a2 a0 ((aH (aH a2.2.1 1) (aH a1.1 a2.1)),1,a3)) else (mG self a2 a0 (a1.1,a1.2,a0.2))
def Ab (self:Int→Int→Int→(List Int)→Option ((List Int))):Int×Int×Int×Bool×Bool×(List Int)→Option (Int×Int×Int×Bool×Bool×(List Int) ⊕ (List Int)):=fun a0 =>
 if (decide ((aH a0.2.1 a0.1)≤12)) then ((pQ a0.1 a0.2.1 a0.2.2.2.2.2).bind fun a1=>some (.inr a1)) else (if (a0.2.2.1==0) then ((tK a0.1 a0.2.1 a0.2.2.2.2.2).bind fun a2=>some (.inr a2)) else (if (!a0.2.2.2.1) then ((pP a0.1 a0.2.1 a0.2.2.2.2.2).bind fun a3=>mI self a0 ((aH a0.2.2.1 1),a3)) else (mI self a0 (a0.2.2.1,a0.2.2.2.2.2))))
def qY (self:Int→Int→Int→(List Int)→Option ((List Int))) (a:Int) (b:Int) (limit:Int) (h0:(List Int)):Option ((List Int)):=
 (aL (Ab self) (a,b,limit,true,true,h0)).bind fun a0=>some a0
def gC:Nat→Int→Int→Int→(List Int)→Option ((List Int))
 | 0=>fun _ _ _ _=>none
 | n+1=>qY (gC n)
def tU (a:Int) (b:Int) (limit:Int) (h0:(List Int)):Option ((List Int)):=gC 1000 a b limit h0
def oX (h0:(List Int)):Option ((List Int)):=
 (Ja (IntKind.wrap .u64 (h0.length:Int))).bind fun r3=>(tU 0 (h0.length:Int) r3 h0).bind fun r4=>some r4
def kO (y:Int) (a_0:(List aF)) (a_1:(List aO)) (a_2:Int) (a_3:Int) (a_4:Int) (a_5:Int) (a_6:Int) (a_7:Int):Option (Bool):=
 (if (decide (y<a_3)) then (some true) else (some (decide (y>(aH (aJ a_3 a_5) a_7))))).bind fun j1=>some j1
def nD (s0:(List Int)) (f_0_0:(List aF)) (f_0_1:(List aO)) (f_0_2:Int) (f_0_3:Int) (f_0_4:Int) (f_0_5:Int) (f_0_6:Int) (f_0_7:Int):Int→Option (Int ⊕ (Int ⊕ Unit)):=fun a0 =>
 if (decide (a0<(s0.length:Int))) then ((idx s0 a0).bind fun a2=>(kO a2 f_0_0 f_0_1 f_0_2 f_0_3 f_0_4 f_0_5 f_0_6 f_0_7).bind fun a1=>if a1 then (some (.inr (.inl a0))) else (some (.inl (aJ a0 1)))) else (some (.inr (.inr (()))))
def gS (s0:(List Int)) (f_0_0:(List aF)) (f_0_1:(List aO)) (f_0_2:Int) (f_0_3:Int) (f_0_4:Int) (f_0_5:Int) (f_0_6:Int) (f_0_7:Int):Option (Int):=
 (aL (nD s0 f_0_0 f_0_1 f_0_2 f_0_3 f_0_4 f_0_5 f_0_6 f_0_7) 0).bind fun a1=>match a1 with | .inl a0=>some a0 | .inr a2=>some (-1)
def dB (a1:Int×Int×(List Int)):Int×(List Int)→Option (Int×Int×(List Int) ⊕ Int×(List Int)):=fun a0 =>
 some (.inl (a0.1,(aJ a1.2.1 1),a0.2))
def mZ (del_0_0:(List aF)) (del_0_1:(List aO)) (del_0_2:Int) (del_0_3:Int) (del_0_4:Int) (del_0_5:Int) (del_0_6:Int) (del_0_7:Int):Int×Int×(List Int)→Option (Int×Int×(List Int) ⊕ Int×(List Int)):=fun a0 =>
 if (decide (a0.2.1<(a0.2.2.length:Int))) then ((idx a0.2.2 a0.2.1).bind fun a1=>(kO a1 del_0_0 del_0_1 del_0_2 del_0_3 del_0_4 del_0_5 del_0_6 del_0_7).bind fun a2=>if (!a2) then ((idx a0.2.2 a0.1).bind fun a3=>dB a0 ((aJ a0.1 1),(List.set a0.2.2 (Int.toNat a0.1) a1))) else (dB a0 (a0.1,a0.2.2))) else (some (.inr (a0.1,a0.2.2)))
def cC (del_0_0:(List aF)) (del_0_1:(List aO)) (del_0_2:Int) (del_0_3:Int) (del_0_4:Int) (del_0_5:Int) (del_0_6:Int) (del_0_7:Int) (h380:(List Int)):Option ((List Int)):=
 (gS h380 del_0_0 del_0_1 del_0_2 del_0_3 del_0_4 del_0_5 del_0_6 del_0_7).bind fun r2=>if (r2==(-1)) then (some h380) else ((aL (mZ del_0_0 del_0_1 del_0_2 del_0_3 del_0_4 del_0_5 del_0_6 del_0_7) (r2,(aJ r2 1),h380)).bind fun a0=>if (decide ((0:Int)≤a0.1)&&(decide (a0.1≤(a0.2.length:Int))&&decide ((a0.2.length:Int)≤(a0.2.length:Int)))) then ((slc (cpy a0.2 (Int.toNat a0.1) (List.replicate (Int.toNat (a0.2.length:Int)-Int.toNat a0.1) 0)) 0 a0.1).bind fun a1=>some a1) else none)
def dU (a1:aO) (a2:aF):Int×(List Int)→Option (Int×(List Int) ⊕ (List Int)):=fun a0 =>
 if (decide (a0.1<([0,a1.gap].length:Int))) then ((idx [0,a1.gap] a0.1).bind fun a3=>(app a0.2 [(aH (aJ (aJ a1.aF.Y a1.aF.H) a3) a2.Y),(aH (aH (aH a1.aF.Y a3) a2.Y) a2.H)]).bind fun a4=>some (.inl ((aJ a0.1 1),a4))) else (some (.inr a0.2))
def jG (s0:dQ) (a1:aO):Int×(List Int)→Option (Int×(List Int) ⊕ (List Int)):=fun a0 =>
 if (decide (a0.1<(s0.jY.length:Int))) then ((idx s0.jY a0.1).bind fun a2=>(aL (dU a1 a2) (0,a0.2)).bind fun a3=>some (.inl ((aJ a0.1 1),a3))) else (some (.inr a0.2))
def jH (s0:dQ):Int×(List Int)→Option (Int×(List Int) ⊕ (List Int)):=fun a0 =>
 if (decide (a0.1<(s0.bH.length:Int))) then ((idx s0.bH a0.1).bind fun a1=>(aL (jG s0 a1) (0,a0.2)).bind fun a2=>some (.inl ((aJ a0.1 1),a2))) else (some (.inr a0.2))
def pX (s0:dQ):Option ((List Int)):=
 (aL (jH s0) (0,[s0.jZ.Y])).bind fun a3=>(oX a3).bind fun a0=>(qU a0).bind fun a1=>(cC s0.jY s0.bH s0.jZ.X s0.jZ.Y s0.jZ.W s0.jZ.H s0.w s0.h a1).bind fun a2=>some a2
def wZ (a:aE):Option (Bool):=
 some (decide ((aH a.hi a.lo)<2))
def mD (s0:(List aE)):Int→Option (Int ⊕ (Int ⊕ Unit)):=fun a0 =>
 if (decide (a0<(s0.length:Int))) then ((idx s0 a0).bind fun a2=>(wZ a2).bind fun a1=>if a1 then (some (.inr (.inl a0))) else (some (.inl (aJ a0 1)))) else (some (.inr (.inr (()))))
def gE (s0:(List aE)):Option (Int):=
 (aL (mD s0) 0).bind fun a1=>match a1 with | .inl a0=>some a0 | .inr a2=>some (-1)
def cT (a1:Int×Int×(List aE)):Int×(List aE)→Option (Int×Int×(List aE) ⊕ Int×(List aE)):=fun a0 =>
 some (.inl (a0.1,(aJ a1.2.1 1),a0.2))
def lU:Int×Int×(List aE)→Option (Int×Int×(List aE) ⊕ Int×(List aE)):=fun a0 =>
 if (decide (a0.2.1<(a0.2.2.length:Int))) then ((idx a0.2.2 a0.2.1).bind fun a1=>(wZ a1).bind fun a2=>if (!a2) then ((idx a0.2.2 a0.1).bind fun a3=>cT a0 ((aJ a0.1 1),(List.set a0.2.2 (Int.toNat a0.1) a1))) else (cT a0 (a0.1,a0.2.2))) else (some (.inr (a0.1,a0.2.2)))
def gA (h380:(List aE)):Option ((List aE)):=
 (gE h380).bind fun r2=>if (r2==(-1)) then (some h380) else ((aL (lU) (r2,(aJ r2 1),h380)).bind fun a0=>if (decide ((0:Int)≤a0.1)&&(decide (a0.1≤(a0.2.length:Int))&&decide ((a0.2.length:Int)≤(a0.2.length:Int)))) then ((slc (cpy a0.2 (Int.toNat a0.1) (List.replicate (Int.toNat (a0.2.length:Int)-Int.toNat a0.1) (aE.mk 0 0))) 0 a0.1).bind fun a1=>some a1) else none)
def vM (h380:(List aE)):Option ((List aE)):=
 (gA h380).bind fun r2=>some r2
def pU (o:aO) (r1:aF) (y:Int):Option ((List aE)):=
 (if (decide ((aJ r1.Y y)<(aJ o.aF.Y o.aF.H))) then (some (decide (o.aF.Y<(aJ (aJ r1.Y y) r1.H)))) else (some false)).bind fun j1=>(if (decide ((imax (imax 0 (aH (aH (aH o.aF.Y r1.Y) y) r1.H)) (aH (aH (aJ r1.Y y) o.aF.Y) o.aF.H)) ≥ o.gap)) then (some (decide ((imax (imax 0 (aH (aH (aH o.aF.Y r1.Y) y) r1.H)) (aH (aH (aJ r1.Y y) o.aF.Y) o.aF.H))>0))) else (some false)).bind fun a1=>if a1 then (some []) else ((if o.common then (some (j1,true)) else (some (false,false))).bind fun a0=>if a0.1 then ((vM [(aE.mk (aH (aH (aH o.aF.X r1.X) r1.W) o.gap) (aH (aH o.aF.X r1.X) r1.W)),(aE.mk (aH (aH o.aF.X r1.X) r1.W) (aH (aJ o.aF.X o.aF.W) r1.X)),(aE.mk (aH (aJ o.aF.X o.aF.W) r1.X) (aJ (aH (aJ o.aF.X o.aF.W) r1.X) o.gap))]).bind fun a4=>some a4) else ((if a0.2 then (some (((imax (imax 0 (aH (aH (aH o.aF.Y r1.Y) y) r1.H)) (aH (aH (aJ r1.Y y) o.aF.Y) o.aF.H))==0),true)) else (some (false,false))).bind fun a2=>if a2.1 then ((vM [(aE.mk (aH (aH (aH o.aF.X r1.X) r1.W) o.gap) (aH (aH o.aF.X r1.X) r1.W)),(aE.mk (aH (aJ o.aF.X o.aF.W) r1.X) (aJ (aH (aJ o.aF.X o.aF.W) r1.X) o.gap))]).bind fun a5=>some a5) else ((if ((imax (imax 0 (aH (aH (aH o.aF.Y r1.Y) y) r1.H)) (aH (aH (aJ r1.Y y) o.aF.Y) o.aF.H))==0) then (if (o.gap==0) then (some (!j1)) else (some false)) else (some false)).bind fun a3=>if a3 then (some []) else ((vM [(aE.mk (aH (aH (aH o.aF.X r1.X) r1.W) o.gap) (aJ (aH (aJ o.aF.X o.aF.W) r1.X) o.gap))]).bind fun a6=>some a6))))
def gJ (vals:(List Int)):Int→Option (Int ⊕ (Int ⊕ Unit)):=fun a0 =>
 if (decide (a0<(vals.length:Int))) then ((idx vals a0).bind fun a1=>if (a1 != 0) then (some (.inr (.inl a1))) else (some (.inl (aJ a0 1)))) else (some (.inr (.inr (()))))
def Ik (vals:(List Int)):Option (Int):=
 (aL (gJ vals) 0).bind fun a1=>match a1 with | .inl a0=>some a0 | .inr a2=>some 0
def bB (a:dL) (a1:aE) (b:aE):Option (Int):=
 (rL a1.lo b.lo).bind fun r7=>(rL a1.hi b.hi).bind fun r8=>(Ik [r7,r8]).bind fun r9=>some r9
def jQ (a:Int):Int×(List aE)→Option (Int×(List aE) ⊕ (List aE)):=fun a0 =>
 (if (decide (a0.1>a)) then ((idx a0.2 a0.1).bind fun a4=>(idx a0.2 (aH a0.1 1)).bind fun a5=>(bB (dL.mk ) a4 a5).bind fun a3=>some (decide (a3<0))) else (some false)).bind fun a2=>if a2 then ((idx a0.2 (aH a0.1 1)).bind fun a1=>(idx a0.2 a0.1).bind fun a6=>(idx a0.2 a0.1).bind fun a7=>(idx (List.set a0.2 (Int.toNat a0.1) a1) (aH a0.1 1)).bind fun a8=>some (.inl ((aH a0.1 1),(List.set (List.set a0.2 (Int.toNat a0.1) a1) (Int.toNat (aH a0.1 1)) a6)))) else (some (.inr a0.2))
def jR (a:Int) (b:Int):Int×(List aE)→Option (Int×(List aE) ⊕ (List aE)):=fun a0 =>
 if (decide (a0.1<b)) then ((aL (jQ a) (a0.1,a0.2)).bind fun a1=>some (.inl ((aJ a0.1 1),a1))) else (some (.inr a0.2))
def eP (a:Int) (b:Int) (h0:(List aE)):Option ((List aE)):=
 (aL (jR a b) ((aJ a 1),h0)).bind fun a0=>some a0
def cH (first:Int) (a0:Int×(List aE)):Int→Option (Int×(List aE) ⊕ ((List aE) ⊕ (List aE))):=fun a1 =>
 (idx a0.2 (aJ first a0.1)).bind fun a4=>(idx a0.2 (aJ first a1)).bind fun a5=>(bB (dL.mk ) a4 a5).bind fun a3=>if (!(decide (a3<0))) then (some (.inr (.inr a0.2))) else ((idx a0.2 (aJ first a1)).bind fun a2=>(idx a0.2 (aJ first a0.1)).bind fun a6=>(idx a0.2 (aJ first a0.1)).bind fun a7=>(idx (List.set a0.2 (Int.toNat (aJ first a0.1)) a2) (aJ first a1)).bind fun a8=>some (.inl (a1,(List.set (List.set a0.2 (Int.toNat (aJ first a0.1)) a2) (Int.toNat (aJ first a1)) a6))))
def lJ (hi:Int) (first:Int):Int×(List aE)→Option (Int×(List aE) ⊕ ((List aE) ⊕ (List aE))):=fun a0 =>
 if (decide ((aJ (eQ 2 a0.1) 1) ≥ hi)) then (some (.inr (.inl a0.2))) else ((if (decide ((aJ (aJ (eQ 2 a0.1) 1) 1)<hi)) then ((idx a0.2 (aJ first (aJ (eQ 2 a0.1) 1))).bind fun a3=>(idx a0.2 (aJ (aJ first (aJ (eQ 2 a0.1) 1)) 1)).bind fun a4=>(bB (dL.mk ) a3 a4).bind fun a2=>some (decide (a2<0))) else (some false)).bind fun a1=>if a1 then (cH first a0 (aJ (aJ (eQ 2 a0.1) 1) 1)) else (cH first a0 (aJ (eQ 2 a0.1) 1)))
def cZ (lo:Int) (hi:Int) (first:Int) (h0:(List aE)):Option ((List aE)):=
 (aL (lJ hi first) (lo,h0)).bind fun a2=>match a2 with | .inl a0=>some a0 | .inr a1=>some a1
def lF (a:Int) (b:Int):Int×(List aE)→Option (Int×(List aE) ⊕ (List aE)):=fun a0 =>
 if (decide (a0.1 ≥ 0)) then ((cZ a0.1 (aH b a) a a0.2).bind fun a1=>some (.inl ((aH a0.1 1),a1))) else (some (.inr a0.2))
def lG (a:Int):Int×(List aE)→Option (Int×(List aE) ⊕ (List aE)):=fun a0 =>
 if (decide (a0.1 ≥ 0)) then ((idx a0.2 (aJ a a0.1)).bind fun a1=>(idx a0.2 a).bind fun a3=>(idx a0.2 a).bind fun a4=>(idx (List.set a0.2 (Int.toNat a) a1) (aJ a a0.1)).bind fun a5=>(cZ 0 a0.1 a (List.set (List.set a0.2 (Int.toNat a) a1) (Int.toNat (aJ a a0.1)) a3)).bind fun a2=>some (.inl ((aH a0.1 1),a2))) else (some (.inr a0.2))
def fR (a:Int) (b:Int) (h0:(List aE)):Option ((List aE)):=
 (aL (lF a b) ((mP (aH (aH b a) 1) 2),h0)).bind fun a1=>(aL (lG a) ((aH (aH b a) 1),a1)).bind fun a0=>some a0
def bZ (a:Int) (a0:Int×Int×(List aE)):Int→Option (Int×Int×(List aE) ⊕ (List aE)):=fun a1 =>
 (idx a0.2.2 (aJ a a1)).bind fun a2=>(idx a0.2.2 a0.1).bind fun a3=>(idx a0.2.2 a0.1).bind fun a4=>(idx (List.set a0.2.2 (Int.toNat a0.1) a2) (aJ a a1)).bind fun a5=>some (.inl ((aJ a0.1 1),(fM .u64 (fM .u64 (fM .u64 a0.2.1 (IntKind.wrap .u64 (a0.2.1*2^(min (Int.toNat 13) 64)))) (Int.fdiv (fM .u64 a0.2.1 (IntKind.wrap .u64 (a0.2.1*2^(min (Int.toNat 13) 64)))) (2^(min (Int.toNat 7) 64)))) (IntKind.wrap .u64 ((fM .u64 (fM .u64 a0.2.1 (IntKind.wrap .u64 (a0.2.1*2^(min (Int.toNat 13) 64)))) (Int.fdiv (fM .u64 a0.2.1 (IntKind.wrap .u64 (a0.2.1*2^(min (Int.toNat 13) 64)))) (2^(min (Int.toNat 7) 64))))*2^(min (Int.toNat 17) 64)))),(List.set (List.set a0.2.2 (Int.toNat a0.1) a2) (Int.toNat (aJ a a1)) a3)))
def jM (a:Int) (b:Int) (r2:Int):Int×Int×(List aE)→Option (Int×Int×(List aE) ⊕ (List aE)):=fun a0 =>
 if (decide (a0.1≤(aJ (aJ a (eQ (mP (aH b a) 4) 2)) 1))) then ((tL a0.2.1).bind fun a1=>if (decide ((IntKind.wrap .i64 (Es .u64 a1 (IntKind.wrap .u64 (r2-1)))) ≥ (aH b a))) then (bZ a a0 (aH (IntKind.wrap .i64 (Es .u64 a1 (IntKind.wrap .u64 (r2-1)))) (aH b a))) else (bZ a a0 (IntKind.wrap .i64 (Es .u64 a1 (IntKind.wrap .u64 (r2-1)))))) else (some (.inr a0.2.2))
def eO (a:Int) (b:Int) (h0:(List aE)):Option ((List aE)):=
 if (decide ((aH b a) ≥ 8)) then ((sG (aH b a)).bind fun r2=>(aL (jM a b r2) ((aH (aJ a (eQ (mP (aH b a) 4) 2)) 1),(IntKind.wrap .u64 (aH b a)),h0)).bind fun a0=>some a0) else (some h0)
def bV (data:(List aE)) (a:Int) (b:Int) (h0_0:Int):Option (Int×Int×Int):=
 (idx data b).bind fun a1=>(idx data a).bind fun a2=>(bB (dL.mk ) a1 a2).bind fun a0=>if (decide (a0<0)) then (some (b,a,(aJ h0_0 1))) else (some (a,b,h0_0))
def dD (data:(List aE)) (a:Int) (b:Int) (c:Int) (h0_0:Int):Option (Int×Int):=
 (bV data a b h0_0).bind fun r2=>(bV data r2.2.1 c r2.2.2).bind fun r4=>(bV data r2.1 r4.1 r4.2.2).bind fun r6=>some (r6.2.1,r6.2.2)
def bI (data:(List aE)) (a:Int) (h0_0:Int):Option (Int×Int):=
 (dD data (aH a 1) a (aJ a 1) h0_0).bind fun r2=>some (r2.1,r2.2)
def cD:(Int×Int)→Option (Int×Int):=fun a0 =>
 if (a0.2==0) then (some (a0.1,1)) else (if (a0.2==12) then (some (a0.1,2)) else (some (a0.1,0)))
def cE (data:(List aE)):(Int×Int×Int×Int)→Option (Int×Int):=fun a0 =>
 (dD data a0.1 a0.2.1 a0.2.2.1 a0.2.2.2).bind fun a1=>cD (a1.1,a1.2)
def fC (data:(List aE)) (a:Int) (b:Int):Option (Int×Int):=
 if (decide ((aH b a) ≥ 8)) then (if (decide ((aH b a) ≥ 50)) then ((bI data (aJ a (eQ (mP (aH b a) 4) 1)) 0).bind fun a0=>(bI data (aJ a (eQ (mP (aH b a) 4) 2)) a0.2).bind fun a1=>(bI data (aJ a (eQ (mP (aH b a) 4) 3)) a1.2).bind fun a2=>cE data (a0.1,a1.1,a2.1,a2.2)) else (cE data ((aJ a (eQ (mP (aH b a) 4) 1)),(aJ a (eQ (mP (aH b a) 4) 2)),(aJ a (eQ (mP (aH b a) 4) 3)),0))) else (cD ((aJ a (eQ (mP (aH b a) 4) 2)),0))
def jW:Int×Int×(List aE)→Option (Int×Int×(List aE) ⊕ (List aE)):=fun a0 =>
 if (decide (a0.1<a0.2.1)) then ((idx a0.2.2 a0.2.1).bind fun a1=>(idx a0.2.2 a0.1).bind fun a2=>(idx a0.2.2 a0.1).bind fun a3=>(idx (List.set a0.2.2 (Int.toNat a0.1) a1) a0.2.1).bind fun a4=>some (.inl ((aJ a0.1 1),(aH a0.2.1 1),(List.set (List.set a0.2.2 (Int.toNat a0.1) a1) (Int.toNat a0.2.1) a2)))) else (some (.inr a0.2.2))
def eW (a:Int) (b:Int) (h0:(List aE)):Option ((List aE)):=
 (aL (jW) (a,(aH b 1),h0)).bind fun a0=>some a0
def bO (a1:Int×Int×(List aE)):Int×(List aE)→Option (Int×Int×(List aE) ⊕ (Bool×(List aE) ⊕ (List aE))):=fun a0 =>
 some (.inl (a0.1,(aJ a1.2.1 1),a0.2))
def gW (b:Int) (a1:Int×Int×(List aE)):Int→Option (Int ⊕ Int):=fun a0 =>
 (if (decide (a0<b)) then ((idx a1.2.2 a0).bind fun a4=>(idx a1.2.2 (aH a0 1)).bind fun a5=>(bB (dL.mk ) a4 a5).bind fun a3=>some (!(decide (a3<0)))) else (some false)).bind fun a2=>if a2 then (some (.inl (aJ a0 1))) else (some (.inr a0))
def gX (b:Int):Int×(List aE)→Option (Int×(List aE) ⊕ (List aE)):=fun a0 =>
 if (decide (a0.1<b)) then ((idx a0.2 a0.1).bind fun a3=>(idx a0.2 (aH a0.1 1)).bind fun a4=>(bB (dL.mk ) a3 a4).bind fun a2=>if (!(decide (a2<0))) then (some (.inr a0.2)) else ((idx a0.2 (aH a0.1 1)).bind fun a1=>(idx a0.2 a0.1).bind fun a5=>(idx a0.2 a0.1).bind fun a6=>(idx (List.set a0.2 (Int.toNat a0.1) a1) (aH a0.1 1)).bind fun a7=>some (.inl ((aJ a0.1 1),(List.set (List.set a0.2 (Int.toNat a0.1) a1) (Int.toNat (aH a0.1 1)) a5))))) else (some (.inr a0.2))
def bP (b:Int) (a2:Int×Int×(List aE)) (a0:Int):(List aE)→Option (Int×Int×(List aE) ⊕ (Bool×(List aE) ⊕ (List aE))):=fun a1 =>
 if (decide ((aH b a0) ≥ 2)) then ((aL (gX b) ((aJ a0 1),a1)).bind fun a3=>bO a2 (a0,a3)) else (bO a2 (a0,a1))
def gY:Int×(List aE)→Option (Int×(List aE) ⊕ (List aE)):=fun a0 =>
 if (decide (a0.1 ≥ 1)) then ((idx a0.2 a0.1).bind fun a3=>(idx a0.2 (aH a0.1 1)).bind fun a4=>(bB (dL.mk ) a3 a4).bind fun a2=>if (!(decide (a2<0))) then (some (.inr a0.2)) else ((idx a0.2 (aH a0.1 1)).bind fun a1=>(idx a0.2 a0.1).bind fun a5=>(idx a0.2 a0.1).bind fun a6=>(idx (List.set a0.2 (Int.toNat a0.1) a1) (aH a0.1 1)).bind fun a7=>some (.inl ((aH a0.1 1),(List.set (List.set a0.2 (Int.toNat a0.1) a1) (Int.toNat (aH a0.1 1)) a5))))) else (some (.inr a0.2))
def gZ (a:Int) (b:Int):Int×Int×(List aE)→Option (Int×Int×(List aE) ⊕ (Bool×(List aE) ⊕ (List aE))):=fun a0 =>
 if (decide (a0.2.1<5)) then ((aL (gW b a0) a0.1).bind fun a1=>if (a1==b) then (some (.inr (.inl (true,a0.2.2)))) else (if (decide ((aH b a)<50)) then (some (.inr (.inl (false,a0.2.2)))) else ((idx a0.2.2 (aH a1 1)).bind fun a2=>(idx a0.2.2 a1).bind fun a3=>(idx a0.2.2 a1).bind fun a5=>(idx (List.set a0.2.2 (Int.toNat a1) a2) (aH a1 1)).bind fun a6=>if (decide ((aH a1 a) ≥ 2)) then ((aL (gY) ((aH a1 1),(List.set (List.set a0.2.2 (Int.toNat a1) a2) (Int.toNat (aH a1 1)) a3))).bind fun a4=>bP b a0 a1 a4) else (bP b a0 a1 (List.set (List.set a0.2.2 (Int.toNat a1) a2) (Int.toNat (aH a1 1)) a3))))) else (some (.inr (.inr a0.2.2)))
def dK (a:Int) (b:Int) (h0:(List aE)):Option (Bool×(List aE)):=
 (aL (gZ a b) ((aJ a 1),0,h0)).bind fun a2=>match a2 with | .inl a0=>some (a0.1,a0.2) | .inr a1=>some (false,a1)
def iW (a:Int) (a1:Int×Int×(List aE)):Int→Option (Int ⊕ Int):=fun a0 =>
 (if (decide (a0≤a1.2.1)) then ((idx a1.2.2 a).bind fun a4=>(idx a1.2.2 a0).bind fun a5=>(bB (dL.mk ) a4 a5).bind fun a3=>some (!(decide (a3<0)))) else (some false)).bind fun a2=>if a2 then (some (.inl (aJ a0 1))) else (some (.inr a0))
def iX (a:Int) (a1:Int×Int×(List aE)) (a4:Int):Int→Option (Int ⊕ Int):=fun a0 =>
 (if (decide (a4≤a0)) then ((idx a1.2.2 a).bind fun a5=>(idx a1.2.2 a0).bind fun a6=>(bB (dL.mk ) a5 a6).bind fun a3=>some (decide (a3<0))) else (some false)).bind fun a2=>if a2 then (some (.inl (aH a0 1))) else (some (.inr a0))
def iY (a:Int):Int×Int×(List aE)→Option (Int×Int×(List aE) ⊕ Int×(List aE)):=fun a0 =>
 (aL (iW a a0) a0.1).bind fun a1=>(aL (iX a a0 a1) a0.2.1).bind fun a2=>if (decide (a1>a2)) then (some (.inr (a1,a0.2.2))) else ((idx a0.2.2 a2).bind fun a3=>(idx a0.2.2 a1).bind fun a4=>(idx a0.2.2 a1).bind fun a5=>(idx (List.set a0.2.2 (Int.toNat a1) a3) a2).bind fun a6=>some (.inl ((aJ a1 1),(aH a2 1),(List.set (List.set a0.2.2 (Int.toNat a1) a3) (Int.toNat a2) a4))))
def eM (a:Int) (b:Int) (pivot:Int) (h0:(List aE)):Option (Int×(List aE)):=
 (idx h0 pivot).bind fun x9=>(idx h0 a).bind fun a1=>(idx h0 a).bind fun a2=>(idx (List.set h0 (Int.toNat a) x9) pivot).bind fun a3=>(aL (iY a) ((aJ a 1),(aH b 1),(List.set (List.set h0 (Int.toNat a) x9) (Int.toNat pivot) a1))).bind fun a0=>some (a0.1,a0.2)
def kT (a:Int) (b:Int) (pivot:Int) (h0:(List aE)) (x9:aE) (a5:aE):Int→Option (Int ⊕ Int):=fun a0 =>
 (if (decide (a0≤(aH b 1))) then ((idx (List.set (List.set h0 (Int.toNat a) x9) (Int.toNat pivot) a5) a0).bind fun a3=>(idx (List.set (List.set h0 (Int.toNat a) x9) (Int.toNat pivot) a5) a).bind fun a4=>(bB (dL.mk ) a3 a4).bind fun a2=>some (decide (a2<0))) else (some false)).bind fun a1=>if a1 then (some (.inl (aJ a0 1))) else (some (.inr a0))
def kU (a:Int) (pivot:Int) (h0:(List aE)) (x9:aE) (a6:aE) (a3:Int):Int→Option (Int ⊕ Int):=fun a0 =>
 (if (decide (a3≤a0)) then ((idx (List.set (List.set h0 (Int.toNat a) x9) (Int.toNat pivot) a6) a0).bind fun a4=>(idx (List.set (List.set h0 (Int.toNat a) x9) (Int.toNat pivot) a6) a).bind fun a5=>(bB (dL.mk ) a4 a5).bind fun a2=>some (!(decide (a2<0)))) else (some false)).bind fun a1=>if a1 then (some (.inl (aH a0 1))) else (some (.inr a0))
def kV (a:Int) (a1:Int×Int×(List aE)):Int→Option (Int ⊕ Int):=fun a0 =>
 (if (decide (a0≤a1.2.1)) then ((idx a1.2.2 a0).bind fun a4=>(idx a1.2.2 a).bind fun a5=>(bB (dL.mk ) a4 a5).bind fun a3=>some (decide (a3<0))) else (some false)).bind fun a2=>if a2 then (some (.inl (aJ a0 1))) else (some (.inr a0))
def kW (a:Int) (a1:Int×Int×(List aE)) (a4:Int):Int→Option (Int ⊕ Int):=fun a0 =>
 (if (decide (a4≤a0)) then ((idx a1.2.2 a0).bind fun a5=>(idx a1.2.2 a).bind fun a6=>(bB (dL.mk ) a5 a6).bind fun a3=>some (!(decide (a3<0)))) else (some false)).bind fun a2=>if a2 then (some (.inl (aH a0 1))) else (some (.inr a0))
def kX (a:Int):Int×Int×(List aE)→Option (Int×Int×(List aE) ⊕ Int×(List aE)):=fun a0 =>
 (aL (kV a a0) a0.1).bind fun a1=>(aL (kW a a0 a1) a0.2.1).bind fun a2=>if (decide (a1>a2)) then (some (.inr (a2,a0.2.2))) else ((idx a0.2.2 a2).bind fun a3=>(idx a0.2.2 a1).bind fun a4=>(idx a0.2.2 a1).bind fun a5=>(idx (List.set a0.2.2 (Int.toNat a1) a3) a2).bind fun a6=>some (.inl ((aJ a1 1),(aH a2 1),(List.set (List.set a0.2.2 (Int.toNat a1) a3) (Int.toNat a2) a4))))
def fL (a:Int) (b:Int) (pivot:Int) (h0:(List aE)):Option (Int×Bool×(List aE)):=
 (idx h0 pivot).bind fun x9=>(idx h0 a).bind fun a3=>(idx h0 a).bind fun b6=>(idx (List.set h0 (Int.toNat a) x9) pivot).bind fun b7=>(aL (kT a b pivot h0 x9 a3) (aJ a 1)).bind fun a2=>(aL (kU a pivot h0 x9 a3 a2) (aH b 1)).bind fun a1=>if (decide (a2>a1)) then ((idx (List.set (List.set h0 (Int.toNat a) x9) (Int.toNat pivot) a3) a).bind fun a6=>(idx (List.set (List.set h0 (Int.toNat a) x9) (Int.toNat pivot) a3) a1).bind fun a8=>(idx (List.set (List.set h0 (Int.toNat a) x9) (Int.toNat pivot) a3) a1).bind fun b2=>(idx (List.set (List.set (List.set h0 (Int.toNat a) x9) (Int.toNat pivot) a3) (Int.toNat a1) a6) a).bind fun b3=>some (a1,true,(List.set (List.set (List.set (List.set h0 (Int.toNat a) x9) (Int.toNat pivot) a3) (Int.toNat a1) a6) (Int.toNat a) a8))) else ((idx (List.set (List.set h0 (Int.toNat a) x9) (Int.toNat pivot) a3) a1).bind fun a7=>(idx (List.set (List.set h0 (Int.toNat a) x9) (Int.toNat pivot) a3) a2).bind fun a9=>(idx (List.set (List.set h0 (Int.toNat a) x9) (Int.toNat pivot) a3) a2).bind fun b4=>(idx (List.set (List.set (List.set h0 (Int.toNat a) x9) (Int.toNat pivot) a3) (Int.toNat a2) a7) a1).bind fun b5=>(aL (kX a) ((aJ a2 1),(aH a1 1),(List.set (List.set (List.set (List.set h0 (Int.toNat a) x9) (Int.toNat pivot) a3) (Int.toNat a2) a7) (Int.toNat a1) a9))).bind fun a0=>(idx a0.2 a).bind fun a4=>(idx a0.2 a0.1).bind fun a5=>(idx a0.2 a0.1).bind fun b0=>(idx (List.set a0.2 (Int.toNat a0.1) a4) a).bind fun b1=>some (a0.1,false,(List.set (List.set a0.2 (Int.toNat a0.1) a4) (Int.toNat a) a5)))
def cM (self:Int→Int→Int→(List aE)→Option ((List aE))) (a1:Int×Int×Int×Bool×Bool×(List aE)) (a3:Int×(List aE)) (a4:Int×Int×(List aE)):Bool×Bool×(List aE)→Option (Int×Int×Int×Bool×Bool×(List aE) ⊕ (List aE)):=fun a2 =>
 (if (decide (a1.1>0)) then ((idx a2.2.2 (aH a1.1 1)).bind fun b0=>(idx a2.2.2 a4.1).bind fun b1=>(bB (dL.mk ) b0 b1).bind fun a7=>some (!(decide (a7<0)))) else (some false)).bind fun a6=>if a6 then ((eM a1.1 a1.2.1 a4.1 a2.2.2).bind fun a5=>some (.inl (a5.1,a1.2.1,a3.1,a2.1,a2.2.1,a5.2))) else ((fL a1.1 a1.2.1 a4.1 a2.2.2).bind fun a0=>if (decide ((aH a0.1 a1.1)<(aH a1.2.1 a0.1))) then ((self a1.1 a0.1 a3.1 a0.2.2).bind fun a8=>some (.inl ((aJ a0.1 1),a1.2.1,a3.1,(decide ((aH a0.1 a1.1) ≥ (mP (aH a1.2.1 a1.1) 8))),a0.2.1,a8))) else ((self (aJ a0.1 1) a1.2.1 a3.1 a0.2.2).bind fun a9=>some (.inl (a1.1,a0.1,a3.1,(decide ((aH a1.2.1 a0.1) ≥ (mP (aH a1.2.1 a1.1) 8))),a0.2.1,a9))))
def cN (self:Int→Int→Int→(List aE)→Option ((List aE))) (a3:Int×Int×Int×Bool×Bool×(List aE)) (a4:Int×(List aE)):Int×Int×(List aE)→Option (Int×Int×Int×Bool×Bool×(List aE) ⊕ (List aE)):=fun a0 =>
 (if a3.2.2.2.1 then (if a3.2.2.2.2.1 then (some (true,true,(a0.2.1==1))) else (some (true,false,false))) else (some (false,a3.2.2.2.2.1,false))).bind fun a1=>if a1.2.2 then ((dK a3.1 a3.2.1 a0.2.2).bind fun a2=>if a2.1 then (some (.inr a2.2)) else (cM self a3 a4 a0 (a1.1,a1.2.1,a2.2))) else (cM self a3 a4 a0 (a1.1,a1.2.1,a0.2.2))
def cO (self:Int→Int→Int→(List aE)→Option ((List aE))) (a2:Int×Int×Int×Bool×Bool×(List aE)):Int×(List aE)→Option (Int×Int×Int×Bool×Bool×(List aE) ⊕ (List aE)):=fun a0 =>
 (fC a0.2 a2.1 a2.2.1).bind fun a1=>if (a1.2==2) then ((eW a2.1 a2.2.1 a0.2).bind fun a3=>cN self a2 a0 ((aH (aH a2.2.1 1) (aH a1.1 a2.1)),1,a3)) else (cN self a2 a0 (a1.1,a1.2,a0.2))
def lQ (self:Int→Int→Int→(List aE)→Option ((List aE))):Int×Int×Int×Bool×Bool×(List aE)→Option (Int×Int×Int×Bool×Bool×(List aE) ⊕ (List aE)):=fun a0 =>
 if (decide ((aH a0.2.1 a0.1)≤12)) then ((eP a0.1 a0.2.1 a0.2.2.2.2.2).bind fun a1=>some (.inr a1)) else (if (a0.2.2.1==0) then ((fR a0.1 a0.2.1 a0.2.2.2.2.2).bind fun a2=>some (.inr a2)) else (if (!a0.2.2.2.1) then ((eO a0.1 a0.2.1 a0.2.2.2.2.2).bind fun a3=>cO self a0 ((aH a0.2.2.1 1),a3)) else (cO self a0 (a0.2.2.1,a0.2.2.2.2.2))))
def eU (self:Int→Int→Int→(List aE)→Option ((List aE))) (a:Int) (b:Int) (limit:Int) (h0:(List aE)):Option ((List aE)):=
 (aL (lQ self) (a,b,limit,true,true,h0)).bind fun a0=>some a0
def bF:Nat→Int→Int→Int→(List aE)→Option ((List aE))
 | 0=>fun _ _ _ _=>none
 | n+1=>eU (bF n)
def fX (a:Int) (b:Int) (limit:Int) (h0:(List aE)):Option ((List aE)):=bF 1000 a b limit h0
def bM (h0:(List aE)):Option ((List aE)):=
 (Ja (IntKind.wrap .u64 (h0.length:Int))).bind fun r3=>(fX 0 (h0.length:Int) r3 h0).bind fun r4=>some r4
def jF (s0:dQ) (y:Int) (a3:aO):Int×(List aE)→Option (Int×(List aE) ⊕ (List aE)):=fun a0 =>
 if (decide (a0.1<(s0.jY.length:Int))) then ((idx s0.jY a0.1).bind fun a4=>(pU a3 a4 y).bind fun a2=>(app a0.2 a2).bind fun a1=>some (.inl ((aJ a0.1 1),a1))) else (some (.inr a0.2))
def mT (s0:dQ) (y:Int):Int×(List aE)→Option (Int×(List aE) ⊕ (List aE)):=fun a0 =>
 if (decide (a0.1<(s0.bH.length:Int))) then ((idx s0.bH a0.1).bind fun a1=>(aL (jF s0 y a1) (0,a0.2)).bind fun a2=>some (.inl ((aJ a0.1 1),a2))) else (some (.inr a0.2))
def mN (s0:dQ) (y:Int):Option ((List aE)):=
 (aL (mT s0 y) (0,[])).bind fun a1=>(bM a1).bind fun a0=>some a0
def yJ (a1:Int×Bool×Int):(Int×Bool)→Option ((Int×Bool×Int) ⊕ (Int×Bool)):=fun a0 =>
 some (.inl (a0.1,a0.2,(aJ a1.2.2 1)))
def yL (l:(List aE)) (lo:Int) (hi:Int):(Int×Bool×Int)→Option ((Int×Bool×Int) ⊕ (Int×Bool)):=fun a0 =>
 if (decide (a0.2.2<(l.length:Int))) then ((idx l a0.2.2).bind fun a1=>(if (decide (a1.lo<a0.1)) then (some (decide (a0.1<a1.hi))) else (some false)).bind fun a2=>if a2 then (yJ a0 (a1.hi,true)) else (yJ a0 (a0.1,a0.2.1))) else (some (.inr (a0.1,a0.2.1)))
def yM (l:(List aE)) (lo:Int) (hi:Int):(Int×Bool)→Option ((Int×Bool) ⊕ Int):=fun a0 =>
 if a0.2 then ((aL (yL l lo hi) (a0.1,false,0)).bind fun a1=>some (.inl (a1.1,a1.2))) else (some (.inr a0.1))
def Bq (l:(List aE)) (lo:Int) (hi:Int):Option (Int×Bool):=
 (aL (yM l lo hi) (lo,true)).bind fun a0=>some (a0,(decide (a0≤hi)))
def oU (s0:dQ) (a4:(List Int)):Int→Option (Int ⊕ ((Int×Int) ⊕ Unit)):=fun a3 =>
 if (decide (a3<(a4.length:Int))) then ((idx a4 a3).bind fun a1=>(mN s0 a1).bind fun a2=>(Bq a2 s0.jZ.X (aH (aJ s0.jZ.X s0.jZ.W) s0.w)).bind fun a0=>if a0.2 then (some (.inr (.inl (a0.1,a1)))) else (some (.inl (aJ a3 1)))) else (some (.inr (.inr (()))))
def sN (s0:dQ):Option (Int×Int×Bool):=
 (if (decide (s0.w>s0.jZ.W)) then (some true) else (some (decide (s0.h>s0.jZ.H)))).bind fun j2=>if j2 then (some (0,0,false)) else ((pX s0).bind fun a3=>(aL (oU s0 a3) 0).bind fun a1=>match a1 with | .inl a0=>some (a0.1,a0.2,true) | .inr a2=>some (0,0,false))
def sZ (a1:Bool×Int×Int×Int×Int):(Bool×Int×Int×Int)→Option ((Bool×Int×Int×Int×Int) ⊕ (Bool×Int×Int×Int)):=fun a0 =>
 some (.inl (a0.1,(aJ a1.2.1 1),a0.2.1,a0.2.2.1,a0.2.2.2))
def yV (a2:aX×Int×ByteArray×ByteArray×Int×Int):(Int×Int×Int)→Option ((Int×Int×Int) ⊕ (Int×Int)):=fun a0 =>
 if (decide (a0.1<(a2.1.aD.length:Int))) then ((idx a2.1.aD a0.1).bind fun a1=>some (.inl ((aJ a0.1 1),(imax a0.2.1 (aJ a1.X a1.W)),(imax a0.2.2 (aJ a1.Y a1.H))))) else (some (.inr (a0.2.1,a0.2.2)))
def rE (s0:bU) (x2:aX) (a6:aF×Bool) (a7:(List aO)):(Bool×Int×Int×Int×Int)→Option ((Bool×Int×Int×Int×Int) ⊕ (Bool×Int×Int×Int)):=fun a0 =>
 if (decide (a0.2.1<4)) then ((iE x2 s0 a0.2.1).bind fun a5=>if (!a5) then (sZ a0 (a0.1,a0.2.2.1,a0.2.2.2.1,a0.2.2.2.2)) else ((tD x2 (aZ.mk 0 0 0 0 a0.2.1)).bind fun a2=>if (a2.2.1 != 0) then (sZ a0 (a0.1,a0.2.2.1,a0.2.2.2.1,a0.2.2.2.2)) else ((aL (yV a2) (0,0,0)).bind fun a4=>(sN (dQ.mk a2.1.aD a7 a6.1 a4.1 a4.2)).bind fun a1=>(if a1.2.2 then (if a0.1 then (if (decide (a1.2.1<a0.2.2.2.1)) then (some (true,true)) else (if (a1.2.1==a0.2.2.2.1) then (some (true,(decide (a1.1<a0.2.2.1)))) else (some (true,false)))) else (some (false,true))) else (some (a0.1,false))).bind fun a3=>if a3.2 then (sZ a0 (true,a1.1,a1.2.1,a0.2.1)) else (sZ a0 (a3.1,a0.2.2.1,a0.2.2.2.1,a0.2.2.2.2))))) else (some (.inr (a0.1,a0.2.2.1,a0.2.2.2.1,a0.2.2.2.2)))
def Dz (s0:bU) (taken:(List (List aF))) (x2:aX) (set3:bE):Option (aZ×Bool×Int×Int×Int×Int):=
 (nK s0).bind fun r4=>if (r4 != 0) then (some ((aZ.mk 0 0 0 0 0),false,r4,0,0,0)) else ((vG taken).bind fun r8=>if (r8 != 0) then (some ((aZ.mk 0 0 0 0 0),false,r8,0,0,0)) else ((bD x2).bind fun a1=>if (a1 != 0) then (some ((aZ.mk 0 0 0 0 0),false,a1,0,0,0)) else ((iG set3).bind fun a3=>if (!a3) then (some ((aZ.mk 0 0 0 0 0),false,1,0,0,0)) else ((vL s0 set3.aR).bind fun a2=>if (!a2.2) then (some ((aZ.mk 0 0 0 0 0),false,0,0,0,0)) else ((tT s0 taken set3).bind fun a4=>(aL (rE s0 x2 a2 a4) (false,0,0,0,0)).bind fun a0=>some ((aZ.mk 0 0 a0.2.1 a0.2.2.1 a0.2.2.2),a0.1,0,a0.2.1,a0.2.2.1,a0.2.2.2))))))
def gH (l:(List aF)) (hard:(List aF)) (a2:Int×(List Int)):Int×(List Int)→Option (Int×(List Int) ⊕ (List Int)):=fun a0 =>
 if (decide (a0.1<(hard.length:Int))) then ((idx hard a0.1).bind fun a3=>(idx hard a0.1).bind fun a4=>(idx l a2.1).bind fun a5=>(gK (aH (aJ a3.Y a4.H) a5.Y) a0.2).bind fun a1=>some (.inl ((aJ a0.1 1),a1))) else (some (.inr a0.2))
def gI (l:(List aF)) (soft:(List aF)) (set3:bE) (a2:Int×(List Int)):Int×(List Int)→Option (Int×(List Int) ⊕ (List Int)):=fun a0 =>
 if (decide (a0.1<(soft.length:Int))) then ((idx soft a0.1).bind fun a1=>(idx l a2.1).bind fun a6=>(gK (aH (aJ a1.Y a1.H) a6.Y) a0.2).bind fun a3=>(idx l a2.1).bind fun a7=>(gK (aH (aJ (aJ a1.Y a1.H) set3.Gap) a7.Y) a3).bind fun a4=>(idx l a2.1).bind fun a8=>(idx l a2.1).bind fun a9=>(gK (aH (aH a1.Y a8.H) a9.Y) a4).bind fun a5=>some (.inl ((aJ a0.1 1),a5))) else (some (.inr a0.2))
def jK (l:(List aF)) (hard:(List aF)) (soft:(List aF)) (set3:bE):Int×(List Int)→Option (Int×(List Int) ⊕ (List Int)):=fun a0 =>
 if (decide (a0.1<(l.length:Int))) then ((aL (gH l hard a0) (0,a0.2)).bind fun a1=>(aL (gI l soft set3 a0) (0,a1)).bind fun a2=>some (.inl ((aJ a0.1 1),a2))) else (some (.inr a0.2))
def qT (l:(List aF)) (hard:(List aF)) (soft:(List aF)) (set3:bE):Option ((List Int)):=
 (aL (jK l hard soft set3) (0,[set3.aR])).bind fun a0=>some a0
def mV (r0:aF) (o:aF) (y:Int) (set3:bE) (soft:Bool):(List aQ)→Option ((List aQ)):=fun j4 =>
 (if soft then (some (decide ((imax (imax 0 (aH (aH o.Y (aJ y r0.Y)) r0.H)) (aH (aH (aJ y r0.Y) o.Y) o.H)) ≥ set3.Gap))) else (some true)).bind fun j6=>if j6 then (some j4) else ((if set3.eN then (some (((imax (imax 0 (aH (aH o.Y (aJ y r0.Y)) r0.H)) (aH (aH (aJ y r0.Y) o.Y) o.H))==0),true)) else (some (false,false))).bind fun a0=>if a0.1 then ((app j4 [(aQ.mk (aH (aH (aH o.X r0.W) r0.X) set3.Gap) (aH (aH o.X r0.W) r0.X)),(aQ.mk (aH (aJ o.X o.W) r0.X) (aJ (aH (aJ o.X o.W) r0.X) set3.Gap))]).bind fun a1=>some a1) else ((app j4 [(aQ.mk (aH (aH (aH o.X r0.W) r0.X) set3.Gap) (aJ (aH (aJ o.X o.W) r0.X) set3.Gap))]).bind fun a2=>some a2))
def lD (r0:aF) (o:aF) (y:Int) (set3:bE) (soft:Bool):Option ((List aQ)):=
 (if (decide ((aJ y r0.Y)<(aJ o.Y o.H))) then (some (decide (o.Y<(aJ (aJ y r0.Y) r0.H)))) else (some false)).bind fun a0=>if a0 then ((app [] [(aQ.mk (aH (aH o.X r0.W) r0.X) (aH (aJ o.X o.W) r0.X))]).bind fun a1=>mV r0 o y set3 soft a1) else (mV r0 o y set3 soft [])
def gP (l:(List aF)) (hard:(List aF)) (set3:bE) (y:Int) (a3:Int×(List aQ)):Int×(List aQ)→Option (Int×(List aQ) ⊕ (List aQ)):=fun a0 =>
 if (decide (a0.1<(hard.length:Int))) then ((idx l a3.1).bind fun a4=>(idx hard a0.1).bind fun a5=>(lD a4 a5 y set3 false).bind fun a2=>(app a0.2 a2).bind fun a1=>some (.inl ((aJ a0.1 1),a1))) else (some (.inr a0.2))
def gQ (l:(List aF)) (soft:(List aF)) (set3:bE) (y:Int) (a3:Int×(List aQ)):Int×(List aQ)→Option (Int×(List aQ) ⊕ (List aQ)):=fun a0 =>
 if (decide (a0.1<(soft.length:Int))) then ((idx l a3.1).bind fun a4=>(idx soft a0.1).bind fun a5=>(lD a4 a5 y set3 true).bind fun a2=>(app a0.2 a2).bind fun a1=>some (.inl ((aJ a0.1 1),a1))) else (some (.inr a0.2))
def gR (l:(List aF)) (hard:(List aF)) (soft:(List aF)) (set3:bE) (y:Int):Int×(List aQ)→Option (Int×(List aQ) ⊕ (List aQ)):=fun a0 =>
 if (decide (a0.1<(l.length:Int))) then ((aL (gP l hard set3 y a0) (0,a0.2)).bind fun a1=>(aL (gQ l soft set3 y a0) (0,a1)).bind fun a2=>some (.inl ((aJ a0.1 1),a2))) else (some (.inr a0.2))
def oF (a1:Int×Bool×Int):(Int×Bool)→Option ((Int×Bool×Int) ⊕ (Int×Bool)):=fun a0 =>
 some (.inl (a0.1,a0.2,(aJ a1.2.2 1)))
def kG (a1:(List aQ)):(Int×Bool×Int)→Option ((Int×Bool×Int) ⊕ (Int×Bool)):=fun a0 =>
 if (decide (a0.2.2<(a1.length:Int))) then (((idx a1 a0.2.2).bind fun a3=>if (decide (a3.lo<a0.1)) then ((idx a1 a0.2.2).bind fun a4=>some (decide (a0.1<a4.hi))) else (some false)).bind fun a2=>if a2 then ((idx a1 a0.2.2).bind fun a5=>oF a0 (a5.hi,true)) else (oF a0 (a0.1,a0.2.1))) else (some (.inr (a0.1,a0.2.1)))
def kH (a2:(List aQ)):(Int×Bool)→Option ((Int×Bool) ⊕ Int):=fun a0 =>
 if a0.2 then ((aL (kG a2) (a0.1,false,0)).bind fun a1=>some (.inl (a1.1,a1.2))) else (some (.inr a0.1))
def mY (l:(List aF)) (hard:(List aF)) (soft:(List aF)) (set3:bE) (y:Int) (last:Int):Option (Int×Bool):=
 (aL (gR l hard soft set3 y) (0,[])).bind fun a1=>(aL (kH a1) (set3.aR,true)).bind fun a0=>some (a0,(decide (a0≤last)))
def iA (r2:aX×ByteArray×ByteArray×Int×Int):(Int×Int×Int)→Option ((Int×Int×Int) ⊕ (Int×Int)):=fun a0 =>
 if (decide (a0.2.2<(r2.1.aD.length:Int))) then ((idx r2.1.aD a0.2.2).bind fun a1=>(idx r2.1.aD a0.2.2).bind fun a2=>(idx r2.1.aD a0.2.2).bind fun a3=>(idx r2.1.aD a0.2.2).bind fun a4=>some (.inl ((imax a0.1 (aJ a1.X a2.W)),(imax a0.2.1 (aJ a3.Y a4.H)),(aJ a0.2.2 1)))) else (some (.inr (a0.1,a0.2.1)))
def pL (a0:Int):Unit→Option (Int ⊕ ((Int×Int) ⊕ Unit)):=fun a1 =>
 some (.inl (aJ a0 1))
def lE (s2:bU) (soft:(List aF)) (set4:bE) (r2:aX×ByteArray×ByteArray×Int×Int) (a3:Int×Int) (a5:(List aF)) (a1:(List Int)):Int→Option (Int ⊕ ((Int×Int) ⊕ Unit)):=fun a0 =>
 if (decide (a0<(a1.length:Int))) then (((idx a1 a0).bind fun a6=>if (decide (a6<set4.aR)) then (some true) else ((idx a1 a0).bind fun a7=>some (decide (a7>(aH (aH s2.bJ set4.aR) a3.2))))).bind fun a4=>if a4 then (pL a0 ()) else ((idx a1 a0).bind fun a8=>(mY r2.1.aD a5 soft set4 a8 (aH (aH s2.cQ set4.aR) a3.1)).bind fun a2=>if a2.2 then ((idx a1 a0).bind fun a9=>some (.inr (.inl (a2.1,a9)))) else (pL a0 ()))) else (some (.inr (.inr (()))))
def sF (x0:aX) (turn:Int) (s2:bU) (soft:(List aF)) (set4:bE):Option (aZ×Bool×Int×Int×Int):=
 (jI x0 turn).bind fun r2=>(aL (iA r2) (0,0,0)).bind fun a4=>(app [] s2.aY).bind fun a2=>(app a2 s2.Used).bind fun a1=>(qT r2.1.aD a1 soft set4).bind fun a3=>(aL (lE s2 soft set4 r2 a4 a1 a3) 0).bind fun a5=>match a5 with | .inl a0=>some ((aZ.mk 0 0 a0.1 a0.2 turn),true,a0.1,a0.2,turn) | .inr a6=>some ((aZ.mk 0 0 0 0 0),false,0,0,0)
def jJ (a1:Bool×Int×Int×Int×Int×Int×Int):(Bool×Int×Int×Int×Int×Int)→Option ((Bool×Int×Int×Int×Int×Int×Int) ⊕ (Bool×Int×Int×Int×Int×Int)):=fun a0 =>
 some (.inl (a0.1,(aJ a1.2.1 1),a0.2.1,a0.2.2.1,a0.2.2.2.1,a0.2.2.2.2.1,a0.2.2.2.2.2))
def eB (s0:bU) (soft:(List aF)) (x2:aX) (set3:bE):(Bool×Int×Int×Int×Int×Int×Int)→Option ((Bool×Int×Int×Int×Int×Int×Int) ⊕ (Bool×Int×Int×Int×Int×Int)):=fun a0 =>
 if (decide (a0.2.1<4)) then ((qQ x2 s0 a0.2.1).bind fun a3=>if (!a3) then (jJ a0 (a0.1,a0.2.2.1,a0.2.2.2.1,a0.2.2.2.2.1,a0.2.2.2.2.2.1,a0.2.2.2.2.2.2)) else ((sF x2 a0.2.1 s0 soft set3).bind fun a1=>(if a1.2.1 then (if a0.1 then (if (decide (a1.1.Y<a0.2.2.2.2.2.1)) then (some (true,true)) else (if (a1.1.Y==a0.2.2.2.2.2.1) then (some (true,(decide (a1.1.X<a0.2.2.2.2.1)))) else (some (true,false)))) else (some (false,true))) else (some (a0.1,false))).bind fun a2=>if a2.2 then (jJ a0 (true,a1.1.aX,a1.1.bU,a1.1.X,a1.1.Y,a1.1.zY)) else (jJ a0 (a2.1,a0.2.2.1,a0.2.2.2.1,a0.2.2.2.2.1,a0.2.2.2.2.2.1,a0.2.2.2.2.2.2)))) else (some (.inr (a0.1,a0.2.2.1,a0.2.2.2.1,a0.2.2.2.2.1,a0.2.2.2.2.2.1,a0.2.2.2.2.2.2)))
def tZ (s0:bU) (soft:(List aF)) (x2:aX) (set3:bE):Option (aZ×Bool×Int×Int×Int×Int×Int):=
 (aL (eB s0 soft x2 set3) (false,0,0,0,0,0,0)).bind fun a0=>some ((aZ.mk a0.2.1 a0.2.2.1 a0.2.2.2.1 a0.2.2.2.2.1 a0.2.2.2.2.2),a0.1,a0.2.1,a0.2.2.1,a0.2.2.2.1,a0.2.2.2.2.1,a0.2.2.2.2.2)
def fJ (taken:(List (List aF))):Int×(List aF)→Option (Int×(List aF) ⊕ Unit ⊕ (List aF)):=fun a0 =>
 if (decide (a0.1<(taken.length:Int))) then ((idx taken a0.1).bind fun a2=>if (decide ((a2.length:Int)>12)) then (some (.inr (.inl ()))) else ((idx taken a0.1).bind fun a3=>(app a0.2 a3).bind fun a1=>some (.inl ((aJ a0.1 1),a1)))) else (some (.inr (.inr a0.2)))
def Af (s0:bU) (taken:(List (List aF))) (x2:aX) (set3:bE):Option (aZ×Bool×Int×Int×Int×Int×Int×Int):=
 (lO s0).bind fun r2=>if (r2 != 0) then (some ((aZ.mk 0 0 0 0 0),false,r2,0,0,0,0,0)) else (if (decide ((taken.length:Int)>8)) then (some ((aZ.mk 0 0 0 0 0),false,4,0,0,0,0,0)) else ((aL (fJ taken) (0,[])).bind fun a5=>match a5 with | .inl a6=>some ((aZ.mk 0 0 0 0 0),false,4,0,0,0,0,0) | .inr a1=>(dV a1).bind fun a3=>if (!a3) then (some ((aZ.mk 0 0 0 0 0),false,1,0,0,0,0,0)) else ((lN x2).bind fun a2=>if (a2 != 0) then (some ((aZ.mk 0 0 0 0 0),false,a2,0,0,0,0,0)) else ((gV set3).bind fun a4=>if (!a4) then (some ((aZ.mk 0 0 0 0 0),false,1,0,0,0,0,0)) else ((tZ s0 a1 x2 set3).bind fun a0=>some ((aZ.mk a0.1.aX a0.1.bU a0.1.X a0.1.Y a0.1.zY),a0.2.1,0,a0.1.aX,a0.1.bU,a0.1.X,a0.1.Y,a0.1.zY))))))
def nV (a w b v:Int):Int:=max 0 (max (b-a-w) (a-b-v))
def ovI (a w b v:Int):Prop:=a<b+v∧b<a+w
instance (a w b v:Int):Decidable (ovI a w b v):=by unfold ovI;infer_instance
def En (g:Int) (c:Bool) (r o:aF) (x y:Int):Prop:=
 (ovI (x+r.X) r.W o.X o.W∧ovI (y+r.Y) r.H o.Y o.H)∨(max (nV (x+r.X) r.W o.X o.W) (nV (y+r.Y) r.H o.Y o.H)<g∧¬ (c=true∧max (nV (x+r.X) r.W o.X o.W) (nV (y+r.Y) r.H o.Y o.H)=0))
def pN (g:Int) (c:Bool) (soft:Bool) (r o:aF) (y:Int):List (Int×Int):=
 (if ovI (y+r.Y) r.H o.Y o.H then [(o.X-r.W-r.X,o.X+o.W-r.X)] else []) ++
 (if soft=false∨g≤nV (y+r.Y) r.H o.Y o.H then [] else if c=true∧nV (y+r.Y) r.H o.Y o.H=0 then [(o.X-r.W-r.X-g,o.X-r.W-r.X),(o.X+o.W-r.X,o.X+o.W-r.X+g)] else [(o.X-r.W-r.X-g,o.X+o.W-r.X+g)])
def uA (g:Int) (c:Bool) (r o:aF) (y:Int):List (Int×Int):=
 if g≤nV (y+r.Y) r.H o.Y o.H∧0<nV (y+r.Y) r.H o.Y o.H then []
 else if c=true∧ovI (y+r.Y) r.H o.Y o.H then [(o.X-r.X-r.W-g,o.X-r.X-r.W),(o.X-r.X-r.W,o.X+o.W-r.X),(o.X+o.W-r.X,o.X+o.W-r.X+g)]
 else if c=true∧nV (y+r.Y) r.H o.Y o.H=0 then [(o.X-r.X-r.W-g,o.X-r.X-r.W),(o.X+o.W-r.X,o.X+o.W-r.X+g)]
 else if nV (y+r.Y) r.H o.Y o.H=0∧g=0∧¬ ovI (y+r.Y) r.H o.Y o.H then []
 else [(o.X-r.X-r.W-g,o.X+o.W-r.X+g)]
def inS (l:List (Int×Int)) (x:Int):Prop:=∃ s ∈ l,s.1<x∧x<s.2
theorem tR (x:Int):inS [] x↔False:=by unfold inS;simp
theorem wV (s:Int×Int) (l:List (Int×Int)) (x:Int):inS (s::l) x↔(s.1<x∧x<s.2)∨inS l x:=by unfold inS;simp
theorem Ny (a b:List (Int×Int)) (x:Int):inS (a++b) x↔inS a x∨inS b x:=by
 unfold inS
 constructor
 ·rintro ⟨s,hs,h⟩
  rcases List.mem_append.1 hs with q | q
  ·exact .inl ⟨s,q,h⟩
  ·exact .inr ⟨s,q,h⟩
 ·rintro (⟨s,hs,h⟩ | ⟨s,hs,h⟩)
  ·exact ⟨s,List.mem_append_left _ hs,h⟩
  ·exact ⟨s,List.mem_append_right _ hs,h⟩
theorem Ul (l:List (Int×Int)) (x:Int):inS (l.filter fun s=>!decide (s.2-s.1<2)) x↔inS l x:=by
 unfold inS
 constructor
 ·rintro ⟨s,hs,h⟩;exact ⟨s,(List.mem_filter.1 hs).1,h⟩
 ·rintro ⟨s,hs,h⟩
  refine ⟨s,List.mem_filter.2 ⟨hs, ?_⟩,h⟩
  have:¬ s.2-s.1<2:=by omega
  simp [this]
theorem Lj {g:Int} {c:Bool} {r o:aF} (hg:0≤g) (hr:0<r.W) (ho:0<o.W) (hr':0<r.H) (ho':0<o.H) (x y:Int):inS (pN g c true r o y) x↔En g c r o x y:=by
 unfold pN En
 rw [Ny]
 by_cases h1:ovI (y+r.Y) r.H o.Y o.H
 ·rw [if_pos h1]
  by_cases h2:g≤nV (y+r.Y) r.H o.Y o.H
  ·rw [if_pos (.inr h2)]
   simp only [wV,tR,h1,and_true,or_false]
   unfold ovI nV at *
   omega
  ·rw [if_neg (by simpa using h2)]
   by_cases h3:c=true∧nV (y+r.Y) r.H o.Y o.H=0
   ·rw [if_pos h3]
    simp only [wV,tR,h1,h3.1,and_true,or_false,true_and]
    unfold ovI nV at *
    omega
   ·rw [if_neg h3]
    have h4:c=false:=by
     rcases Bool.eq_false_or_eq_true c with q | q
     ·refine absurd ⟨q, ?_⟩ h3
      unfold ovI nV at *;omega
     ·exact q
    simp only [wV,tR,h1,h4,and_true,or_false,Bool.false_eq_true,false_and,not_false_eq_true]
    unfold ovI nV at *
    omega
 ·rw [if_neg h1]
  by_cases h2:g≤nV (y+r.Y) r.H o.Y o.H
  ·rw [if_pos (.inr h2)]
   simp only [tR,h1,and_false,false_or,false_iff]
   unfold ovI nV at *
   omega
  ·rw [if_neg (by simpa using h2)]
   by_cases h3:c=true∧nV (y+r.Y) r.H o.Y o.H=0
   ·rw [if_pos h3]
    simp only [wV,tR,h1,h3.1,and_false,false_or,or_false,true_and]
    unfold ovI nV at *
    omega
   ·rw [if_neg h3]
    simp only [wV,tR,h1,and_false,false_or,or_false]
    cases c
    ·simp only [Bool.false_eq_true,false_and,not_false_eq_true,and_true]
     unfold ovI nV at *
     omega
    ·simp only [true_and] at h3 ⊢
     unfold ovI nV at *
     omega
theorem Li {g:Int} {c:Bool} {r o:aF} (hr:0<r.W) (ho:0<o.W) (x y:Int):inS (pN g c false r o y) x↔En 0 false r o x y:=by
 unfold pN En
 have hf:(false=false∨g≤nV (y+r.Y) r.H o.Y o.H):=Or.inl rfl
 rw [Ny,if_pos hf]
 by_cases h1:ovI (y+r.Y) r.H o.Y o.H
 ·rw [if_pos h1]
  simp only [wV,tR,h1,and_true,or_false,Bool.false_eq_true,false_and,not_false_eq_true]
  unfold ovI nV at *
  omega
 ·rw [if_neg h1]
  simp only [tR,h1,and_false,false_or,or_false,Bool.false_eq_true,false_and,not_false_eq_true,and_true,false_iff]
  unfold nV
  omega
theorem Vr {g:Int} {c:Bool} {r o:aF} (hg:0≤g) (hr:0<r.W) (ho:0<o.W) (hr':0<r.H) (ho':0<o.H) (x y:Int):inS (uA g c r o y) x↔En g c r o x y:=by
 unfold uA En
 split
 ·rename_i h
  simp only [tR,false_iff]
  unfold ovI nV at *
  omega
 ·split
  ·rename_i h0 h
   simp only [wV,tR,h.1,h.2,or_false,and_true,true_and]
   unfold ovI nV at *
   omega
  ·split
   ·rename_i h0 h1 h
    have h2:¬ ovI (y+r.Y) r.H o.Y o.H:=fun q=>h1 ⟨h.1,q⟩
    simp only [wV,tR,h.1,h2,or_false,and_false,false_or,true_and]
    unfold ovI nV at *
    omega
   ·split
    ·rename_i h0 h1 h2 h
     simp only [tR,false_iff]
     unfold ovI nV at *
     omega
    ·rename_i h0 h1 h2 h
     simp only [wV,tR,or_false]
     cases c
     ·simp only [Bool.false_eq_true,false_and,not_false_eq_true,and_true]
      unfold ovI nV at *
      omega
     ·simp only [true_and] at *
      unfold ovI nV at *
      omega
theorem GY {g:Int} {c:Bool} {r o:aF} (hg:0≤g) (hr:0<r.W) (ho:0<o.W) (hr':0<r.H) (ho':0<o.H) {x y:Int} (h1:En g c r o x (y-1)) (h2:¬ En g c r o x y) :
  y=o.Y+o.H-r.Y∨y=o.Y+o.H+g-r.Y∨(c=true∧y=o.Y-r.H-r.Y):=by
 unfold En ovI nV at *
 cases c
 ·simp only [Bool.false_eq_true,false_and,not_false_eq_true,and_true,or_false] at *
  omega
 ·simp only [true_and] at *
  omega
def Fe (l:List aF) (obs:List (aF×Int×Bool)) (m hx hy:Int) (x y:Int):Prop:=
 m≤x∧x≤hx∧m≤y∧y≤hy∧∀ o ∈ obs,∀ r ∈ l,¬ En o.2.1 o.2.2 r o.1 x y
def EL (l:List aF) (obs:List (aF×Int×Bool)) (ys:List Int):Prop:=
 ∀ o ∈ obs,∀ r ∈ l,o.1.Y+o.1.H-r.Y ∈ ys∧o.1.Y+o.1.H+o.2.1-r.Y ∈ ys∧(o.2.2=true→o.1.Y-r.H-r.Y ∈ ys)
def EM (obs:List (aF×Int×Bool)):Prop:=∀ o ∈ obs,0<o.1.W∧0<o.1.H∧0≤o.2.1
def EN (l:List aF):Prop:=∀ r ∈ l,0<r.W∧0<r.H
theorem down {l:List aF} {obs:List (aF×Int×Bool)} {m hx hy:Int} (pl:EN l) (po:EM obs) {ys:List Int} (hm:m ∈ ys) (hc:EL l obs ys):∀ (n:Nat) (x y:Int),(y-m).toNat≤n→Fe l obs m hx hy x y→∃ y' ∈ ys,y'≤y∧Fe l obs m hx hy x y'
 | 0,x,y,hn,h=>⟨m,hm,by have:=h.2.2.1;omega,by have:=h.2.2.1;rw [show m=y by omega];rw [show m=y by omega] at h;exact h⟩
 | n+1,x,y,hn,h=>by
   rcases Classical.em (y=m) with e | e
   ·subst e;exact ⟨y,hm,Int.le_refl y,h⟩
   rcases Classical.em (Fe l obs m hx hy x (y-1)) with f | f
   ·obtain ⟨y',h1,h2,h3⟩:=down pl po hm hc n x (y-1) (by omega) f
    exact ⟨y',h1,by omega,h3⟩
   ·obtain ⟨a1,a2,a3,a4,a5⟩:=h
    have:∃ o ∈ obs,∃ r ∈ l,En o.2.1 o.2.2 r o.1 x (y-1):=by
     refine Classical.byContradiction fun q=>f ⟨a1,a2,by omega,by omega,fun o ho r hr hb=>q ⟨o,ho,r,hr,hb⟩⟩
    obtain ⟨o,ho,r,hr,hb⟩:=this
    obtain ⟨p1,p2,p3⟩:=po o ho
    obtain ⟨r1,r2⟩:=pl r hr
    obtain ⟨c1,c2,c3⟩:=hc o ho r hr
    refine ⟨y, ?_,Int.le_refl y,a1,a2,a3,a4,a5⟩
    rcases GY p3 r1 p1 r2 p2 hb (a5 o ho r hr) with e | e | ⟨e',e⟩
    ·rw [e];exact c1
    ·rw [e];exact c2
    ·rw [e];exact c3 e'
def Lst (P:Int→Int→Prop):Option (Int×Int)→Prop
 | none=>∀ x y,¬ P x y
 | some p=>P p.1 p.2∧∀ x y,P x y→p.2<y∨(p.2=y∧p.1≤x)
theorem Ob {P:Int→Int→Prop} {a b:Option (Int×Int)} (ha:Lst P a) (hb:Lst P b):a=b:=by
 cases a with
 | none=>cases b with
   | none=>rfl
   | some q=>exact absurd hb.1 (ha _ _)
 | some p=>cases b with
   | none=>exact absurd ha.1 (hb _ _)
   | some q =>
     have h1:=ha.2 _ _ hb.1
     have h2:=hb.2 _ _ ha.1
     congr 1
     obtain ⟨p1,p2⟩:=p
     obtain ⟨q1,q2⟩:=q
     simp only at h1 h2
     rw [Prod.mk.injEq]
     omega
def Ho (l:List (Int×Int)) (m x:Int):Prop:=m≤x∧¬ inS l x∧∀ z,m≤z→z<x→inS l z
theorem Rc {l l':List (Int×Int)} (h:∀ x,inS l x↔inS l' x) {m x x':Int} (h1:Ho l m x) (h2:Ho l' m x'):x=x':=by
 obtain ⟨a1,a2,a3⟩:=h1
 obtain ⟨b1,b2,b3⟩:=h2
 rcases Int.lt_or_le x x' with q | q
 ·exact absurd ((h x).2 (b3 x a1 q)) a2
 ·rcases Int.lt_or_le x' x with r | r
  ·exact absurd ((h x').1 (a3 x' b1 r)) b2
  ·omega
def scan (f:Int→Int) (hx:Int):List Int→Option (Int×Int)
 | []=>none
 | y::t=>if f y≤hx then some (f y,y) else scan f hx t
theorem Qr {f:Int→Int} {hx:Int}:∀ {ys:List Int} {p:Int×Int},ys.Pairwise (fun a b=>a<b)→scan f hx ys=some p→p.2 ∈ ys∧p.1=f p.2∧f p.2≤hx∧∀ y ∈ ys,y<p.2→¬ f y≤hx
 | [],p,_,h=>by cases h
 | y::t,p,hp,h=>by
   unfold scan at h
   have hh:=List.pairwise_cons.1 hp
   split at h
   ·rename_i q
    injection h with h;subst h
    exact ⟨List.mem_cons_self,rfl,q,fun z hz hl=>by
     rcases List.mem_cons.1 hz with e | e
     ·simp only at hl;omega
     ·have:=hh.1 z e;simp only at hl;omega⟩
   ·rename_i q
    obtain ⟨a1,a2,a3,a4⟩:=Qr hh.2 h
    refine ⟨List.mem_cons_of_mem _ a1,a2,a3,fun z hz hl=>?_⟩
    rcases List.mem_cons.1 hz with e | e
    ·rw [e];exact q
    ·exact a4 z e hl
theorem Qq {f:Int→Int} {hx:Int}:∀ {ys:List Int},scan f hx ys=none→∀ y ∈ ys,¬ f y≤hx
 | [],_,y,hy=>by cases hy
 | z::t,h,y,hy=>by
   unfold scan at h
   split at h
   ·cases h
   ·rename_i q
    rcases List.mem_cons.1 hy with e | e
    ·rw [e];exact q
    ·exact Qq h y e
theorem Tm {l:List aF} {obs:List (aF×Int×Bool)} {m hx hy:Int} (pl:EN l) (po:EM obs) {ys:List Int} (ha:ys.Pairwise fun a b=>a<b) (hm:m ∈ ys) (hc:EL l obs ys) {f:Int→Int}
  {sp:Int→List (Int×Int)} (hf:∀ y,m≤y→y≤hy→Ho (sp y) m (f y)) (hs:∀ x y,inS (sp y) x↔∃ o ∈ obs,∃ r ∈ l,En o.2.1 o.2.2 r o.1 x y) :
  Lst (Fe l obs m hx hy) (scan f hx (ys.filter fun y=>decide (m≤y)&&decide (y≤hy))):=by
 have mem:∀ y,y ∈ (ys.filter fun y=>decide (m≤y)&&decide (y≤hy))↔y ∈ ys∧m≤y∧y≤hy:=fun y=>by
  rw [List.mem_filter,Bool.and_eq_true,decide_eq_true_eq,decide_eq_true_eq]
 have fe:∀ y,m≤y→y≤hy→f y≤hx→Fe l obs m hx hy (f y) y:=fun y h1 h2 h3=>by
  obtain ⟨a1,a2,a3⟩:=hf y h1 h2
  exact ⟨a1,h3,h1,h2,fun o ho r hr hb=>a2 ((hs _ _).2 ⟨o,ho,r,hr,hb⟩)⟩
 have fm:∀ x y,Fe l obs m hx hy x y→f y≤x:=fun x y h=>by
  obtain ⟨h1,h2,h3,h4,h5⟩:=h
  obtain ⟨a1,a2,a3⟩:=hf y h3 h4
  rcases Int.lt_or_le x (f y) with q | q
  ·obtain ⟨o,ho,r,hr,hb⟩:=(hs _ _).1 (a3 x h1 q)
   exact absurd hb (h5 o ho r hr)
  ·exact q
 have dn:∀ x y,Fe l obs m hx hy x y→∃ y',y' ∈ (ys.filter fun y=>decide (m≤y)&&decide (y≤hy))∧y'≤y∧f y'≤hx:=fun x y h=>by
  obtain ⟨y',h1,h2,h3⟩:=down pl po hm hc _ x y (Nat.le_refl _) h
  exact ⟨y',(mem y').2 ⟨h1,h3.2.2.1,h3.2.2.2.1⟩,h2,Int.le_trans (fm x y' h3) h3.2.1⟩
 cases e:scan f hx (ys.filter fun y=>decide (m≤y)&&decide (y≤hy)) with
 | none =>
   intro x y h
   obtain ⟨y',h1,_,h3⟩:=dn x y h
   exact Qq e y' h1 h3
 | some p =>
   obtain ⟨a1,a2,a3,a4⟩:=Qr (ha.filter _) e
   obtain ⟨_,b1,b2⟩:=(mem _).1 a1
   refine ⟨by rw [a2];exact fe _ b1 b2 a3,fun x y h=>?_⟩
   rcases Int.lt_or_le y p.2 with q | q
   ·obtain ⟨y',h1,h2,h3⟩:=dn x y h
    exact absurd h3 (a4 y' h1 (by omega))
   ·rcases Int.lt_or_le p.2 y with r | r
    ·exact .inl r
    ·have:p.2=y:=by omega
     refine .inr ⟨this, ?_⟩
     rw [a2,this];exact fm x y h
set_option maxRecDepth 10000
theorem DU (h:List Int):oX h=Co (brL dA) h:=by kernel_rfl
theorem KH (x y:Int):dA x y=some (decide (x<y)):=by
 unfold dA pF
 have e:∀ z:Int,(z != z)=false:=fun z=>by simp
 simp only [e,Option.bind_some,Bool.false_eq_true,if_false]
theorem brO (β:Type) (x y:Int) (k:Bool→Option β):brL dA β x y k=k (ltI x y):=by
 unfold brL ltI
 rw [KH,Option.bind_some]
theorem DV {l:List Int} (hl:l.length≤1073741824):∃ r,oX l=some r∧r.Perm l∧r.Pairwise fun x y=>ltI y x=false:=by
 rw [DU]
 exact Lh (P:=fun _=>True) (d:=0) (fun β x y k _ _=>brO β x y k) HY ⟨by omega,fun _ _ _=>trivial⟩
theorem DW (h:List aE):bM h=Co (brC (bB dL.mk)) h:=by kernel_rfl
def ltS (x y:aE):Bool:=decide (x.lo<y.lo∨(x.lo=y.lo∧x.hi<y.hi))
theorem LB:Ki ltS where
 asymm x y h:=by unfold ltS at *;simp at *;omega
 neg x y z h:=by unfold ltS at *;simp at *;omega
theorem LG (x y:aE):bB dL.mk x y=some (if x.lo<y.lo then -1 else if y.lo<x.lo then 1 else if x.hi<y.hi then -1 else if y.hi<x.hi then 1 else 0):=by
 unfold bB Ik
 simp only [LF,Option.bind_some]
 have key:∀ a b:Int,aL (gJ [a,b]) 0=some (if a≠0 then .inl a else if b≠0 then .inl b else .inr ()):=fun a b=>by
  have h0:gJ [a,b] 0=if a≠0 then some (.inr (.inl a)) else some (.inl 1):=by
   unfold gJ
   have:idx [a,b] 0=some a:=rfl
   by_cases h:a=0 <;> simp [this,h] <;> rfl
  have h1:gJ [a,b] 1=if b≠0 then some (.inr (.inl b)) else some (.inl 2):=by
   unfold gJ
   have:idx [a,b] 1=some b:=rfl
   by_cases h:b=0 <;> simp [this,h] <;> rfl
  have h2:gJ [a,b] 2=some (.inr (.inr ())):=by
   unfold gJ;simp
  by_cases ha:a=0
  ·have e0:gJ [a,b] 0=some (.inl 1):=by rw [h0,if_neg (by simpa using ha)]
   by_cases hb:b=0
   ·have e1:gJ [a,b] 1=some (.inl 2):=by rw [h1,if_neg (by simpa using hb)]
    rw [iD e0,iD e1,eK h2,if_neg (by simpa using ha),if_neg (by simpa using hb)]
   ·have e1:gJ [a,b] 1=some (.inr (.inl b)):=by rw [h1,if_pos hb]
    rw [iD e0,eK e1,if_neg (by simpa using ha),if_pos hb]
  ·have e0:gJ [a,b] 0=some (.inr (.inl a)):=by rw [h0,if_pos ha]
   rw [eK e0,if_pos ha]
 rw [key]
 by_cases c1:x.lo<y.lo
 ·simp [c1]
 ·by_cases c2:y.lo<x.lo
  ·simp [c1,c2]
  ·by_cases c3:x.hi<y.hi
   ·simp [c1,c2,c3]
   ·by_cases c4:y.hi<x.hi <;> simp [c1,c2,c3,c4]
theorem brS (β:Type) (x y:aE) (k:Bool→Option β):brC (bB dL.mk) β x y k=k (ltS x y):=by
 unfold brC ltS
 rw [LG,Option.bind_some]
 congr 1
 by_cases c1:x.lo<y.lo
 ·simp [c1]
 ·by_cases c2:y.lo<x.lo
  ·have:¬ x.lo=y.lo:=by omega
   simp [c1,c2,this]
  ·have:x.lo=y.lo:=by omega
   by_cases c3:x.hi<y.hi
   ·simp [this,c3]
   ·by_cases c4:y.hi<x.hi <;> simp [this,c3,c4]
theorem DX {l:List aE} (hl:l.length≤1073741824):∃ r,bM l=some r∧r.Perm l:=by
 rw [DW]
 obtain ⟨r,h1,h2,_⟩:=Lh (P:=fun _=>True) (d:=⟨0,0⟩) (fun β x y k _ _=>brS β x y k) LB (l:=l) ⟨by omega,fun _ _ _=>trivial⟩
 exact ⟨r,h1,h2⟩
def FG {α:Type} (q:α→Option Bool) (s:List α):Int→Option (Int ⊕ (Int ⊕ Unit)):=fun k =>
 if decide (k<(s.length:Int)) then ((idx s k).bind fun x=>(q x).bind fun r=>if r then some (.inr (.inl k)) else some (.inl (aJ k 1))) else some (.inr (.inr ()))
def FH {α:Type} (s:Int×Int×List α):Int×List α→Option (Int×Int×List α ⊕ Int×List α):=fun j=>some (.inl (j.1,aJ s.2.1 1,j.2))
def IU {α:Type} (q:α→Option Bool):Int×Int×List α→Option (Int×Int×List α ⊕ Int×List α):=fun s =>
 if decide (s.2.1<(s.2.2.length:Int)) then ((idx s.2.2 s.2.1).bind fun x=>(q x).bind fun r=>if !r then ((idx s.2.2 s.1).bind fun _=>FH s (aJ s.1 1,List.set s.2.2 (Int.toNat s.1) x)) else FH s (s.1,s.2.2)) else some (.inr (s.1,s.2.2))
def df {α:Type} (q:α→Option Bool) (z:α) (h:List α):Option (List α):=
 ((aL (FG q h) 0).bind fun x=>match x with | .inl j=>some j | .inr _=>some (-1)).bind fun r2=>if (r2==(-1)) then (some h) else ((aL (IU q) (r2,(aJ r2 1),h)).bind fun a0=>if (decide ((0:Int)≤a0.1)&&(decide (a0.1≤(a0.2.length:Int))&&decide ((a0.2.length:Int)≤(a0.2.length:Int)))) then ((slc (cpy a0.2 (Int.toNat a0.1) (List.replicate (Int.toNat (a0.2.length:Int)-Int.toNat a0.1) z)) 0 a0.1).bind fun a1=>some a1) else none)
theorem CH {α R:Type} (l:List α) (body:Int→Option (Int ⊕ R)) (q:α→Bool) (yes:Nat→R) (no:R) (step:∀ (k:Nat) (x:α),l[k]?=some x→body k=if q x then some (.inr (yes k)) else some (.inl ((k+1:Nat):Int))) (fin:body (l.length:Int)=some (.inr no)) :
  aL body 0=some (match l.findIdx? q with | some i=>yes i | none=>no):=by
 have key:∀ (m k:Nat),k+m=l.length→aL body (k:Int)=some (match (l.drop k).findIdx? q with | some i=>yes (k+i) | none=>no):=by
  intro m
  induction m with
  | zero =>
    intro k h;obtain rfl:k=l.length:=by omega
    rw [List.drop_length,eK fin];rfl
  | succ m ih =>
    intro k h
    have hk:k<l.length:=by omega
    have hx:l[k]?=some l[k]:=by simp
    have hs:=step k _ hx
    rw [List.drop_eq_getElem_cons hk,List.findIdx?_cons]
    cases hq:q l[k] with
    | true=>rw [hq] at hs;rw [eK hs];simp
    | false =>
      rw [hq] at hs
      rw [iD hs,ih (k+1) (by omega)]
      cases (l.drop (k+1)).findIdx? q with
      | none=>rfl
      | some i=>simp;congr 1;omega
 have:=key l.length 0 (by omega)
 simpa using this
theorem HK {α:Type} {q:α→Option Bool} {p:α→Bool} (hq:∀ x,q x=some (p x)) (z:α) {h:List α} (hl:h.length≤100000000):df q z h=some (h.filter fun x=>!p x):=by
 unfold df
 rw [CH h (FG q h) p (fun k=>.inl (k:Int)) (.inr ()) (fun k x hx=>?s) ?f]
 case s =>
  have hk:=cJ hx
  have hd:decide ((k:Int)<(h.length:Int))=true:=by simp [hk]
  unfold FG
  simp only [hd,if_true,bC hx,Option.bind_some,hq,bS k (by omega)]
 case f=>simp [FG]
 cases hf:h.findIdx? p with
 | none =>
   rw [List.findIdx?_eq_none_iff] at hf
   have:h.filter (fun x=>!p x)=h:=by
    rw [List.filter_eq_self];intro x hx;rw [hf x hx];rfl
   rw [this];rfl
 | some i =>
   obtain ⟨hi,hpi,hmin⟩:=List.findIdx?_eq_some_iff_getElem.1 hf
   have e1:((i:Int)==-1)=false:=by
    rw [beq_eq_false_iff_ne];omega
   simp only [Option.bind_some,e1,Bool.false_eq_true,if_false]
   have fst:(h.take (i+1)).filter (fun x=>!p x)=h.take i:=by
    rw [List.take_add_one,List.getElem?_eq_getElem hi,List.filter_append]
    have a1:(h.take i).filter (fun x=>!p x)=h.take i:=by
     rw [List.filter_eq_self]
     intro x hx
     obtain ⟨k,hk,rfl⟩:=List.mem_iff_getElem.1 hx
     rw [List.length_take] at hk
     rw [List.getElem_take]
     have:=hmin k (by omega)
     simpa using this
    rw [a1]
    simp [hpi]
   obtain ⟨r,q1,w,s,q2,q3,q4⟩:=kZ (fun t:Int×Int×List α=>((h.length:Int)-t.2.1).toNat)
    (fun t:Int×Int×List α=>∃ w k:Nat,t.1=w∧t.2.1=k∧k≤h.length∧w<k∧t.2.2.length=h.length∧t.2.2.take w=(h.take k).filter (fun x=>!p x)∧t.2.2.drop k=h.drop k)
    (fun r:Int×List α=>∃ (w:Nat) (s:List α),r=((w:Int),s)∧w≤s.length∧s.take w=h.filter fun x=>!p x) (IU q) (by
     rintro ⟨w',k',s⟩ ⟨w,k,hw',hk',hk,hwk,hs,ht,hd⟩
     simp only at hw' hk' hs ht hd ⊢
     subst hw' hk'
     unfold IU
     by_cases hkn:k<h.length
     ·left
      have hdc:decide ((k:Int)<(s.length:Int))=true:=by simp;omega
      obtain ⟨x,hx⟩:∃ x,h[k]?=some x:=⟨_,List.getElem?_eq_getElem hkn⟩
      have hsx:s[k]?=some x:=by
       have:=congrArg (fun l=>l[0]?) hd
       simp only [List.getElem?_drop,Nat.add_zero] at this
       rw [this];exact hx
      obtain ⟨y,hy⟩:∃ y,s[w]?=some y:=⟨_,List.getElem?_eq_getElem (by omega)⟩
      have htk:h.take (k+1)=h.take k++[x]:=by rw [List.take_add_one,hx];rfl
      have hdk:s.drop (k+1)=h.drop (k+1):=by
       have:=congrArg List.tail hd
       simpa [List.tail_drop] using this
      simp only [hdc,if_true,bC hsx,Option.bind_some,hq]
      cases hpx:p x with
      | true =>
        refine ⟨((w:Int),((k+1:Nat):Int),s),by simp [FH,bS k (by omega)],⟨w,k+1,rfl,rfl,by omega,by omega,hs, ?_,hdk⟩,by simp only;omega⟩
        rw [htk,List.filter_append,← ht];simp [hpx]
      | false =>
        refine ⟨(((w+1:Nat):Int),((k+1:Nat):Int),s.set w x),by simp [FH,bC hy,bS k (by omega),bS w (by omega)],⟨w+1,k+1,rfl,rfl,by omega,by omega,by simp [hs], ?_, ?_⟩,by simp only;omega⟩
        ·rw [htk,List.filter_append,← ht,List.take_add_one,List.take_set_of_le (Nat.le_refl w)]
         rw [List.getElem?_set_self (by omega)]
         simp [hpx]
        ·rw [List.drop_set_of_lt (by omega),hdk]
     ·right
      have hdc:decide ((k:Int)<(s.length:Int))=false:=by simp;omega
      refine ⟨((w:Int),s),by simp only [hdc,Bool.false_eq_true,if_false],w,s,rfl,by omega, ?_⟩
      rw [ht,show k=h.length by omega,List.take_length]) ((i:Int),aJ (i:Int) 1,h)
    ⟨i,i+1,rfl,by simp only [bS i (by omega)],hi,Nat.lt_succ_self i,rfl,by rw [fst],rfl⟩
   subst q2
   rw [q1]
   simp only [Option.bind_some,Int.toNat_natCast]
   have c1:(decide ((0:Int)≤(w:Int))&&(decide ((w:Int)≤(s.length:Int))&&decide ((s.length:Int)≤(s.length:Int))))=true:=by simp;exact q3
   rw [c1,if_pos rfl]
   unfold slc cpy
   rw [if_pos ⟨Int.le_refl 0,by omega,by simp;omega⟩]
   simp only [Option.bind_some,Int.toNat_natCast,Int.toNat_zero,List.drop_zero]
   rw [List.append_assoc,List.take_append_of_le_length (by rw [List.length_take];omega),List.take_take,Nat.min_self,q4]
theorem DZ (l:List aE) (hl:l.length≤1000):vM l=some (l.filter fun s=>!decide (aH s.hi s.lo<2)):=by
 have h:vM l=(df wZ ⟨0,0⟩ l).bind fun r=>some r:=rfl
 rw [h,HK (q:=wZ) (p:=fun s=>decide (aH s.hi s.lo<2)) (fun x=>rfl) _ (by omega)]
 rfl
theorem FE (a:List aF) (b:List aO) (c d e f g i:Int) (l:List Int) (hl:l.length≤100000000):cC a b c d e f g i l=some (l.filter fun y=>!(decide (y<d) || decide (y>aH (aJ d f) i))):=by
 have h:cC a b c d e f g i l=df (fun y=>kO y a b c d e f g i) 0 l:=rfl
 rw [h,HK (p:=fun y=>decide (y<d) || decide (y>aH (aJ d f) i)) (fun y=>?_) _ hl]
 unfold kO
 cases decide (y<d) <;> rfl
end Go.SM
namespace Go.SM
open Go Go.VI Go.Cells
def mkS (p:Int×Int):aE:=⟨p.1,p.2⟩
def inN (l:List aE) (x:Int):Prop:=∃ s ∈ l,s.lo<x∧x<s.hi
theorem FV (l:List (Int×Int)) (x:Int):inN (l.map mkS) x↔inS l x:=by
 unfold inN inS
 constructor
 ·rintro ⟨s,hs,h⟩
  obtain ⟨p,hp,rfl⟩:=List.mem_map.1 hs
  exact ⟨p,hp,h⟩
 ·rintro ⟨p,hp,h⟩;exact ⟨mkS p,List.mem_map.2 ⟨p,hp,rfl⟩,h⟩
structure BO (o:aO):Prop where
 v:vR o.aF
 g:0≤o.gap∧o.gap≤14400
def Gj (s:Int×Int):Bool:=!decide (s.2-s.1<2)
theorem DY {o:aO} {r:aF} {y:Int} (ho:BO o) (hr:vR r) (hy : -4194304≤y∧y≤4194304):pU o r y=some (((uA o.gap o.common r o.aF y).filter Gj).map mkS):=by
 obtain ⟨hov,hg⟩:=ho
 unfold vR at hov hr
 unfold pU
 have sp:∀ l:List (Int×Int),l.length≤1000→(∀ p ∈ l,-16777216≤p.1∧p.1≤16777216∧-16777216≤p.2∧p.2≤16777216)→vM (l.map mkS)=some ((l.filter Gj).map mkS):=fun l hl hp=>by
  rw [DZ _ (by rw [List.length_map];exact hl),List.filter_map]
  congr 2
  refine List.filter_congr fun p hpm=>?_
  have:=hp p hpm
  have e:aH (mkS p).hi (mkS p).lo=p.2-p.1:=aU (a:=p.2) (b:=p.1) (by omega) (by omega)
  simp only [Function.comp,Gj,e]
 simp (disch:=omega) only [aP,aU,Er]
 have eu:max (max 0 (o.aF.Y-r.Y-y-r.H)) (r.Y+y-o.aF.Y-o.aF.H)=nV (y+r.Y) r.H o.aF.Y o.aF.H:=by unfold nV;omega
 have ej:(if decide (r.Y+y<o.aF.Y+o.aF.H)=true then some (decide (o.aF.Y<r.Y+y+r.H)) else some false)=some (decide (ovI (y+r.Y) r.H o.aF.Y o.aF.H)):=by
  unfold ovI
  by_cases h1:r.Y+y<o.aF.Y+o.aF.H
  ·have h1':y+r.Y<o.aF.Y+o.aF.H:=by omega
   simp only [h1,h1',decide_true,if_true,true_and]
   congr 1
   exact decide_eq_decide.2 (by omega)
  ·have h1':¬ y+r.Y<o.aF.Y+o.aF.H:=by omega
   simp [h1,h1']
 have eb:∀ a:Int,(a==0)=decide (a=0):=fun a=>by by_cases h:a=0 <;> simp [h]
 rw [ej,eu]
 generalize hu:nV (y+r.Y) r.H o.aF.Y o.aF.H=u
 have hou:ovI (y+r.Y) r.H o.aF.Y o.aF.H→u=0:=fun h=>by rw [← hu];unfold ovI at h;unfold nV;omega
 have hu0:0≤u:=by rw [← hu];unfold nV;omega
 unfold uA
 rw [hu]
 simp only [Option.bind_some,eb]
 generalize ho':decide (ovI (y+r.Y) r.H o.aF.Y o.aF.H)=ov
 have hov':ovI (y+r.Y) r.H o.aF.Y o.aF.H↔ov=true:=by rw [← ho',decide_eq_true_eq]
 simp only [hov'] at hou ⊢
 have d:∀ p q:Int×Int,(∀ z ∈ [p,q],-16777216≤z.1∧z.1≤16777216∧-16777216≤z.2∧z.2≤16777216)→True:=fun _ _ _=>trivial
 have s1:=sp [(o.aF.X-r.X-r.W-o.gap,o.aF.X+o.aF.W-r.X+o.gap)] (by simp) (by simp;omega)
 have s2:=sp [(o.aF.X-r.X-r.W-o.gap,o.aF.X-r.X-r.W),(o.aF.X+o.aF.W-r.X,o.aF.X+o.aF.W-r.X+o.gap)] (by simp) (by simp;omega)
 have s3:=sp [(o.aF.X-r.X-r.W-o.gap,o.aF.X-r.X-r.W),(o.aF.X-r.X-r.W,o.aF.X+o.aF.W-r.X),(o.aF.X+o.aF.W-r.X,o.aF.X+o.aF.W-r.X+o.gap)] (by simp) (by simp;omega)
 simp only [List.map_cons,List.map_nil,mkS] at s1 s2 s3
 simp only [s1,s2,s3,Option.bind_some]
 by_cases h1:u ≥ o.gap
 ·by_cases h2:u>0
  ·have h12:o.gap≤u∧0<u:=⟨h1,h2⟩
   simp only [h1,h2,h12,and_self,decide_true,if_true,Option.bind_some]
   rfl
  ·have hz:u=0:=by omega
   have hg0:o.gap=0:=by omega
   subst hz
   cases o.common <;> cases ov <;> simp [hg0] <;> rfl
 ·have h12:¬ (o.gap≤u∧0<u):=fun q=>h1 q.1
  have hg0:¬ o.gap=0:=by omega
  by_cases hz:u=0
  ·cases o.common <;> cases ov <;> simp [h1,hz,hg0] <;> rfl
  ·have hov0:ov=false:=by
    cases ov with
    | false=>rfl
    | true=>exact absurd (hou rfl) hz
   subst hov0
   cases o.common <;> simp [h1,hz,hg0] <;> rfl
theorem Vs (g:Int) (c:Bool) (r o:aF) (y:Int):(uA g c r o y).length≤3:=by
 unfold uA
 split
 ·simp
 ·split
  ·simp
  ·split
   ·simp
   ·split <;> simp
theorem Zt {o:aO} {r:aF} {y:Int} (ho:BO o) (hr:vR r):∀ s ∈ uA o.gap o.common r o.aF y,s.2≤8388608:=by
 obtain ⟨hov,hg⟩:=ho
 unfold vR at hov hr
 unfold uA
 intro s hs
 split at hs
 ·cases hs
 ·split at hs
  ·simp at hs;rcases hs with rfl | rfl | rfl <;> simp only <;> omega
  ·split at hs
   ·simp at hs;rcases hs with rfl | rfl <;> simp only <;> omega
   ·split at hs
    ·cases hs
    ·simp at hs;subst hs;simp only;omega
structure BS (s:dQ):Prop where
 r:∀ r ∈ s.jY,vR r
 rl:s.jY.length≤12
 o:∀ o ∈ s.bH,BO o
 ol:s.bH.length≤1000
def Uv (l:List aO):List (aF×Int×Bool):=l.map fun o=>(o.aF,o.gap,o.common)
def Dh (s:dQ) (y:Int):List (Int×Int):=s.bH.flatMap fun o=>s.jY.flatMap fun r=>(uA o.gap o.common r o.aF y).filter Gj
theorem Xs {s:dQ} (h:BS s) (x y:Int):inS (Dh s y) x↔∃ o ∈ Uv s.bH,∃ r ∈ s.jY,En o.2.1 o.2.2 r o.1 x y:=by
 have one:∀ o ∈ s.bH,∀ r ∈ s.jY,(inS ((uA o.gap o.common r o.aF y).filter Gj) x↔En o.gap o.common r o.aF x y):=fun o ho r hr=>by
  have b:=h.o o ho
  have v:=b.v
  have w:=h.r r hr
  unfold vR at v w
  exact (Ul _ _).trans (Vr b.g.1 (by omega) (by omega) (by omega) (by omega) x y)
 unfold Dh
 constructor
 ·rintro ⟨p,hp,hx⟩
  obtain ⟨o,ho,hp⟩:=List.mem_flatMap.1 hp
  obtain ⟨r,hr,hp⟩:=List.mem_flatMap.1 hp
  exact ⟨_,List.mem_map.2 ⟨o,ho,rfl⟩,r,hr,(one o ho r hr).1 ⟨p,hp,hx⟩⟩
 ·rintro ⟨o',ho',r,hr,hb⟩
  obtain ⟨o,ho,rfl⟩:=List.mem_map.1 ho'
  obtain ⟨p,hp,hx⟩:=(one o ho r hr).2 hb
  exact ⟨p,List.mem_flatMap.2 ⟨o,ho,List.mem_flatMap.2 ⟨r,hr,hp⟩⟩,hx⟩
theorem AI {s:dQ} (h:BS s) (y:Int):∀ p ∈ Dh s y,p.2≤8388608:=fun p hp=>by
 obtain ⟨o,ho,hp⟩:=List.mem_flatMap.1 hp
 obtain ⟨r,hr,hp⟩:=List.mem_flatMap.1 hp
 exact Zt (h.o o ho) (h.r r hr) p (List.mem_filter.1 hp).1
theorem IP {s:dQ} (h:BS s) {y:Int} (hy : -4194304≤y∧y≤4194304) {o:aO} (ho:o ∈ s.bH) (out0:List aE) (h0:out0.length≤100000) :
  aL (jF s y o) (0,out0)=some (out0++(s.jY.flatMap fun r=>(uA o.gap o.common r o.aF y).filter Gj).map mkS)∧(s.jY.flatMap fun r=>(uA o.gap o.common r o.aF y).filter Gj).length≤36:=by
 have hrl:=h.rl
 obtain ⟨a,q1,q2,q3⟩:=kI s.jY (fun k (t:List aE)=>((k:Int),t)) (jF s y o) (fun t=>t) (fun k t=>t=out0++((s.jY.take k).flatMap fun r=>(uA o.gap o.common r o.aF y).filter Gj).map mkS∧((s.jY.take k).flatMap fun r=>(uA o.gap o.common r o.aF y).filter Gj).length≤3*k) out0 (by simp)
  (fun k r t hr hI=>by
   have hk:=cJ hr
   have hd:decide ((k:Int)<(s.jY.length:Int))=true:=by simp [hk]
   obtain ⟨i1,i2⟩:=hI
   have e:=DY (h.o o ho) (h.r r (List.mem_of_getElem? hr)) hy
   have l3:((uA o.gap o.common r o.aF y).filter Gj).length≤3:=Nat.le_trans (List.length_filter_le _ _) (Vs _ _ _ _ _)
   unfold jF
   simp only [hd,if_true,bC hr,Option.bind_some,e,bS k (by omega)]
   rw [pE (by rw [i1];simp only [List.length_append,List.length_map];unfold LIM;omega)]
   refine ⟨_,rfl, ?_, ?_⟩
   ·rw [eX hr,List.flatMap_append,i1];simp
   ·rw [eX hr,List.flatMap_append];simp only [List.flatMap_cons,List.flatMap_nil,List.append_nil,List.length_append];omega) (fun t _=>by simp [jF])
 rw [List.take_length] at q2 q3
 exact ⟨by rw [show ((0:Int),out0)=(((0:Nat):Int),out0) from rfl,q1,q2],by omega⟩
theorem Ue {s:dQ} (h:BS s) {y:Int} (hy : -4194304≤y∧y≤4194304):∃ L,mN s y=some L∧L.length≤100000∧(∀ x,inN L x↔inS (Dh s y) x)∧∀ p ∈ L,p.hi≤8388608:=by
 have hol:=h.ol
 obtain ⟨a,q1,q2,q3⟩:=kI s.bH (fun k (t:List aE)=>((k:Int),t)) (mT s y) (fun t=>t) (fun k t=>t=((s.bH.take k).flatMap fun o=>s.jY.flatMap fun r=>(uA o.gap o.common r o.aF y).filter Gj).map mkS∧t.length≤36*k) [] (by simp)
  (fun k o t ho hI=>by
   have hk:=cJ ho
   have hd:decide ((k:Int)<(s.bH.length:Int))=true:=by simp [hk]
   obtain ⟨i1,i2⟩:=hI
   obtain ⟨e1,e2⟩:=IP h hy (List.mem_of_getElem? ho) t (by omega)
   unfold mT
   simp only [hd,if_true,bC ho,Option.bind_some,e1,bS k (by omega)]
   refine ⟨_,rfl, ?_, ?_⟩
   ·rw [eX ho,List.flatMap_append,i1];simp
   ·simp only [List.length_append,List.length_map];omega) (fun t _=>by simp [mT])
 rw [List.take_length] at q2
 obtain ⟨r,r1,r2⟩:=DX (l:=a) (by omega)
 refine ⟨r, ?_,by rw [r2.length_eq];omega,fun x=>?_,fun p hp=>?_⟩
 ·unfold mN
  rw [show ((0:Int),([]:List aE))=(((0:Nat):Int),[]) from rfl,q1]
  simp only [Option.bind_some,r1]
 ·rw [← FV]
  have:a=(Dh s y).map mkS:=q2
  rw [← this]
  unfold inN
  constructor
  ·rintro ⟨t,ht,hh⟩;exact ⟨t,r2.mem_iff.1 ht,hh⟩
  ·rintro ⟨t,ht,hh⟩;exact ⟨t,r2.mem_iff.2 ht,hh⟩
 ·have:p ∈ (Dh s y).map mkS:=by
   have e:a=(Dh s y).map mkS:=q2
   rw [← e];exact r2.mem_iff.1 hp
  obtain ⟨z,hz,rfl⟩:=List.mem_map.1 this
  exact AI h y z hz
theorem DG (L:List (Int×Int)) (hL:L.length≤100000) {m x:Int} (hm:m≤x) (hx:∀ z,m≤z→z<x→inS L z) (hB:x≤8388608) (hhi:∀ p ∈ L,p.2≤8388608) (body:(Int×Bool×Int)→Option ((Int×Bool×Int) ⊕ (Int×Bool)))
  (step:∀ (k:Nat) p (x:Int) b,L[k]?=some p→body (x,b,(k:Int))=some (.inl (if p.1<x∧x<p.2 then (p.2,true,((k+1:Nat):Int)) else (x,b,((k+1:Nat):Int))))) (fin:∀ (x:Int) b,body (x,b,(L.length:Int))=some (.inr (x,b))) :
  ∃ x' b',aL body (x,false,0)=some (x',b')∧x≤x'∧x'≤8388608∧(∀ z,m≤z→z<x'→inS L z)∧(b'=false→x'=x∧¬ inS L x)∧(b'=true→x<x'):=by
 obtain ⟨a,q1,q2,q3,q4,q5,q6⟩:=kI L (fun k (t:Int×Bool)=>(t.1,t.2,(k:Int))) body (fun t=>t) (fun k t=>x≤t.1∧t.1≤8388608∧(∀ z,m≤z→z<t.1→inS L z)∧(t.2=false→t.1=x∧∀ p ∈ L.take k,¬ (p.1<x∧x<p.2))∧(t.2=true→x<t.1)) (x,false) ⟨Int.le_refl x,hB,hx,fun _=>⟨rfl,fun p hp=>by simp at hp⟩,fun q=>by cases q⟩
  (fun k p t hp hI=>by
   obtain ⟨i1,i2,i3,i4,i5⟩:=hI
   have hpm:=List.mem_of_getElem? hp
   by_cases hc:p.1<t.1∧t.1<p.2
   ·refine ⟨(p.2,true),by rw [step k p _ _ hp,if_pos hc],by simp only;omega,hhi p hpm,fun z z1 z2=>?_,fun q=>absurd q (by simp),fun _=>by simp only;omega⟩
    rcases Int.lt_or_le z t.1 with w | w
    ·exact i3 z z1 w
    ·exact ⟨p,hpm,by omega,z2⟩
   ·refine ⟨t,by rw [step k p _ _ hp,if_neg hc],i1,i2,i3,fun q=>⟨(i4 q).1,fun p' hp'=>?_⟩,i5⟩
    rw [eX hp] at hp'
    rcases List.mem_append.1 hp' with w | w
    ·exact (i4 q).2 p' w
    ·simp at w;subst w
     rw [(i4 q).1] at hc;exact hc) (fun t _=>by rw [fin])
 rw [List.take_length] at q5
 refine ⟨a.1,a.2,q1,q2,q3,q4,fun q=>⟨(q5 q).1,fun ⟨p,hp,hh⟩=>(q5 q).2 p hp hh⟩,q6⟩
theorem Qo (L:List (Int×Int)) (hL:L.length≤100000) {m:Int} (hm:m≤8388608) (hhi:∀ p ∈ L,p.2≤8388608) (inner:(Int×Bool×Int)→Option ((Int×Bool×Int) ⊕ (Int×Bool))) (body:(Int×Bool)→Option ((Int×Bool) ⊕ Int))
  (step:∀ (k:Nat) p (x:Int) b,L[k]?=some p→inner (x,b,(k:Int))=some (.inl (if p.1<x∧x<p.2 then (p.2,true,((k+1:Nat):Int)) else (x,b,((k+1:Nat):Int))))) (fin:∀ (x:Int) b,inner (x,b,(L.length:Int))=some (.inr (x,b)))
  (ht:∀ x,body (x,true)=(aL inner (x,false,0)).bind fun r=>some (.inl (r.1,r.2))) (hf:∀ x,body (x,false)=some (.inr x)) :
  ∃ x,aL body (m,true)=some x∧m≤x∧¬ inS L x∧∀ z,m≤z→z<x→inS L z:=by
 obtain ⟨r,q1,q2⟩:=kZ (fun t:Int×Bool=>(8388608-t.1).toNat*2+(if t.2 then 1 else 0))
  (fun t:Int×Bool=>m≤t.1∧t.1≤8388608∧(∀ z,m≤z→z<t.1→inS L z)∧(t.2=false→¬ inS L t.1))
  (fun x=>m≤x∧¬ inS L x∧∀ z,m≤z→z<x→inS L z) body (by
   rintro ⟨x,b⟩ ⟨i1,i2,i3,i4⟩
   simp only at i1 i2 i3 i4 ⊢
   cases b with
   | true =>
     left
     obtain ⟨x',b',w1,w2,w3,w4,w5,w6⟩:=DG L hL i1 i3 i2 hhi inner step fin
     refine ⟨(x',b'),by rw [ht,w1];rfl,⟨by simp only;omega,w3,w4,fun q=>by obtain ⟨e,hn⟩:=w5 q;simp only;rw [e];exact hn⟩, ?_⟩
     cases b' with
     | true=>have:=w6 rfl;simp only [if_true];omega
     | false=>obtain ⟨e,_⟩:=w5 rfl;subst e;simp
   | false=>right;exact ⟨x,hf x,i1,i4 rfl,i3⟩) (m,true)
  ⟨Int.le_refl m,hm,fun z z1 z2=>by simp only at z2;omega,fun q=>by cases q⟩
 exact ⟨r,q1,q2⟩
theorem IW {L:List aE} {k:Nat} {p:Int×Int} (h:(L.map fun s=>(s.lo,s.hi))[k]?=some p):∃ s,L[k]?=some s∧p=(s.lo,s.hi):=by
 rw [List.getElem?_map] at h
 cases e:L[k]? with
 | none=>rw [e] at h;cases h
 | some s=>rw [e] at h;exact ⟨s,rfl,(Option.some.inj h).symm⟩
theorem IX (L:List aE) (x:Int):inS (L.map fun s=>(s.lo,s.hi)) x↔inN L x:=by
 unfold inN inS
 constructor
 ·rintro ⟨p,hp,h⟩
  obtain ⟨s,hs,rfl⟩:=List.mem_map.1 hp
  exact ⟨s,hs,h⟩
 ·rintro ⟨s,hs,h⟩;exact ⟨(s.lo,s.hi),List.mem_map.2 ⟨s,hs,rfl⟩,h⟩
theorem BJ (L:List aE) (hL:L.length≤100000) {m hi:Int} (hm:m≤8388608) (hhi:∀ p ∈ L,p.hi≤8388608):∃ x,Bq L m hi=some (x,decide (x≤hi))∧Ho (L.map fun s=>(s.lo,s.hi)) m x:=by
 obtain ⟨x,h1,h2⟩:=Qo (L.map fun s=>(s.lo,s.hi)) (by rw [List.length_map];exact hL) hm (fun p hp=>by obtain ⟨s,hs,rfl⟩:=List.mem_map.1 hp;exact hhi s hs) (yL L m hi) (yM L m hi) (fun k p x b hp=>by
  obtain ⟨s,hs,rfl⟩:=IW hp
  have hk:=cJ hs
  have hd:decide ((k:Int)<(L.length:Int))=true:=by simp [hk]
  unfold yL yJ
  simp only [hd,if_true,bC hs,Option.bind_some,bS k (by omega)]
  by_cases c1:s.lo<x
  ·by_cases c2:x<s.hi <;> simp [c1,c2]
  ·simp [c1]) (fun x b=>by simp [yL]) (fun x=>by simp [yM]) (fun x=>by simp [yM])
 exact ⟨x,by unfold Bq;rw [h1];rfl,h2⟩
end Go.SM
end
