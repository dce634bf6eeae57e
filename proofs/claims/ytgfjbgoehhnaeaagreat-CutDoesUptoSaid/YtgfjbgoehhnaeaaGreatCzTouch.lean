/- Which rectangles hang together: a queue that is cut in front, and one that is gone through. -/
import Derived.Test.YtgfjbgoehhnaeaaGreatCzValid
set_option linter.unusedVariables false
set_option linter.unusedSimpArgs false
set_option linter.unusedSectionVars false
namespace Go.SM
open Go Go.VI
def cnt (l:List Bool):Nat:=l.countP (·==true)
theorem NE {l:List Bool} {k:Nat} (h:l[k]?=some false):cnt (l.set k true)=cnt l+1:=by
  unfold cnt
  have hk:=(List.getElem?_eq_some_iff.1 h).1
  have hv:=(List.getElem?_eq_some_iff.1 h).2
  rw [List.countP_set hk]
  simp [hv]
theorem XA {l:List Bool} (h:cnt l=l.length):∀ x ∈ l,x=true:=by
  have:=List.countP_eq_length.1 h
  intro x hx;simpa using this x hx
theorem Xt (a b:Rect):tV a b=Gu a b:=rfl
theorem MV (a b:Rect):∃ t,Gu a b=some t:=by
  unfold Gu
  split
  · split
    · exact ⟨_,rfl⟩
    · split <;> exact ⟨_,rfl⟩
  · split <;> exact ⟨_,rfl⟩
theorem PN {l:List Rect} (hl:l.length≤1000) {x:Int} {r:Rect} (hx:idx l x=some r) {i:Nat} {b0:Bool×Unit} :
    ∀ (m k:Nat) (seen:List Bool) (w0 l0 ext:List Int) (s:Int×List Bool×List Int),k+m=l.length→seen.length=l.length→l0[i]?=some x→s.1=(i:Int)→w0.length+ext.length≤1000000-m→l0.length+ext.length≤1000000-m →
      ∃ seen' ext',aM (kZ l x) ((k:Int),seen,w0++ext)=some (seen',w0++ext')∧aM (cO l s) ((k:Int),seen,l0++ext)=some (seen',l0++ext')∧seen'.length=l.length∧cnt seen'+ext.length=cnt seen+ext'.length∧(∀ y ∈ ext',y ∈ ext∨(0≤y∧y<l.length)):=by
  intro m
  induction m with
  | zero =>
    intro k seen w0 l0 ext s hk hs hi hsi h1 h2
    obtain rfl:k=l.length:=by omega
    refine ⟨seen,ext,fU ?_,fU ?_,hs,rfl,fun y hy=>.inl hy⟩
    · simp [kZ]
    · simp [cO]
  | succ m ih =>
    intro k seen w0 l0 ext s hk hs hi hsi h1 h2
    have hkl:k<l.length:=by omega
    have hy:l[k]?=some l[k]:=by simp
    have hsn:seen[k]?=some seen[k]:=by simp [hs,hkl]
    have hle:i<l0.length:=(List.getElem?_eq_some_iff.1 hi).1
    have hi':∀ e:List Int,(l0++e)[i]?=some x:=fun e=>by rw [List.getElem?_append_left hle];exact hi
    have hd:decide ((k:Int)<(l.length:Int))=true:=by simp;omega
    have e1:aL (k:Int) 1=((k+1:Nat):Int):=by rw [aS (by omega) (by omega)];rfl
    obtain ⟨t,ht⟩:=MV r l[k]
    by_cases hb:seen[k]=true
    · obtain ⟨seen',ext',p1,p2,p3⟩:=ih (k+1) seen w0 l0 ext s (by omega) hs hi hsi (by omega) (by omega)
      refine ⟨seen',ext', ?_, ?_,p3⟩
      · rw [lQ (s':=(((k+1:Nat):Int),seen,w0++ext))]
        · exact p1
        · unfold kZ nQ
          simp only [hd,if_true,aP hsn,hb,Option.bind_some,Bool.false_eq_true,if_false,e1]
      · rw [lQ (s':=(((k+1:Nat):Int),seen,l0++ext))]
        · exact p2
        · unfold cO eF
          simp only [hd,if_true,aP hsn,hb,Option.bind_some,Bool.false_eq_true,if_false,e1]
    · have hb':seen[k]=false:=by simpa using hb
      cases t with
      | false =>
        obtain ⟨seen',ext',p1,p2,p3⟩:=ih (k+1) seen w0 l0 ext s (by omega) hs hi hsi (by omega) (by omega)
        refine ⟨seen',ext', ?_, ?_,p3⟩
        · rw [lQ (s':=(((k+1:Nat):Int),seen,w0++ext))]
          · exact p1
          · unfold kZ nQ
            simp only [hd,if_true,aP hsn,aP hy,hx,ht,hb',Option.bind_some,Bool.false_eq_true,if_false,e1]
        · rw [lQ (s':=(((k+1:Nat):Int),seen,l0++ext))]
          · exact p2
          · unfold cO eF
            simp only [hd,if_true,aP hsn,aP hy,hsi,aP (hi' ext),hx,Xt,ht,hb',Option.bind_some,Bool.false_eq_true,if_false,e1]
      | true =>
        have hset:(seen.set k true).length=l.length:=by rw [List.length_set];exact hs
        obtain ⟨seen',ext',p1,p2,p3,p4,p5⟩:=ih (k+1) (seen.set k true) w0 l0 (ext++[(k:Int)]) s (by omega) hset hi hsi (by simp;omega) (by simp;omega)
        have a1:app (w0++ext) [(k:Int)]=some (w0++(ext++[(k:Int)])):=by rw [qY (by unfold LIM;simp;omega),List.append_assoc]
        have a2:app (l0++ext) [(k:Int)]=some (l0++(ext++[(k:Int)])):=by rw [qY (by unfold LIM;simp;omega),List.append_assoc]
        refine ⟨seen',ext', ?_, ?_,p3, ?_,fun y hy'=>?_⟩
        · rw [lQ (s':=(((k+1:Nat):Int),seen.set k true,w0++(ext++[(k:Int)])))]
          · exact p1
          · unfold kZ nQ
            simp only [hd,if_true,aP hsn,aP hy,hx,ht,hb',Option.bind_some,Bool.false_eq_true,if_false,e1,a1,Int.toNat_natCast]
        · rw [lQ (s':=(((k+1:Nat):Int),seen.set k true,l0++(ext++[(k:Int)])))]
          · exact p2
          · unfold cO eF
            simp only [hd,if_true,aP hsn,aP hy,hsi,aP (hi' ext),hx,Xt,ht,hb',Option.bind_some,Bool.false_eq_true,if_false,e1,a2,Int.toNat_natCast]
        · rw [NE (by rw [hsn,hb'])] at p4
          simp at p4;omega
        · rcases p5 y hy' with h | h
          · rcases List.mem_append.1 h with h | h
            · exact .inl h
            · right;rw [List.mem_singleton.1 h];omega
          · exact .inr h
theorem PO {l:List Rect} (hl:l.length≤1000):∀ (m i:Nat) (seen:List Bool) (q:List Int),i+m=l.length→i≤q.length→seen.length=l.length→cnt seen=q.length→(∀ y ∈ q,0≤y∧y<l.length) →
    ∃ seen' q',aM (nR l) (seen,q.drop i)=some seen'∧aM (eG l) ((i:Int),seen,q)=some q'∧seen'.length=l.length∧cnt seen'=q'.length:=by
  intro m
  induction m with
  | zero =>
    intro i seen q him hiq hs hc hq
    have hcl:cnt seen≤seen.length:=List.countP_le_length
    obtain rfl:i=q.length:=by omega
    refine ⟨seen,q,fU ?_,fU ?_,hs,hc⟩
    · simp [nR]
    · simp [eG]
  | succ m ih =>
    intro i seen q him hiq hs hc hq
    have hcl:cnt seen≤seen.length:=List.countP_le_length
    by_cases hlt:i<q.length
    · have hx:q[i]?=some q[i]:=by simp
      have hxm:=hq q[i] (List.getElem_mem hlt)
      have ed:q.drop i=q[i]::q.drop (i+1):=List.drop_eq_getElem_cons hlt
      have hr:idx l q[i]=some (l[q[i].toNat]'(by omega)):=by
        unfold idx;rw [if_pos hxm.1];simp [show q[i].toNat<l.length by omega]
      obtain ⟨seen',ext',p1,p2,p3,p4,p5⟩:=PN hl hr (b0:=(true,())) l.length 0 seen (q.drop (i+1)) q [] ((i:Int),seen,q) (by omega) hs hx rfl (by simp;omega) (by simp;omega)
      simp only [List.append_nil,List.length_nil,Nat.add_zero] at p1 p2 p4
      obtain ⟨seen2,q2,r1,r2,r3⟩:=ih (i+1) seen' (q++ext') (by omega) (by simp;omega) p3 (by simp;omega) (fun y hy=>by
        rcases List.mem_append.1 hy with h | h
        · exact hq y h
        · rcases p5 y h with h | h
          · exact absurd h (by simp)
          · exact h)
      refine ⟨seen2,q2, ?_, ?_,r3⟩
      · rw [lQ (s':=(seen',(q++ext').drop (i+1)))]
        · exact r1
        · unfold nR
          have e0:idx (q.drop i) 0=some q[i]:=by rw [ed];rfl
          have e2:List.drop 1 (q.drop i)=q.drop (i+1):=by rw [List.drop_drop]
          have h1:decide (((q.drop i).length:Int)>0)=true:=by rw [ed];simp;omega
          have h2:decide (1≤(q.drop i).length)=true:=by rw [decide_eq_true_eq,List.length_drop];omega
          simp only [h1,if_true,e0,Option.bind_some,h2,e2]
          have p1':aM (kZ l q[i]) (0,seen,List.drop (i+1) q)=some (seen',List.drop (i+1) q++ext'):=p1
          rw [p1',List.drop_append_of_le_length (by omega)]
          rfl
      · rw [lQ (s':=(((i+1:Nat):Int),seen',q++ext'))]
        · exact r2
        · unfold eG
          have h1:decide ((i:Int)<(q.length:Int))=true:=by simp;omega
          have p2':aM (cO l ((i:Int),seen,q)) (0,seen,q)=some (seen',q++ext'):=p2
          simp only [h1,if_true,p2',Option.bind_some]
          rw [aS (by omega) (by omega)]
          rfl
    · obtain rfl:i=q.length:=by omega
      refine ⟨seen,q,fU ?_,fU ?_,hs,hc⟩
      · simp [nR]
      · simp [eG]
theorem TG (l:List Bool) (hl:l.length≤1000):aM (sG l) 0=some (if l.any (fun x=>!x) then .inl () else .inr ()):=by
  refine gI l (sG l) (fun k=>(k:Int)) _ _ _ rfl (fun k x hx=>?_) ?_
  · have hk:=(List.getElem?_eq_some_iff.1 hx).1
    unfold sG
    have h1:decide ((k:Int)<(l.length:Int))=true:=by simp;omega
    simp only [h1,if_true,aP hx,Option.bind_some]
    rw [aS (a:=(k:Int)) (by omega) (by omega)]
    rfl
  · simp [sG]
theorem Zj {l:List Rect} (hl:l.length≤1000) (h0:0<l.length):∃ b,Ae l=some b∧lU l=some b:=by
  have hmk:mk (l.length:Int) false=some (List.replicate l.length false):=by
    unfold mk;rw [if_pos (by unfold LIM;omega)];simp
  have hf:(List.replicate l.length false)[0]?=some false:=by simp [h0]
  have hc:cnt ((List.replicate l.length false).set 0 true)=1:=by
    rw [NE hf];unfold cnt;simp [List.countP_replicate]
  obtain ⟨seen',q',p1,p2,p3,p4⟩:=PO hl l.length 0 ((List.replicate l.length false).set 0 true) [0] (by omega) (by simp) (by simp) (by rw [hc];rfl) (by simp;omega)
  unfold Ae lU
  have i0:idx (List.replicate l.length false) 0=some false:=aP (k:=0) hf
  have p1':aM (nR l) ((List.replicate l.length false).set (Int.toNat 0) true,[0])=some seen':=p1
  have p2':aM (eG l) (0,(List.replicate l.length false).set (Int.toNat 0) true,[0])=some q':=p2
  simp only [hmk,Option.bind_some,i0,p1',p2',TG seen' (by omega)]
  refine ⟨_, ?_,rfl⟩
  by_cases ha:seen'.any (fun x=>!x)=true
  · have:¬ (q'.length:Int)=(l.length:Int):=by
      intro h
      obtain ⟨x,hx,hn⟩:=List.any_eq_true.1 ha
      have:=XA (l:=seen') (by omega) x hx
      subst this;simp at hn
    simp [ha,this]
  · have:(q'.length:Int)=(l.length:Int):=by
      rw [← p4,← p3]
      congr 1
      unfold cnt
      rw [List.countP_eq_length]
      intro x hx
      by_cases h:x=true
      · simp [h]
      · exact absurd (List.any_eq_true.2 ⟨x,hx,by simpa using h⟩) ha
    rw [this]
    simp only [ha,Bool.false_eq_true,if_false,beq_self_eq_true,Option.bind_some]
end Go.SM
