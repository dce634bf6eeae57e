/- The edges along a line: how the program finds them. -/
import Derived.Test.YtgfjbgoehhnaeaaGreatCzLab
import Derived.Test.YtgfjbgoehhnaeaaGreatCzSort
set_option linter.unusedVariables false
set_option linter.unusedSimpArgs false
set_option linter.unusedSectionVars false
namespace Go.SM
open Go Go.VI Go.Cells
noncomputable def GU (s329:Int×(Option Int)×(Option Int)×Int×(List EdgeT)):(Int×(Option Int)×(Option Int)×(List EdgeT))→Option ((Int×(Option Int)×(Option Int)×Int×(List EdgeT)) ⊕ (List EdgeT)):=fun j451 =>
  some (.inl (j451.1,j451.2.1,j451.2.2.1,(aL s329.2.2.2.1 1),j451.2.2.2))
noncomputable def MZ (s329:Int×(Option Int)×(Option Int)×Int×(List EdgeT)) (x453:Int) (j456:(Option Int)×(Option Int)):(List EdgeT)→Option ((Int×(Option Int)×(Option Int)×Int×(List EdgeT)) ⊕ (List EdgeT)):=fun j474 =>
  GU s329 (x453,j456.1,j456.2,j474)
noncomputable def NA (line:Int→Int→Option Segment) (s329:Int×(Option Int)×(Option Int)×Int×(List EdgeT)) (x453:Int):((Option Int)×(Option Int))→Option ((Int×(Option Int)×(Option Int)×Int×(List EdgeT)) ⊕ (List EdgeT)):=fun j456 =>
  (if (j456.1==s329.2.1) then (some (j456.2==s329.2.2.1)) else (some false)).bind fun j458=>if j458 then (GU s329 (s329.1,s329.2.1,s329.2.2.1,s329.2.2.2.2)) else ((if (s329.2.1==s329.2.2.1) then (some false) else ((match s329.2.1 with | some n=>fP n | none=>fM (cut_nothing.mk )).bind fun b478=>if b478 then (some true) else ((match s329.2.2.1 with | some n=>fP n | none=>fM (cut_nothing.mk )).bind fun b479=>some b479))).bind fun j477=>if j477 then ((line s329.1 x453).bind fun r485=>(wP s329.2.1).bind fun r486=>(wP s329.2.2.1).bind fun r487=>(Jy r485 r486 r487).bind fun r488=>(app s329.2.2.2.2 [(EdgeT.mk (Segment.mk r488.1.Line.X1 r488.1.Line.Y1 r488.1.Line.X2 r488.1.Line.Y2) r488.1.A r488.1.B)]).bind fun l489=>MZ s329 x453 j456 l489) else (MZ s329 x453 j456 s329.2.2.2.2))
noncomputable def SC (ends:(List Int)) (side:Int→Option (Option Int×Option Int)) (line:Int→Int→Option Segment):(Int×(Option Int)×(Option Int)×Int×(List EdgeT))→Option ((Int×(Option Int)×(Option Int)×Int×(List EdgeT)) ⊕ (List EdgeT)):=fun s329 =>
  if (decide (s329.2.2.2.1<(ends.length:Int))) then ((idx ends s329.2.2.2.1).bind fun x453=>if (decide ((aL s329.2.2.2.1 1)<(ends.length:Int))) then ((side x453).bind fun r491=>NA line s329 x453 (r491.1,r491.2)) else (NA line s329 x453 (none,none))) else (some (.inr s329.2.2.2.2))
noncomputable def al (ends:(List Int)) (side:Int→Option (Option Int×Option Int)) (line:Int→Int→Option Segment):Option ((List EdgeT)):=
  (aM (SC ends side line) (0,none,none,0,[])).bind fun x492=>some x492
theorem OW (ends:List Int) (n m:ByteArray) (g r w t:Int) (c u:List Rect) (p:List Piece) (y z:Int):fJ ends n m g r w t c u p y z=al ends (fun i=>Ic i n m g r w t c u p y) (fun a b=>Ie a b z):=rfl
theorem OX (ends:List Int) (n m:ByteArray) (g r w t:Int) (c u:List Rect) (p:List Piece) (y z:Int):fK ends n m g r w t c u p y z=al ends (fun i=>Ig i n m g r w t c u p y) (fun a b=>Ih a b z):=rfl
def mkE (s:Segment) (a b:Option Int):EdgeT:=
  let p:Int:=match a with | some i=>i | none=>-1
  let q:Int:=match b with | some i=>i | none=>-1
  if p<0∨(q ≥ 0∧q<p) then ⟨s,q,p⟩ else ⟨s,p,q⟩
theorem number_eq (a:Option Int):wP a=some (match a with | some i=>i | none=>-1):=by cases a <;> rfl
theorem XH (s:Segment) (a b:Option Int):∃ u v,Jy s (match a with | some i=>i | none=>-1) (match b with | some i=>i | none=>-1)=some (mkE s a b,u,v):=by
  unfold Jy mkE Ib
  generalize (match a with | some i=>i | none=>(-1:Int))=p
  generalize (match b with | some i=>i | none=>(-1:Int))=q
  simp only
  by_cases h1:p<0
  · simp [h1]
  · by_cases h2:q ≥ 0
    · by_cases h3:q<p
      · simp [h1,h2,h3]
      · simp [h1,h2,h3]
    · simp [h1,h2]
theorem KD (a:Option Int):(match a with | some n=>fP n | none=>fM cut_nothing.mk)=some a.isSome:=by cases a <;> rfl
theorem GV {line:Int→Int→Option Segment} {ln:Int→Int→Segment} (hline:∀ a b,line a b=some (ln a b)) {begin_:Int} {one two:Option Int} {k:Nat} (hk:k≤1000) {out:List EdgeT} (ho:out.length≤1000000) (x:Int) (a b:Option Int) :
    NA line (begin_,one,two,(k:Int),out) x (a,b)=some (.inl (if a=one∧b=two then (begin_,one,two,((k+1:Nat):Int),out) else (x,a,b,((k+1:Nat):Int),if one=two then out else out++[mkE (ln begin_ x) one two]))):=by
  unfold NA
  simp only
  by_cases h:a=one∧b=two
  · obtain ⟨rfl,rfl⟩:=h
    simp only [beq_self_eq_true,if_true,Option.bind_some,GU,and_self,aZ k (by omega)]
  · have e:(if (a==one)=true then some (b==two) else some false)=some false:=by
      by_cases h1:a=one
      · have h2:¬ b=two:=fun q=>h ⟨h1,q⟩
        simp [h1,h2]
      · simp [h1]
    rw [e,if_neg h]
    simp only [Option.bind_some,Bool.false_eq_true,if_false]
    by_cases h3:one=two
    · have:(one==two)=true:=by simp [h3]
      rw [this,if_pos h3]
      simp only [if_true,Option.bind_some,Bool.false_eq_true,if_false,MZ,GU,aZ k (by omega)]
    · have h4:(one==two)=false:=by simp [h3]
      have h5:(one.isSome || two.isSome)=true:=by
        cases one with
        | some _=>rfl
        | none=>cases two with
          | some _=>rfl
          | none=>exact absurd rfl h3
      obtain ⟨u,v,e2⟩:=XH (ln begin_ x) one two
      have e3:(if one.isSome=true then some true else some two.isSome)=some true:=by
        cases hh:one.isSome with
        | true=>rfl
        | false=>rw [hh,Bool.false_or] at h5;simp [h5]
      have e4:(match one with | some n=>fP n | none=>fM cut_nothing.mk).bind (fun b478=>if b478=true then some true else (match two with | some n=>fP n | none=>fM cut_nothing.mk).bind fun b479=>some b479)=some true:=by
        rw [KD,KD]
        exact e3
      rw [h4]
      simp only [Bool.false_eq_true,if_false]
      rw [e4]
      simp only [Option.bind_some,if_true,hline,number_eq,e2,if_neg h3]
      rw [qY (by simp [LIM];omega)]
      simp only [Option.bind_some,MZ,GU,aZ k (by omega)]
theorem YY    {A B:Int→Option Int} {xs:List Int} (h:Al A B xs) {side:Int→Option (Option Int×Option Int)} (hside:∀ (i:Nat) x,xs[i]?=some x→i+1<xs.length→side x=some (A x,B x)) {line:Int→Int→Option Segment} {ln:Int→Int→Segment} (hline:∀ a b,line a b=some (ln a b)) :
    ∃ L,al xs side line=some (L.map fun p=>mkE (ln p.1 p.2) (A p.1) (B p.1))∧qU (fun z=>cod (A z) (B z)) L∧L.length≤xs.length:=by
  obtain ⟨s,hs⟩:∃ s:Int→Int,s=fun z=>cod (A z) (B z):=⟨_,rfl⟩
  have hlen:=h.len
  have s0:∀ z,s z=0↔A z=B z:=fun z=>by rw [hs];exact h.s0 z
  have sinj:∀ z w,s z≠0→s z=s w→A z=A w∧B z=B w:=fun z w q1 q2=>by subst hs;exact h.inj q1 q2
  obtain ⟨lo,hlo⟩:=h.lo
  replace hlo:∀ z,z<lo→s z=0:=fun z hz=>by rw [hs];exact hlo z hz
  have hst:Iu s xs:=by rw [hs];exact Nb (fun p:Option Int×Option Int=>cod p.1 p.2) (g:=fun z=>(A z,B z)) h.st
  rw [← hs]
  obtain ⟨mk,hmk⟩:∃ mk:Int×Int→EdgeT,mk=fun p=>mkE (ln p.1 p.2) (A p.1) (B p.1):=⟨_,rfl⟩
  rw [← hmk]
  obtain ⟨r,q1,q2⟩:=nA (fun t:Int×Option Int×Option Int×Int×List EdgeT=>((xs.length:Int)-t.2.2.2.1).toNat)
    (fun t:Int×Option Int×Option Int×Int×List EdgeT=>∃ k:Nat,t.2.2.2.1=k∧k≤xs.length∧(k=xs.length→∃ L,t.2.2.2.2=L.map mk∧qU s L∧L.length≤xs.length) ∧
      (∀ e,xs[k]?=some e→∃ L,qU (cut s e) L∧L.length≤k∧t.2.1=A (e-1)∧t.2.2.1=B (e-1)∧(t.2.1=t.2.2.1→t.2.2.2.2=L.map mk)∧(t.2.1≠t.2.2.1→∃ L0,L=L0++[(t.1,e)]∧t.2.2.2.2=L0.map mk)))
    (fun r=>∃ L,r=L.map mk∧qU s L∧L.length≤xs.length) (SC xs side line) (by
      rintro ⟨bg,one,two,k',out⟩ ⟨k,hk',hk,hend,hI⟩
      simp only at hk' hend hI ⊢
      subst hk'
      unfold SC
      by_cases hkn:k<xs.length
      case neg =>
        right
        have hd:¬ (k:Int)<(xs.length:Int):=by omega
        exact ⟨out,by simp only [hd,decide_false,Bool.false_eq_true,if_false],hend (by omega)⟩
      left
      have hd:(k:Int)<(xs.length:Int):=by omega
      obtain ⟨e,he⟩:∃ e,xs[k]?=some e:=⟨_,List.getElem?_eq_getElem hkn⟩
      obtain ⟨L,hL,hLk,h1,h2,hzero,hopen⟩:=hI e he
      have hout:out.length≤1000000:=by
        rcases Classical.em (one=two) with q | q
        · rw [hzero q,List.length_map];omega
        · obtain ⟨L0,e1,e2⟩:=hopen q
          rw [e2,List.length_map]
          have:=congrArg List.length e1
          simp at this;omega
      have sone:s (e-1)=0↔one=two:=by rw [s0,h1,h2]
      -- what is closed
      have closed:one≠two→out++[mkE (ln bg e) one two]=L.map mk:=fun q=>by
        obtain ⟨L0,e1,e2⟩:=hopen q
        have hr:=uX.1 ((hL.2 bg e).1 (by rw [e1];simp))
        have hne:s (e-1)≠0:=fun z=>q (sone.1 z)
        have hb:=sinj (e-1) bg hne (hr.2.2.2.1 (e-1) (by omega) (by omega))
        rw [e1,e2,List.map_append,hmk]
        simp only [List.map_cons,List.map_nil]
        rw [h1,h2,hb.1,hb.2]
      have kk:((k:Int)+1)=((k+1:Nat):Int):=by omega
      by_cases hkl:k+1<xs.length
      · obtain ⟨e',he'⟩:∃ e',xs[k+1]?=some e':=⟨_,List.getElem?_eq_getElem hkl⟩
        obtain ⟨hee,hst'⟩:=Bj hst he he'
        obtain ⟨b1,b2⟩:=h.before he he'
        have hd2:aL (k:Int) 1<(xs.length:Int):=by rw [aZ k (by omega)];omega
        simp only [hd,decide_true,if_true,aP he,Option.bind_some,hd2,hside k e he hkl,GV hline (show k≤1000 by omega) hout e (A e) (B e)]
        have hprev:s (e'-1)=s e:=hst' _ (by omega) (by omega)
        by_cases hc:A e=one∧B e=two
        · refine ⟨_,rfl, ?_,by rw [if_pos hc];simp only;omega⟩
          rw [if_pos hc]
          have es:s e=s (e-1):=by rw [hs];simp only;rw [← h1,← h2,hc.1,hc.2]
          refine ⟨k+1,rfl,by omega,fun q=>by omega,fun e2 he2=>?_⟩
          rw [he'] at he2;injection he2 with he2;subst he2
          simp only
          rcases Classical.em (one=two) with q | q
          · have e0:s e=0:=by rw [es];exact sone.2 q
            exact ⟨L,Wy hL hee hst' e0,by omega,by rw [b1,hc.1],by rw [b2,hc.2],hzero,fun q'=>absurd q q'⟩
          · have e0:s e≠0:=by rw [es];exact fun z=>q (sone.1 z)
            obtain ⟨l0,a,hla,hrun⟩:=EH hL hee hst' hlo e0 es.symm
            obtain ⟨L0,e1,e2⟩:=hopen q
            rw [hla] at e1
            obtain ⟨rfl,e3⟩:=List.append_inj' e1 rfl
            injection e3 with e3 _
            injection e3 with e3 _
            subst e3
            exact ⟨l0++[(a,e')],hrun,by rw [hla] at hLk;simp at hLk ⊢;omega,by rw [b1,hc.1],by rw [b2,hc.2],fun q'=>absurd q' q,fun _=>⟨l0,rfl,e2⟩⟩
        · refine ⟨_,rfl, ?_,by rw [if_neg hc];simp only;omega⟩
          rw [if_neg hc]
          refine ⟨k+1,rfl,by omega,fun q=>by omega,fun e2 he2=>?_⟩
          rw [he'] at he2;injection he2 with he2;subst he2
          simp only
          have hout':(if one=two then out else out++[mkE (ln bg e) one two])=L.map mk:=by
            split
            · rename_i q;exact hzero q
            · rename_i q;exact closed q
          rcases Classical.em (A e=B e) with q | q
          · exact ⟨L,Wy hL hee hst' ((s0 e).2 q),by omega,b1.symm,b2.symm,fun _=>hout',fun q'=>absurd q q'⟩
          · have e0:s e≠0:=fun z=>q ((s0 e).1 z)
            have hne:s (e-1)≠s e:=fun z=>by
              have:=sinj e (e-1) e0 z.symm
              exact hc ⟨by rw [h1];exact this.1,by rw [h2];exact this.2⟩
            exact ⟨L++[(e,e')],JV hL hee hst' e0 hne,by simp;omega,b1.symm,b2.symm,fun q'=>absurd q' q,fun _=>⟨L,rfl,hout'⟩⟩
      · have hd2:¬ aL (k:Int) 1<(xs.length:Int):=by rw [aZ k (by omega)];omega
        simp only [hd,decide_true,if_true,aP he,Option.bind_some,hd2,decide_false,Bool.false_eq_true,if_false,GV hline (show k≤1000 by omega) hout e none none]
        have hz:∀ z,e≤z→s z=0:=fun z hz=>by
          have:=h.high e (by rw [show xs.length-1=k from by omega];exact he) z hz
          rw [s0,this.1,this.2]
        refine ⟨_,rfl,⟨k+1, ?_,by omega,fun _=>⟨L, ?_,BM hL hz,by omega⟩,fun e2 he2=>by have:=bC he2;omega⟩, ?_⟩
        · split <;> rfl
        · by_cases hc:(none:Option Int)=one∧(none:Option Int)=two
          · rw [if_pos hc];exact hzero (by rw [← hc.1,← hc.2])
          · rw [if_neg hc]
            simp only
            split
            · rename_i q;exact hzero q
            · rename_i q;exact closed q
        · split <;> simp only <;> omega) (0,none,none,0,[])
      ⟨0,rfl,by omega,fun q=>⟨[],rfl,by
        have:xs=[]:=List.eq_nil_of_length_eq_zero q.symm
        refine ⟨.nil,fun a b=>⟨fun m=>by simp at m,fun m=>absurd ((s0 a).2 ?_) m.2.1⟩⟩
        rw [(h.emp this a).1,(h.emp this a).2],by simp⟩,fun e he=>by
        have hl:=h.low e he
        exact ⟨[],BN fun z hz=>by rw [s0,(hl z hz).1,(hl z hz).2],by simp,(hl (e-1) (by omega)).1.symm,(hl (e-1) (by omega)).2.symm,fun _=>rfl,fun q=>absurd rfl q⟩⟩
  obtain ⟨L,rfl,q3,q4⟩:=q2
  exact ⟨L,by unfold al;rw [q1];rfl,q3,q4⟩
end Go.SM
