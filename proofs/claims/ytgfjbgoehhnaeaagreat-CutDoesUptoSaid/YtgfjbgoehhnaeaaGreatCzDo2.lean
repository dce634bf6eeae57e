/- The state after one item; the law CutDoes, on the models. -/
import Derived.Test.YtgfjbgoehhnaeaaGreatCzDo
import Derived.Test.YtgfjbgoehhnaeaaGreatCzKD
set_option linter.unusedVariables false
set_option linter.unusedSimpArgs false
set_option linter.unusedSectionVars false
namespace Go.SM
open Go Go.VI Go.Cells
def mark (n:Nat) (q:Nat→Bool) (c:List Bool):List Bool:=(List.range n).map fun i=>q i || c.getD i false
theorem wX (n:Nat) (q:Nat→Bool) (c:List Bool):(mark n q c).length=n:=by simp [mark]
theorem Ve {n:Nat} (q:Nat→Bool) {c:List Bool} {i:Nat} (hi:i<n):(mark n q c)[i]?=some (q i || c.getD i false):=by
  unfold mark;rw [List.getElem?_map,List.getElem?_range hi];rfl
theorem QN {n:Nat} {c:List Bool} (hc:c.length=n):mark n (fun _=>false) c=c:=by
  refine List.ext_getElem? fun i=>?_
  by_cases hi:i<n
  · rw [Ve _ hi,Bool.false_or,List.getD_eq_getElem?_getD,List.getElem?_eq_getElem (by omega)];rfl
  · rw [List.getElem?_eq_none (by rw [wX];omega),List.getElem?_eq_none (by omega)]
theorem QM {n:Nat} {q:Nat→Bool} {c:List Bool} {k:Nat}:mark n (fun i=>decide (i<k+1)&&q i) c=if q k then (mark n (fun i=>decide (i<k)&&q i) c).set k true else mark n (fun i=>decide (i<k)&&q i) c:=by
  refine List.ext_getElem? fun i=>?_
  by_cases hi:i<n
  · rw [Ve _ hi]
    split
    · rename_i hq
      rw [List.getElem?_set]
      by_cases e:k=i
      · subst e
        rw [if_pos rfl,if_pos (by rw [wX];exact hi)]
        simp [hq]
      · rw [if_neg e,Ve _ hi]
        have:decide (i<k+1)=decide (i<k):=by simp;omega
        rw [this]
    · rename_i hq
      rw [Ve _ hi]
      by_cases e:k=i
      · subst e
        have:q k=false:=by simpa using hq
        simp [this]
      · have:decide (i<k+1)=decide (i<k):=by simp;omega
        rw [this]
  · have h2:∀ l:List Bool,l.length=n→l[i]?=none:=fun l hl=>List.getElem?_eq_none (by omega)
    rw [h2 _ (wX _ _ _)]
    split
    · rw [h2 _ (by rw [List.length_set,wX])]
    · rw [h2 _ (wX _ _ _)]
theorem Qu {n:Nat} (body:Int×List Bool→Option (Int×List Bool ⊕ List Bool)) (q:Nat→Bool) {c:List Bool} (hc:c.length=n) (step:∀ (k:Nat) (c':List Bool),k<n→c'.length=n→body ((k:Int),c')=some (.inl (((k+1:Nat):Int),if q k then c'.set k true else c'))) (fin:∀ c':List Bool,c'.length=n→body ((n:Int),c')=some (.inr c')) :
    aM body (0,c)=some (mark n q c):=by
  have key:=Bn (List.range n) body (fun k=>((k:Int),mark n (fun i=>decide (i<k)&&q i) c)) (mark n q c) (fun k x hx=>?_) ?_
  · have e0:mark n (fun i=>decide (i<0)&&q i) c=c:=by
      rw [show (fun i=>decide (i<0)&&q i)=fun _=>false from funext fun i=>by simp]
      exact QN hc
    rw [e0] at key
    exact key
  · have hk:k<n:=by have:=bC hx;simpa using this
    rw [step k _ hk (wX _ _ _),QM]
  · rw [List.length_range,fin _ (wX _ _ _)]
    congr 2
    unfold mark
    refine List.map_congr_left fun i hi=>?_
    have:=List.mem_range.1 hi
    simp [this]
theorem TF {s:RS} (h:SL1 s):vG (toC s)=some (toC s)∧sO s=some s:=by
  have h1:=h.c;have h2:=h.d;have h3:=h.j;have h4:=h.f;have h5:=h.h
  have ap:∀ {α:Type} {l:List α},l.length≤1048576→app [] l=some l:=fun {α l} hl=>by rw [qY (by unfold LIM;simp;omega)];rfl
  constructor
  · have key:aM (mK (toC s)) (0,[])=some s.Holes:=by
      have:=Le s.Holes (fun t=>t) (mK (toC s)) h5 (fun k t acc ht=>?_) (fun acc=>?_)
      · rw [this,List.map_id']
      · have hk:=bC ht
        have ht':(toC s).Holes[k]?=some t:=ht
        unfold mK
        have hd:decide ((k:Int)<((toC s).Holes.length:Int))=true:=by show decide ((k:Int)<(s.Holes.length:Int))=true;simp [hk]
        have e:∀ f:List Bool→Option (Int×List (List Bool) ⊕ List (List Bool)),(app [] t).bind f=f t:=fun f=>by rw [ap (h.hh t (List.mem_of_getElem? ht))];rfl
        simp only [hd,if_true,aP ht',Option.bind_some,aZ k (by omega)]
        exact e _
      · unfold mK
        have:¬ (s.Holes.length:Int)<((toC s).Holes.length:Int):=by show ¬ (s.Holes.length:Int)<(s.Holes.length:Int);omega
        simp [this]
    show (app [] s.Cut).bind (fun r9=>(app [] s.Done).bind fun r10=>(app [] s.Joints).bind fun r11=>(app [] s.Fallen).bind fun r12=>(aM (mK (toC s)) (0,[])).bind fun x114=>some (cut_State.mk r9 x114 r10 r11 r12))=_
    rw [ap h1,ap h2,ap h3,ap h4]
    simp only [Option.bind_some,key]
    rfl
  · have key:aM (kG s) (0,[])=some s.Holes:=by
      have:=Le s.Holes (fun t=>t) (kG s) h5 (fun k t acc ht=>?_) (fun acc=>?_)
      · rw [this,List.map_id']
      · have hk:=bC ht
        unfold kG
        have hd:decide ((k:Int)<(s.Holes.length:Int))=true:=by simp [hk]
        simp only [hd,if_true,aP ht,Option.bind_some,ap (h.hh t (List.mem_of_getElem? ht)),aZ k (by omega)]
      · simp [kG]
    unfold sO
    rw [ap h1,ap h2,ap h3,ap h4]
    simp only [Option.bind_some,key]
def IP (es:List EdgeT) (c D:List Bool) (J:List Int) (i:Nat):Bool:=Ph es c (i:Int)&&!(D.getD i false&&decide (J.getD i 0>0))
def fell (n:Nat) (es:List EdgeT) (c:List Bool) (D:List Bool) (J:List Int) (F:List Bool):List Bool:=mark n (IP es c D J) F
def ZE (n:Nat) (es:List EdgeT) (s:RS) (p h:Nat) (t:List Bool):RS:=⟨s.Cut,s.Holes.set p (t.set h true),s.Done,s.Joints,fell n es s.Cut s.Done s.Joints s.Fallen⟩
def CP (es:List EdgeT) (p:Int) (i:Nat):Bool:=match es[i]? with
  | some e=>ofB e p
  | none=>false
def ZI (n:Nat) (es:List EdgeT) (s:RS) (p:Nat) (j:Int):RS:=
  ⟨mark es.length (CP es (p:Int)) s.Cut,s.Holes,s.Done.set p true,s.Joints.set p j,fell n es (mark es.length (CP es (p:Int)) s.Cut) (s.Done.set p true) (s.Joints.set p j) s.Fallen⟩
section
variable {l:LayoutT} (n8:l.Pieces.length≤8) {es:List EdgeT} (hes:es.length≤1000000)
include n8 hes
theorem DU {c:List Bool} (hc:c.length=es.length) (H:List (List Bool)) {D:List Bool} (hD:D.length=l.Pieces.length) {J:List Int} (hJ:J.length=l.Pieces.length) {F:List Bool} (hF:F.length=l.Pieces.length) :
    aM (Bf l es (c,H,D,J)) (0,F)=some (fell l.Pieces.length es c D J F)∧aM (kK es (c,H,D,J)) (0,F)=some (fell l.Pieces.length es c D J F):=by
  have core:∀ k,k<l.Pieces.length→∃ d j,D[k]?=some d∧J[k]?=some j∧D.getD k false=d∧J.getD k 0=j:=fun k hk=>by
    have e1:D[k]?=some (D[k]'(by omega)):=List.getElem?_eq_getElem (by omega)
    have e2:J[k]?=some (J[k]'(by omega)):=List.getElem?_eq_getElem (by omega)
    exact ⟨_,_,e1,e2,Da e1,Da e2⟩
  constructor
  · refine Qu (Bf l es (c,H,D,J)) (IP es c D J) hF (fun k c' hk hc'=>?_) (fun c' _=>by simp [Bf])
    obtain ⟨d,j,e1,e2,e3,e4⟩:=core k hk
    have e5:c'[k]?=some (c'[k]'(by omega)):=List.getElem?_eq_getElem (by omega)
    unfold Bf IP
    have hd:decide ((k:Int)<(l.Pieces.length:Int))=true:=by simp [hk]
    simp only [hd,if_true,free_eq hes hc,Option.bind_some,aP e1,aP e2,e3,e4,aP e5,Qk,aZ k (by omega),Int.toNat_natCast]
    cases Ph es c (k:Int) <;> cases d <;> cases decide (j>0) <;> rfl
  · refine Qu (kK es (c,H,D,J)) (IP es c D J) hF (fun k c' hk hc'=>?_) (fun c' hc'=>by simp [kK,hc'])
    obtain ⟨d,j,e1,e2,e3,e4⟩:=core k hk
    have e5:c'[k]?=some (c'[k]'(by omega)):=List.getElem?_eq_getElem (by omega)
    unfold kK IP
    have hd:decide ((k:Int)<(c'.length:Int))=true:=by simp;omega
    simp only [hd,if_true,JF hes hc,Option.bind_some,aP e1,aP e2,e3,e4,aP e5,nV,aZ k (by omega),Int.toNat_natCast]
    cases Ph es c (k:Int) <;> cases d <;> cases decide (j>0) <;> rfl
omit n8 in
theorem TH {c:List Bool} (hc:c.length=es.length) (x:ItemT) {p:Nat} (hp:x.Piece=p):aM (Fb es x) (0,c)=some (mark es.length (CP es (p:Int)) c)∧aM (kL es x) (0,c)=some (mark es.length (CP es (p:Int)) c):=by
  constructor
  · refine Qu (Fb es x) (CP es (p:Int)) hc (fun k c' hk hc'=>?_) (fun c' _=>by simp [Fb])
    have e1:es[k]?=some es[k]:=List.getElem?_eq_getElem hk
    have e5:c'[k]?=some (c'[k]'(by omega)):=List.getElem?_eq_getElem (by omega)
    unfold Fb CP
    have hd:decide ((k:Int)<(es.length:Int))=true:=by simp [hk]
    simp only [hd,if_true,aP e1,e1,Option.bind_some,VF,hp,aP e5,Ql,aZ k (by omega),Int.toNat_natCast]
    cases ofB es[k] (p:Int) <;> rfl
  · refine Qu (kL es x) (CP es (p:Int)) hc (fun k c' hk hc'=>?_) (fun c' _=>by simp [kL])
    have e1:es[k]?=some es[k]:=List.getElem?_eq_getElem hk
    have e5:c'[k]?=some (c'[k]'(by omega)):=List.getElem?_eq_getElem (by omega)
    unfold kL CP ofB
    have hd:decide ((k:Int)<(es.length:Int))=true:=by simp [hk]
    simp only [hd,if_true,aP e1,e1,Option.bind_some,hp,aP e5,nW,aZ k (by omega),Int.toNat_natCast]
    cases (es[k].A==(p:Int)) <;> cases (es[k].B==(p:Int)) <;> rfl
end
inductive Does (l:LayoutT) (es:List EdgeT) (s:RS) (x:ItemT):RS→Prop
  | hole {p h:Nat} {y:Piece} {t:List Bool} (hp:x.Piece=p) (hh:x.Hole=h) (hj:x.Joints=0) (hy:l.Pieces[p]?=some y) (hf:s.Fallen[p]?=some false) (ht:s.Holes[p]?=some t) (hb:t[h]?=some false):Does l es s x (ZE l.Pieces.length es s p h t)
  | line {p:Nat} {y:Piece} {t:List Bool} (hp:x.Piece=p) (hh:x.Hole=-1) (hj:0≤x.Joints∧x.Joints≤4) (hy:l.Pieces[p]?=some y) (hf:s.Fallen[p]?=some false) (hd:s.Done[p]?=some false) (ht:s.Holes[p]?=some t) (ha:(t.all fun b=>b)=true) (hn:Ph es s.Cut (p:Int)=false):Does l es s x (ZI l.Pieces.length es s p x.Joints)
theorem XG {l:LayoutT} (hl:LV l) {es:List EdgeT} (hes:es.length≤1000000) {s:RS} (hs:SL1 s) (x:ItemT) :
    ∃ e,nX l es s x=some e∧((e≠0∧Vz l es (toC s) x=some (toC noS,e))∨(e=0∧Fit l es.length s∧∃ s',Does l es s x s'∧Vz l es (toC s) x=some (toC s',0)∧kI es s x=some s')):=by
  obtain ⟨b,f1,f2,f3⟩:=QA hl.n es.length hs
  obtain ⟨k1,k2⟩:=TF hs
  unfold nX Vz
  rw [f1,f2]
  simp only [Option.bind_some]
  cases b with
  | false=>exact ⟨1,rfl,.inl ⟨by decide,rfl⟩⟩
  | true =>
  have fit:=f3.1 rfl
  simp only [if_true]
  by_cases a1:x.Piece<0
  · exact ⟨1,by simp [a1],.inl ⟨by decide,by simp [a1];rfl⟩⟩
  by_cases a2:x.Piece ≥ (l.Pieces.length:Int)
  · exact ⟨1,by simp [a1,a2],.inl ⟨by decide,by simp [a1,a2];rfl⟩⟩
  obtain ⟨p,hp⟩:∃ p:Nat,x.Piece=p:=⟨x.Piece.toNat,by omega⟩
  have hpl:p<l.Pieces.length:=by omega
  have hy:l.Pieces[p]?=some l.Pieces[p]:=List.getElem?_eq_getElem hpl
  generalize l.Pieces[p]=y at hy
  have b1:¬ ((p:Nat):Int)<0:=by omega
  have b2:¬ ((p:Nat):Int) ≥ (l.Pieces.length:Int):=by omega
  simp only [hp,b1,b2,decide_false,Bool.false_eq_true,if_false,Option.bind_some,aP hy]
  by_cases a3:x.Hole < -1
  · exact ⟨1,by simp [a3],.inl ⟨by decide,by simp [a3];rfl⟩⟩
  by_cases a4:x.Hole ≥ (y.Cuts.length:Int)
  · exact ⟨1,by simp [a3,a4],.inl ⟨by decide,by simp [a3,a4];rfl⟩⟩
  by_cases a5:x.Joints<0
  · exact ⟨1,by simp [a3,a4,a5],.inl ⟨by decide,by simp [a3,a4,a5];rfl⟩⟩
  by_cases a6:x.Joints>4
  · exact ⟨1,by simp [a3,a4,a5,a6],.inl ⟨by decide,by simp [a3,a4,a5,a6];rfl⟩⟩
  have hf:s.Fallen[p]?=some (s.Fallen[p]'(by have:=fit.f;omega)):=List.getElem?_eq_getElem (by have:=fit.f;omega)
  have hh:s.Holes[p]?=some (s.Holes[p]'(by have:=fit.h;omega)):=List.getElem?_eq_getElem (by have:=fit.h;omega)
  have hd:s.Done[p]?=some (s.Done[p]'(by have:=fit.d;omega)):=List.getElem?_eq_getElem (by have:=fit.d;omega)
  have hjn:s.Joints[p]?=some (s.Joints[p]'(by have:=fit.j;omega)):=List.getElem?_eq_getElem (by have:=fit.j;omega)
  generalize s.Fallen[p]'(by have:=fit.f;omega)=fl at hf
  generalize s.Holes[p]'(by have:=fit.h;omega)=t at hh
  generalize s.Done[p]'(by have:=fit.d;omega)=dn at hd
  generalize s.Joints[p]'(by have:=fit.j;omega)=jt at hjn
  have htl:=fit.hh p t y hh hy
  have htm:=hs.hh t (List.mem_of_getElem? hh)
  have hf':(toC s).Fallen[p]?=some fl:=hf
  have hh':(toC s).Holes[p]?=some t:=hh
  have hd':(toC s).Done[p]?=some dn:=hd
  have hjn':(toC s).Joints[p]?=some jt:=hjn
  by_cases a7:x.Hole ≥ 0
  · -- a hole
    by_cases a8:x.Joints=0
    case neg =>
      have:(x.Joints != 0)=true:=by simp [a8]
      exact ⟨1,by simp [a3,a4,a5,a6,a7,this],.inl ⟨by decide,by simp [a3,a4,a5,a6,a7,this];rfl⟩⟩
    obtain ⟨h,hh0⟩:∃ h:Nat,x.Hole=h:=⟨x.Hole.toNat,by omega⟩
    have hhl:h<t.length:=by omega
    have hb:t[h]?=some t[h]:=List.getElem?_eq_getElem hhl
    have hc:y.Cuts[h]?=some (y.Cuts[h]'(by omega)):=List.getElem?_eq_getElem (by omega)
    generalize t[h]=bh at hb
    generalize y.Cuts[h]'(by omega)=cr at hc
    have n7:¬ x.Hole<0:=by omega
    have j0:(x.Joints != 0)=false:=by simp [a8]
    have b3:¬ ((h:Nat):Int) < -1:=by omega
    have b4:¬ ((h:Nat):Int) ≥ (y.Cuts.length:Int):=by omega
    have b7:((h:Nat):Int) ≥ 0:=by omega
    have bn7:¬ ((h:Nat):Int)<0:=by omega
    unfold yF wK
    simp only [b3,b4,a5,a6,b7,bn7,j0,hp,decide_true,decide_false,Bool.false_eq_true,if_false,if_true,Option.bind_some,aP hf,aP hf',aP hh,aP hh',hh0,aP hb,aP hc,aP hy]
    cases fl with
    | true=>exact ⟨12,rfl,.inl ⟨by decide,rfl⟩⟩
    | false =>
    cases bh with
    | true=>exact ⟨12,rfl,.inl ⟨by decide,rfl⟩⟩
    | false =>
    simp only [Bool.false_eq_true,if_false,Option.bind_some,Bool.not_false,Bool.not_true]
    have fin:∀ r:Bool,∃ e,(if r=true then some (14:Int) else some 0)=some e∧((e≠0∧(if r=true then some (cut_State.mk [] [] [] [] [],(14:Int)) else (vG (toC s)).bind fun r34=>(idx r34.Holes (p:Int)).bind fun x214=>(idx x214 (h:Int)).bind fun x215=>Be l es r34 (r34.Cut,(List.set r34.Holes (Int.toNat (p:Int)) (List.set x214 (Int.toNat (h:Int)) true)),r34.Done,r34.Joints))=some (toC noS,e))∨(e=0∧Fit l es.length s∧∃ s',Does l es s x s'∧(if r=true then some (cut_State.mk [] [] [] [] [],(14:Int)) else (vG (toC s)).bind fun r34=>(idx r34.Holes (p:Int)).bind fun x214=>(idx x214 (h:Int)).bind fun x215=>Be l es r34 (r34.Cut,(List.set r34.Holes (Int.toNat (p:Int)) (List.set x214 (Int.toNat (h:Int)) true)),r34.Done,r34.Joints))=some (toC s',0)∧kI es s x=some s')):=fun r=>by
      cases r with
      | true=>exact ⟨14,rfl,.inl ⟨by decide,rfl⟩⟩
      | false =>
        obtain ⟨l1,l2⟩:=DU (l:=l) hl.n hes fit.c (s.Holes.set p (t.set h true)) fit.d fit.j fit.f
        refine ⟨0,rfl,.inr ⟨rfl,fit,ZE l.Pieces.length es s p h t,.hole hp hh0 a8 hy hf hh hb, ?_, ?_⟩⟩
        · simp only [Bool.false_eq_true,if_false,k1,Option.bind_some,aP hh',aP hb,Int.toNat_natCast]
          unfold Be
          show (aM (Bf l es (s.Cut,s.Holes.set p (t.set h true),s.Done,s.Joints)) (0,s.Fallen)).bind _=_
          rw [l1];rfl
        · unfold kI
          rw [k2]
          have d7:decide (x.Hole ≥ 0)=true:=by simp [a7]
          simp only [Option.bind_some,d7,if_true,hp,hh0,aP hh,aP hb,Int.toNat_natCast]
          unfold kJ
          rw [l2];rfl
    have conv1:∀ (A B C D':Prop) [Decidable A] [Decidable B] [Decidable C] [Decidable D'],(if decide A then some true else if decide B then some true else if decide C then some true else some (decide D'))=some (decide A || decide B || decide C || decide D'):=fun A B C D' _ _ _ _=>by
      by_cases h1:A <;> by_cases h2:B <;> by_cases h3:C <;> simp [h1,h2,h3]
    rw [conv1]
    have conv2:(if decide (x.Lead.X>cr.X)=true then (if decide (x.Lead.X<aL cr.X cr.W)=true then (if decide (x.Lead.Y>cr.Y)=true then some (decide (x.Lead.Y<aL cr.Y cr.H)) else some false) else some false) else some false)=some (!(decide (x.Lead.X≤cr.X) || decide (x.Lead.X ≥ aL cr.X cr.W) || decide (x.Lead.Y≤cr.Y) || decide (x.Lead.Y ≥ aL cr.Y cr.H))):=by
      by_cases h1:x.Lead.X≤cr.X
      · have:¬ x.Lead.X>cr.X:=by omega
        simp [h1,this]
      · have n1:x.Lead.X>cr.X:=by omega
        by_cases h2:x.Lead.X ≥ aL cr.X cr.W
        · have:¬ x.Lead.X<aL cr.X cr.W:=by omega
          simp [h1,n1,h2,this]
        · have n2:x.Lead.X<aL cr.X cr.W:=by omega
          by_cases h3:x.Lead.Y≤cr.Y
          · have:¬ x.Lead.Y>cr.Y:=by omega
            simp [h1,n1,h2,n2,h3,this]
          · have n3:x.Lead.Y>cr.Y:=by omega
            by_cases h4:x.Lead.Y ≥ aL cr.Y cr.H
            · have:¬ x.Lead.Y<aL cr.Y cr.H:=by omega
              simp [h1,n1,h2,n2,h3,n3,h4,this]
            · have n4:x.Lead.Y<aL cr.Y cr.H:=by omega
              simp [h1,n1,h2,n2,h3,n3,h4,n4]
    rw [conv2]
    simp only [Option.bind_some,Bool.not_not]
    exact fin _
  · -- an outline
    have hm1:x.Hole=-1:=by omega
    have n7:x.Hole<0:=by omega
    obtain ⟨sb,s1,s2⟩:∃ b,Ju y=some b∧mJ y=some b:=⟨_,SA y (by have:=hl.r12 y (List.mem_of_getElem? hy);omega),QU y (by have:=hl.r12 y (List.mem_of_getElem? hy);omega)⟩
    obtain ⟨lb,l1,l2,_⟩:=QK hl hes fit.c x n7
    have fr1:=free_eq hes fit.c (p:Int) s.Holes s.Done s.Joints s.Fallen
    have fr2:=JF hes fit.c (p:Int) s.Holes s.Done s.Joints s.Fallen
    have fr1':uG (toC s) es (p:Int)=some (Ph es s.Cut (p:Int)):=fr1
    have fr2':jK es s (p:Int)=some (Ph es s.Cut (p:Int)):=fr2
    rw [hp] at l2
    unfold yF
    simp only [a3,a4,a5,a6,a7,n7,hp,decide_true,decide_false,Bool.false_eq_true,if_false,if_true,Option.bind_some,aP hf,aP hf',aP hh,aP hh',aP hd,aP hd',Zk t htm,ZV t htm,fr1',fr2',s1,s2,l1,l2]
    cases fl with
    | true=>exact ⟨12,rfl,.inl ⟨by decide,rfl⟩⟩
    | false =>
    cases dn with
    | true=>exact ⟨12,rfl,.inl ⟨by decide,rfl⟩⟩
    | false =>
    cases ha:(t.all fun b=>b) with
    | false=>exact ⟨12,rfl,.inl ⟨by decide,rfl⟩⟩
    | true =>
    cases hfr:Ph es s.Cut (p:Int) with
    | true=>exact ⟨12,rfl,.inl ⟨by decide,rfl⟩⟩
    | false =>
    simp only [Bool.false_eq_true,if_false,Option.bind_some,Bool.not_false,Bool.not_true,if_true]
    have hsm:∀ b:Bool,(if (x.Joints==0)=true then some sb else some false)=some b→(b=true→∃ e,(some (15:Int))=some e∧e≠0):=fun b _ _=>⟨15,rfl,by decide⟩
    cases hz:(if (x.Joints==0)=true then some sb else some false:Option Bool) with
    | none=>cases hj0:(x.Joints==0) <;> simp [hj0] at hz
    | some bz =>
    simp only [Option.bind_some]
    cases bz with
    | true=>exact ⟨15,rfl,.inl ⟨by decide,rfl⟩⟩
    | false =>
    simp only [Bool.false_eq_true,if_false]
    cases lb with
    | false=>exact ⟨14,rfl,.inl ⟨by decide,rfl⟩⟩
    | true =>
    simp only [Bool.not_true,Bool.false_eq_true,if_false,k1,Option.bind_some,aP hd',aP hjn',Int.toNat_natCast]
    obtain ⟨c1,c2⟩:=TH hes fit.c x hp
    have hml:(mark es.length (CP es (p:Int)) s.Cut).length=es.length:=wX _ _ _
    obtain ⟨g1,g2⟩:=DU (l:=l) hl.n hes hml s.Holes (D:=s.Done.set p true) (by rw [List.length_set];exact fit.d) (J:=s.Joints.set p x.Joints) (by rw [List.length_set];exact fit.j) fit.f
    refine ⟨0,rfl,.inr ⟨rfl,fit,ZI l.Pieces.length es s p x.Joints,.line hp hm1 (by omega) hy hf hd hh ha hfr, ?_, ?_⟩⟩
    · show (aM (Fb es x) (0,s.Cut)).bind _=_
      rw [c1]
      simp only [Option.bind_some]
      unfold Be
      show (aM (Bf l es (mark es.length (CP es (p:Int)) s.Cut,s.Holes,s.Done.set p true,s.Joints.set p x.Joints)) (0,s.Fallen)).bind _=_
      rw [g1];rfl
    · unfold kI
      rw [k2]
      have d7:decide (x.Hole ≥ 0)=false:=by simp;omega
      simp only [Option.bind_some,d7,Bool.false_eq_true,if_false,hp,aP hd,aP hjn,c2,Int.toNat_natCast]
      unfold kJ
      rw [g2];rfl
end Go.SM
