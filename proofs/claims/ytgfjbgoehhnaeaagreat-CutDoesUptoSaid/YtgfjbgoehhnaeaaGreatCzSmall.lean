/- The law CutSmall, on the models. -/
import Derived.Test.YtgfjbgoehhnaeaaGreatCzMD
import Derived.Test.YtgfjbgoehhnaeaaGreatCzClear
set_option linter.unusedVariables false
set_option linter.unusedSimpArgs false
set_option linter.unusedSectionVars false
namespace Go.SM
open Go Go.VI
def Xw (l:List Rect):Int×Int×Int×Int:=l.foldl (fun s r=>if vR r then (if s.2.2.1=0 then (r.X,r.Y,r.W,r.H) else (min s.1 r.X,min s.2.1 r.Y,max (s.1+s.2.2.1) (r.X+r.W)-min s.1 r.X,max (s.2.1+s.2.2.2) (r.Y+r.H)-min s.2.1 r.Y)) else s) (0,0,0,0)
def Vx (l:List Rect):Bool×Int×Int×Int×Int:=l.foldl (fun s r=>if vR r then (if s.1 then (true,min s.2.1 r.X,min s.2.2.1 r.Y,max s.2.2.2.1 (r.X+r.W),max s.2.2.2.2 (r.Y+r.H)) else (true,r.X,r.Y,r.X+r.W,r.Y+r.H)) else s) (false,0,0,0,0)
def RY (p:Int×Int×Int×Int) (d:Bool×Int×Int×Int×Int):Prop:=
  (d.1=false∧p=(0,0,0,0))∨(d.1=true∧p=(d.2.1,d.2.2.1,d.2.2.2.1-d.2.1,d.2.2.2.2-d.2.2.1)∧-1048576≤d.2.1∧d.2.1<d.2.2.2.1∧d.2.2.2.1≤1048576∧-1048576≤d.2.2.1∧d.2.2.1<d.2.2.2.2∧d.2.2.2.2≤1048576)
theorem take_snoc' {α:Type} {l:List α} {k:Nat} {x:α} (h:l[k]?=some x):l.take (k+1)=l.take k++[x]:=by
  rw [List.take_add_one,h];rfl
def stP (s:Int×Int×Int×Int) (r:Rect):Int×Int×Int×Int:=if vR r then (if s.2.2.1=0 then (r.X,r.Y,r.W,r.H) else (min s.1 r.X,min s.2.1 r.Y,max (s.1+s.2.2.1) (r.X+r.W)-min s.1 r.X,max (s.2.1+s.2.2.2) (r.Y+r.H)-min s.2.1 r.Y)) else s
def stD (s:Bool×Int×Int×Int×Int) (r:Rect):Bool×Int×Int×Int×Int:=if vR r then (if s.1 then (true,min s.2.1 r.X,min s.2.2.1 r.Y,max s.2.2.2.1 (r.X+r.W),max s.2.2.2.2 (r.Y+r.H)) else (true,r.X,r.Y,r.X+r.W,r.Y+r.H)) else s
theorem WY {p:Int×Int×Int×Int} {d:Bool×Int×Int×Int×Int} (ih:RY p d) (r:Rect):RY (stP p r) (stD d r):=by
  unfold stP stD
  by_cases hv:vR r
  · rw [if_pos hv,if_pos hv]
    unfold vR at hv
    rcases ih with ⟨h1,rfl⟩ | ⟨h1,rfl,hb⟩
    · rw [h1]
      refine .inr ⟨by simp, ?_, ?_⟩
      · simp
        omega
      · simp;omega
    · rw [h1]
      simp only [if_true]
      rw [if_neg (by omega)]
      refine .inr ⟨rfl, ?_, ?_⟩
      · simp only [Prod.mk.injEq,true_and]
        omega
      · simp only;omega
  · rw [if_neg hv,if_neg hv];exact ih
theorem ZA:∀ (l:List Rect) {p:Int×Int×Int×Int} {d:Bool×Int×Int×Int×Int},RY p d→RY (l.foldl stP p) (l.foldl stD d)
  | [],_,_,h=>h
  | r::l,_,_,h=>ZA l (WY h r)
theorem J2 (l:List Rect):RY (Xw l) (Vx l):=ZA l (.inl ⟨rfl,rfl⟩)
theorem PH {l:List Rect} {k:Nat} {r:Rect} (h:l[k]?=some r):Xw (l.take (k+1))=stP (Xw (l.take k)) r:=by
  rw [take_snoc' h];unfold Xw;rw [List.foldl_append];rfl
theorem PG {l:List Rect} {k:Nat} {r:Rect} (h:l[k]?=some r):Vx (l.take (k+1))=stD (Vx (l.take k)) r:=by
  rw [take_snoc' h];unfold Vx;rw [List.foldl_append];rfl
theorem KL (x:Piece) (h:x.Rects.length≤9223372036854775806):aM (zK x) (0,0,0,0,0)=some (Xw x.Rects):=by
  refine Bn x.Rects (zK x) (fun k=>((k:Int),Xw (x.Rects.take k))) _ (fun k r hr=>?_) ?_
  · have hk:=(List.getElem?_eq_some_iff.1 hr).1
    have hb:=J2 (x.Rects.take k)
    rw [PH hr]
    unfold zK
    have h1:decide ((k:Int)<(x.Rects.length:Int))=true:=by simp;omega
    generalize Xw (x.Rects.take k)=p at hb ⊢
    generalize Vx (x.Rects.take k)=d at hb
    simp only [h1,if_true,aP hr,Option.bind_some,uU,zJ,stP]
    rw [aS (a:=(k:Int)) (by omega) (by omega)]
    by_cases hv:vR r
    · have hv':=hv
      unfold vR at hv'
      simp only [hv,decide_true,Bool.not_true,Bool.false_eq_true,if_false,if_true]
      by_cases h0:p.2.2.1=0
      · simp [h0]
      · rcases hb with ⟨_,rfl⟩ | ⟨_,rfl,hb⟩
        · exact absurd rfl h0
        · simp only at h0 ⊢
          have h0':(d.2.2.2.1-d.2.1==0)=false:=by rw [beq_eq_false_iff_ne];exact h0
          simp only [h0',h0,Bool.false_eq_true,if_false,Ei,Uw]
          rw [aS (a:=d.2.1) (by omega) (by omega),aS (a:=d.2.2.1) (by omega) (by omega),aS (a:=r.X) (by omega) (by omega),aS (a:=r.Y) (by omega) (by omega),aY (by omega) (by omega),aY (by omega) (by omega)]
          rfl
    · simp [hv]
  · simp [zK]
theorem SA (x:Piece) (h:x.Rects.length≤9223372036854775806):Ju x=some (decide (min (Xw x.Rects).2.2.1 (Xw x.Rects).2.2.2<7200)):=by
  unfold Ju
  rw [KL x h]
  simp [Ei]
theorem JR (x:Piece) (h:x.Rects.length≤9223372036854775806):aM (jM x) (false,0,0,0,0,0)=some (Vx x.Rects):=by
  refine Bn x.Rects (jM x) (fun k=>((Vx (x.Rects.take k)).1,(Vx (x.Rects.take k)).2.1,(Vx (x.Rects.take k)).2.2.1,(Vx (x.Rects.take k)).2.2.2.1,(Vx (x.Rects.take k)).2.2.2.2,(k:Int))) _ (fun k r hr=>?_) ?_
  · have hk:=(List.getElem?_eq_some_iff.1 hr).1
    rw [PG hr]
    unfold jM
    have h1:decide ((k:Int)<(x.Rects.length:Int))=true:=by simp;omega
    generalize Vx (x.Rects.take k)=d
    obtain ⟨d1,d2,d3,d4,d5⟩:=d
    simp only [h1,if_true,aP hr,Option.bind_some,Ou,nI,nJ,stD]
    rw [aS (a:=(k:Int)) (by omega) (by omega)]
    by_cases hv:vR r
    · have hv':=hv
      unfold vR at hv'
      simp only [hv,decide_true,Bool.not_true,Bool.false_eq_true,if_false,if_true,Ei,Uw]
      rw [aS (a:=r.X) (by omega) (by omega),aS (a:=r.Y) (by omega) (by omega)]
      cases d1 with
      | false =>
        simp
      | true=>simp
    · simp [hv]
  · simp [jM]
theorem QU (x:Piece) (h:x.Rects.length≤9223372036854775806):mJ x=some (decide (min (Xw x.Rects).2.2.1 (Xw x.Rects).2.2.2<7200)):=by
  unfold mJ
  rw [JR x h]
  have hb:=J2 x.Rects
  simp only [Option.bind_some]
  generalize Xw x.Rects=p at hb ⊢
  generalize Vx x.Rects=d at hb ⊢
  rcases hb with ⟨h1,rfl⟩ | ⟨h1,rfl,hb⟩
  · simp [h1]
  · simp only [h1,if_true,Option.bind_some,Ei]
    rw [aY (by omega) (by omega),aY (by omega) (by omega)]
def zI (l:List Rect) (x y:Int):Bool:=l.any fun r=>decide (vV ⟨x,y,1,1⟩ r)
theorem RN (l:List Rect) (x y:Int) (h:l.length≤9223372036854775806):gB l x y=some (zI l x y):=by
  unfold gB
  have hL:aM (jA l x y) 0=some (if l.any (fun r=>decide (vV ⟨x,y,1,1⟩ r)) then .inl () else .inr ()):=by
   refine AY l (jA l x y) (fun r=>decide (vV ⟨x,y,1,1⟩ r)) (.inr ()) (.inl ()) (fun k r hr=>?_) ?_
   · have hk:=(List.getElem?_eq_some_iff.1 hr).1
     have h1:decide ((k:Int)<(l.length:Int))=true:=by simp;omega
     unfold jA
     simp only [h1,if_true,aP hr,Option.bind_some,Vu]
     rw [aS (by omega) (by omega)]
     rfl
   · simp [jA]
  rw [hL]
  unfold zI
  cases l.any fun r=>decide (vV ⟨x,y,1,1⟩ r) <;> rfl
theorem IB (l:List Rect) (x y:Int) (h:l.length≤9223372036854775806):bJ l x y 1 1=some (zI l x y):=by
  unfold bJ dJ
  have key:∀ n k,k+n=l.length→∃ r:Int ⊕ Unit,aM (bE l x y 1 1) (k:Int)=some r∧(match r with | .inl j=>0≤j∧zI (l.drop k) x y=true | .inr _=>zI (l.drop k) x y=false):=by
    intro n
    induction n with
    | zero =>
      intro k hk
      obtain rfl:k=l.length:=by omega
      exact ⟨.inr (),fU (by simp [bE]),by simp [zI]⟩
    | succ n ih =>
      intro k hk
      have hlt:k<l.length:=by omega
      have hr:l[k]?=some l[k]:=by simp
      have h1:decide ((k:Int)<(l.length:Int))=true:=by simp;omega
      have hb:bE l x y 1 1 (k:Int)=if decide (vV ⟨x,y,1,1⟩ l[k]) then some (.inr (.inl (k:Int))) else some (.inl ((k+1:Nat):Int)):=by
        unfold bE Fq
        simp only [h1,if_true,aP hr,Option.bind_some,Vt]
        rw [aS (by omega) (by omega)]
        rfl
      have e:zI (l.drop k) x y=(decide (vV ⟨x,y,1,1⟩ l[k]) || zI (l.drop (k+1)) x y):=by
        unfold zI;rw [List.drop_eq_getElem_cons hlt,List.any_cons]
      by_cases hq:vV ⟨x,y,1,1⟩ l[k]
      · rw [if_pos (by simpa using hq)] at hb
        exact ⟨.inl k,fU hb,by omega,by rw [e];simp [hq]⟩
      · rw [if_neg (by simpa using hq)] at hb
        obtain ⟨r,q1,q2⟩:=ih (k+1) (by omega)
        refine ⟨r,(lQ hb).trans q1, ?_⟩
        cases r with
        | inl j=>exact ⟨q2.1,by rw [e,q2.2];simp⟩
        | inr u=>simp only at q2 ⊢;rw [e,q2];simp [hq]
  obtain ⟨r,q1,q2⟩:=key l.length 0 (by omega)
  rw [show (0:Int)=((0:Nat):Int) from rfl,q1]
  cases r with
  | inl j=>simp only [List.drop_zero] at q2;simp [q2.1,q2.2]
  | inr u=>simp only [List.drop_zero] at q2;simp [q2]
theorem UL (l:List Rect) (s:Spot) (h:l.length≤9223372036854775806) (hb : -4194304≤s.X∧s.X≤4194304∧-4194304≤s.Y∧s.Y≤4194304):mW l s=some (zI l (s.X-1) (s.Y-1)&&(zI l s.X (s.Y-1)&&(zI l (s.X-1) s.Y&&zI l s.X s.Y))):=by
  unfold mW
  have b1:¬ s.X < -4194304:=by omega
  have b2:¬ s.X>4194304:=by omega
  have b3:¬ s.Y < -4194304:=by omega
  have b4:¬ s.Y>4194304:=by omega
  simp only [b1,b2,b3,b4,decide_false,Bool.false_eq_true,if_false,Option.bind_some]
  have hL:aM (vE l s) 0=some (if [(⟨s.X-1,s.Y-1,1,1⟩:Rect),⟨s.X,s.Y-1,1,1⟩,⟨s.X-1,s.Y,1,1⟩,⟨s.X,s.Y,1,1⟩].all (fun q=>zI l q.X q.Y) then .inr () else .inl ()):=by
   refine Ld [(⟨s.X-1,s.Y-1,1,1⟩:Rect),⟨s.X,s.Y-1,1,1⟩,⟨s.X-1,s.Y,1,1⟩,⟨s.X,s.Y,1,1⟩] (vE l s) (fun q=>zI l q.X q.Y) (.inl ()) (.inr ()) (fun k q hq=>?_) ?_
   · have hk:=(List.getElem?_eq_some_iff.1 hq).1
     have h1:decide ((k:Int)<4)=true:=by simp at hk ⊢;omega
     have hwh:q.W=1∧q.H=1:=by
       have:=List.mem_of_getElem? hq
       simp only [List.mem_cons,List.not_mem_nil,or_false] at this
       rcases this with rfl | rfl | rfl | rfl <;> exact ⟨rfl,rfl⟩
     unfold vE
     rw [aY (by omega) (by omega),aY (by omega) (by omega)]
     simp only [List.length_cons,List.length_nil,Int.reduceAdd,Int.natCast_add,Int.cast_ofNat_Int,h1,if_true,aP hq,Option.bind_some,hwh.1,hwh.2,IB l _ _ h]
     rw [aS (by simp at hk;omega) (by simp at hk;omega)]
     cases zI l q.X q.Y <;> rfl
   · unfold vE
     simp
  rw [hL]
  simp only [List.all_cons,List.all_nil,Bool.and_true,Option.bind_some]
  cases zI l (s.X-1) (s.Y-1)&&(zI l s.X (s.Y-1)&&(zI l (s.X-1) s.Y&&zI l s.X s.Y)) <;> rfl
theorem WL (l:List Rect) (x y:Int) (h:¬ (-1048576≤x∧x<1048576∧-1048576≤y∧y<1048576)):zI l x y=false:=by
  unfold zI
  rw [List.any_eq_false]
  intro r _
  simp only [decide_eq_true_eq]
  rintro ⟨hv,_⟩
  unfold vR at hv
  simp only at hv
  omega
theorem Rh (l:List Rect) (s:Spot) (h:l.length≤9223372036854775806):∃ b,mW l s=some b∧eY l s=some b:=by
  by_cases hb : -4194304≤s.X∧s.X≤4194304∧-4194304≤s.Y∧s.Y≤4194304
  · refine ⟨_,UL l s h hb, ?_⟩
    unfold eY
    by_cases hn : -1048576<s.X∧s.X<1048576∧-1048576<s.Y∧s.Y<1048576
    · have b1:¬ s.X≤-1048576:=by omega
      have b2:¬ s.X ≥ 1048576:=by omega
      have b3:¬ s.Y≤-1048576:=by omega
      have b4:¬ s.Y ≥ 1048576:=by omega
      rw [aY (by omega) (by omega),aY (by omega) (by omega)]
      simp only [b1,b2,b3,b4,decide_false,Bool.false_eq_true,if_false,Option.bind_some,RN l _ _ h]
      cases zI l s.X s.Y <;> cases zI l (s.X-1) s.Y <;> cases zI l s.X (s.Y-1) <;> cases zI l (s.X-1) (s.Y-1) <;> rfl
    · have hf:(zI l (s.X-1) (s.Y-1)&&(zI l s.X (s.Y-1)&&(zI l (s.X-1) s.Y&&zI l s.X s.Y)))=false:=by
        by_cases q:s.X≤-1048576∨s.Y≤-1048576
        · rw [WL l (s.X-1) (s.Y-1) (by omega)];rfl
        · rw [WL l s.X s.Y (by omega)];simp
      rw [hf]
      by_cases q1:s.X≤-1048576
      · simp [q1]
      · by_cases q2:s.X ≥ 1048576
        · simp [q1,q2]
        · by_cases q3:s.Y≤-1048576
          · simp [q1,q2,q3]
          · have q4:s.Y ≥ 1048576:=by omega
            simp [q1,q2,q3,q4]
  · refine ⟨false, ?_, ?_⟩
    · unfold mW
      by_cases q1:s.X < -4194304
      · simp [q1]
      · by_cases q2:s.X>4194304
        · simp [q1,q2]
        · by_cases q3:s.Y < -4194304
          · simp [q1,q2,q3]
          · have q4:s.Y>4194304:=by omega
            simp [q1,q2,q3,q4]
    · unfold eY
      by_cases q1:s.X≤-1048576
      · simp [q1]
      · by_cases q2:s.X ≥ 1048576
        · simp [q1,q2]
        · by_cases q3:s.Y≤-1048576
          · simp [q1,q2,q3]
          · have q4:s.Y ≥ 1048576:=by omega
            simp [q1,q2,q3,q4]
end Go.SM
