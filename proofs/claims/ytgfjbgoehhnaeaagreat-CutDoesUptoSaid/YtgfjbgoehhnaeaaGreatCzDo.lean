/- One item: both answer the same. -/
import Derived.Test.YtgfjbgoehhnaeaaGreatCzSmall
import Derived.Test.YtgfjbgoehhnaeaaGreatCzEdges
import Derived.Test.YtgfjbgoehhnaeaaGreatCzMF
set_option linter.unusedVariables false
set_option linter.unusedSimpArgs false
set_option linter.unusedSectionVars false
namespace Go.SM
open Go Go.VI Go.Cells
abbrev RS:=sheetmetalref07_State
def toC (s:RS):cut_State:=⟨s.Cut,s.Holes,s.Done,s.Joints,s.Fallen⟩
def noS:RS:=⟨[],[],[],[],[]⟩
structure SL1 (s:RS):Prop where
  c:s.Cut.length≤1048576
  h:s.Holes.length≤1048576
  hh:∀ t ∈ s.Holes,t.length≤1048576
  d:s.Done.length≤1048576
  j:s.Joints.length≤1048576
  f:s.Fallen.length≤1048576
structure Fit (l:LayoutT) (n:Nat) (s:RS):Prop where
  c:s.Cut.length=n
  h:s.Holes.length=l.Pieces.length
  d:s.Done.length=l.Pieces.length
  j:s.Joints.length=l.Pieces.length
  f:s.Fallen.length=l.Pieces.length
  hh:∀ (k:Nat) t x,s.Holes[k]?=some t→l.Pieces[k]?=some x→t.length=x.Cuts.length
theorem QA {l:LayoutT} (n8:l.Pieces.length≤8) (n:Nat) {s:RS} (hs:SL1 s):∃ b,kU (toC s) l (n:Int)=some b∧eT l s (n:Int)=some b∧(b=true↔Fit l n s):=by
  have hb:∀ a b:Nat,((a:Int) != (b:Int))=!decide (a=b):=fun a b=>by
    by_cases h:a=b
    · subst h;simp
    · have:¬ (a:Int)=(b:Int):=by omega
      simp [h,this]
  by_cases h1:s.Cut.length=n
  · by_cases h2 : s.Holes.length=l.Pieces.length
    · by_cases h3:s.Done.length=l.Pieces.length
      · by_cases h4:s.Joints.length=l.Pieces.length
        · by_cases h5:s.Fallen.length=l.Pieces.length
          · let q:Nat→Bool:=fun k=>match s.Holes[k]?,l.Pieces[k]? with
              | some t,some x=>!decide (t.length=x.Cuts.length)
              | _,_=>false
            have g1:aM (rG (toC s) l) 0=some (if (List.range l.Pieces.length).any q then .inl () else .inr ()):=by
              refine kD l.Pieces.length (rG (toC s) l) (fun k=>(k:Int)) q _ _ rfl (fun k hk=>?_) ?_
              · have e1:s.Holes[k]?=some (s.Holes[k]'(by omega)):=List.getElem?_eq_getElem (by omega)
                have e2:l.Pieces[k]?=some l.Pieces[k]:=List.getElem?_eq_getElem hk
                have e1':(toC s).Holes[k]?=some (s.Holes[k]'(by omega)):=e1
                unfold rG
                have hd:decide ((k:Int)<(l.Pieces.length:Int))=true:=by simp [hk]
                simp only [hd,if_true,aP e1',aP e2,Option.bind_some,hb,q,e1,e2,aZ k (by omega)]
              · simp [rG]
            have g2:aM (kM l s) 0=some (if (List.range l.Pieces.length).any q then .inl () else .inr ()):=by
              refine kD l.Pieces.length (kM l s) (fun k=>(k:Int)) q _ _ rfl (fun k hk=>?_) ?_
              · have e1:s.Holes[k]?=some (s.Holes[k]'(by omega)):=List.getElem?_eq_getElem (by omega)
                have e2:l.Pieces[k]?=some l.Pieces[k]:=List.getElem?_eq_getElem hk
                unfold kM
                have hd:decide ((k:Int)<(l.Pieces.length:Int))=true:=by simp [hk]
                simp only [hd,if_true,aP e1,aP e2,Option.bind_some,hb,q,e1,e2,aZ k (by omega)]
              · simp [kM]
            refine ⟨!((List.range l.Pieces.length).any q), ?_, ?_, ?_⟩
            · unfold kU
              rw [g1]
              show (Option.bind (if ((s.Cut.length:Int) != (n:Int))=true then _ else _) _)=_
              simp only [toC,hb,h1,h2,h3,h4,h5,decide_true,Bool.not_true,Bool.false_eq_true,if_false,Option.bind_some]
              cases (List.range l.Pieces.length).any q <;> rfl
            · unfold eT
              rw [g2]
              simp only [hb,h1,h2,h3,h4,h5,decide_true,Bool.not_true,Bool.false_eq_true,if_false,Option.bind_some]
              cases (List.range l.Pieces.length).any q <;> rfl
            · rw [Bool.not_eq_true',List.any_eq_false]
              constructor
              · intro hq
                refine ⟨h1,h2,h3,h4,h5,fun k t x e1 e2=>?_⟩
                have:=hq k (List.mem_range.2 (bC e2))
                simp only [q,e1,e2] at this
                simpa using this
              · intro hf k hk
                have hk':=List.mem_range.1 hk
                have e1:s.Holes[k]?=some (s.Holes[k]'(by omega)):=List.getElem?_eq_getElem (by omega)
                have e2:l.Pieces[k]?=some l.Pieces[k]:=List.getElem?_eq_getElem hk'
                simp only [q,e1,e2,hf.hh k _ _ e1 e2]
                simp
          · refine ⟨false, ?_, ?_,by simp;exact fun hf=>h5 hf.f⟩
            · unfold kU;simp [toC,hb,h1,h2,h3,h4,h5]
            · unfold eT;simp [hb,h1,h2,h3,h4,h5]
        · refine ⟨false, ?_, ?_,by simp;exact fun hf=>h4 hf.j⟩
          · unfold kU;simp [toC,hb,h1,h2,h3,h4]
          · unfold eT;simp [hb,h1,h2,h3,h4]
      · refine ⟨false, ?_, ?_,by simp;exact fun hf=>h3 hf.d⟩
        · unfold kU;simp [toC,hb,h1,h2,h3]
        · unfold eT;simp [hb,h1,h2,h3]
    · refine ⟨false, ?_, ?_,by simp;exact fun hf=>h2 hf.h⟩
      · unfold kU;simp [toC,hb,h1,h2]
      · unfold eT;simp [hb,h1,h2]
  · refine ⟨false, ?_, ?_,by simp;exact fun hf=>h1 hf.c⟩
    · unfold kU;simp [toC,hb,h1]
    · unfold eT;simp [hb,h1]
def ofB (e:EdgeT) (p:Int):Bool:=(e.A==p) || (e.B==p)
theorem VF (e:EdgeT) (p:Int):We e p=some (ofB e p):=by
  unfold We ofB
  cases (e.A==p) <;> simp
def held (es:List EdgeT) (c:List Bool) (p:Int) (i:Nat):Bool:=match es[i]?,c[i]? with
  | some e,some b=>ofB e p&&!b
  | _,_=>false
def Ph (es:List EdgeT) (c:List Bool) (p:Int):Bool:=!((List.range es.length).any (held es c p))
section
variable {es:List EdgeT} (hes:es.length≤1000000) {c:List Bool} (hc:c.length=es.length)
include hes hc
theorem free_eq (p:Int) (H:List (List Bool)) (D:List Bool) (J:List Int) (F:List Bool):uG ⟨c,H,D,J,F⟩ es p=some (Ph es c p):=by
  unfold uG
  have key:aM (rH ⟨c,H,D,J,F⟩ es p) 0=some (if (List.range es.length).any (held es c p) then .inl () else .inr ()):=by
    refine kD es.length (rH ⟨c,H,D,J,F⟩ es p) (fun k=>(k:Int)) (held es c p) _ _ rfl (fun k hk=>?_) ?_
    · have e1:es[k]?=some es[k]:=List.getElem?_eq_getElem hk
      have e2:c[k]?=some (c[k]'(by omega)):=List.getElem?_eq_getElem (by omega)
      unfold rH held
      have hd:decide ((k:Int)<(es.length:Int))=true:=by simp [hk]
      simp only [hd,if_true,aP e1,aP e2,e1,e2,Option.bind_some,VF,aZ k (by omega)]
      cases ofB es[k] p <;> simp
    · simp [rH]
  rw [key]
  unfold Ph
  cases (List.range es.length).any (held es c p) <;> rfl
theorem JF (p:Int) (H:List (List Bool)) (D:List Bool) (J:List Int) (F:List Bool):jK es ⟨c,H,D,J,F⟩ p=some (Ph es c p):=by
  unfold jK
  have key:aM (jP es ⟨c,H,D,J,F⟩ p) 0=some (if (List.range es.length).any (held es c p) then .inl () else .inr ()):=by
    refine kD es.length (jP es ⟨c,H,D,J,F⟩ p) (fun k=>(k:Int)) (held es c p) _ _ rfl (fun k hk=>?_) ?_
    · have e1:es[k]?=some es[k]:=List.getElem?_eq_getElem hk
      have e2:c[k]?=some (c[k]'(by omega)):=List.getElem?_eq_getElem (by omega)
      unfold jP held ofB
      have hd:decide ((k:Int)<(es.length:Int))=true:=by simp [hk]
      simp only [hd,if_true,aP e1,aP e2,e1,e2,Option.bind_some,aZ k (by omega)]
      cases (es[k].A==p) <;> cases (es[k].B==p) <;> simp
    · simp [jP]
  rw [key]
  unfold Ph
  cases (List.range es.length).any (held es c p) <;> rfl
end
theorem Zk (t:List Bool) (ht:t.length≤1048576):lG t false=some (!(t.all fun b=>b)):=by
  unfold lG uO
  rw [Wp t (lH t false) (fun b=>!b) (fun k=>.inl (k:Int)) (.inr ()) (fun k b hb=>?s) ?f]
  · cases e:t.findIdx? (fun b=>!b) with
    | none =>
      rw [List.findIdx?_eq_none_iff] at e
      have:(t.all fun b=>b)=true:=List.all_eq_true.2 fun b hb=>by have:=e b hb;simpa using this
      simp [this]
    | some i =>
      have:(t.all fun b=>b)=false:=by
        rw [← Bool.not_eq_true,List.all_eq_true]
        intro q
        obtain ⟨hi,h1,_⟩:=List.findIdx?_eq_some_iff_getElem.1 e
        have:=q _ (List.getElem_mem hi)
        simp [this] at h1
      simp [this]
  case s =>
    have h1:=bC hb
    unfold lH
    simp only [h1,Int.ofNat_lt,decide_true,if_true,aP hb,Option.bind_some,aZ k (by omega)]
    cases b <;> rfl
  case f=>simp [lH]
theorem ZV (t:List Bool) (ht:t.length≤1048576):uF t=some (t.all fun b=>b):=by
  unfold uF
  rw [Ld t (oQ t) (fun b=>b) (.inl ()) (.inr ()) (fun k b hb=>?s) ?f]
  · cases t.all (fun b=>b) <;> rfl
  case s =>
    have h1:=bC hb
    unfold oQ
    simp only [h1,Int.ofNat_lt,decide_true,if_true,aP hb,Option.bind_some,aZ k (by omega)]
    cases b <;> rfl
  case f=>simp [oQ]
theorem JM (l:LayoutT) (n8:l.Pieces.length≤8) (r12:∀ x ∈ l.Pieces,x.Rects.length≤12) (x:ItemT):∃ b:Bool,aM (rJ l x) 0=some (if b then .inl () else .inr ())∧aM (jN l x.Lead) 0=some (if b then .inl () else .inr ()):=by
  have hin:∀ k:Nat,∃ b:Bool,∀ y,l.Pieces[k]?=some y→mW y.Rects x.Lead=some b∧eY y.Rects x.Lead=some b:=fun k=>by
    cases e:l.Pieces[k]? with
    | none=>exact ⟨false,fun y hy=>by cases hy⟩
    | some y =>
      obtain ⟨b,b1,b2⟩:=Rh y.Rects x.Lead (by have:=r12 y (List.mem_of_getElem? e);omega)
      exact ⟨b,fun z hz=>by injection hz with hz;subst hz;exact ⟨b1,b2⟩⟩
  obtain ⟨q,hq⟩:=Classical.axiomOfChoice hin
  refine ⟨(List.range l.Pieces.length).any q, ?_, ?_⟩
  · refine kD l.Pieces.length (rJ l x) (fun k=>(k:Int)) q _ _ rfl (fun k hk=>?_) ?_
    · have e2:l.Pieces[k]?=some l.Pieces[k]:=List.getElem?_eq_getElem hk
      have e3:mW l.Pieces[k].Rects (Spot.mk x.Lead.X x.Lead.Y)=some (q k):=(hq k _ e2).1
      unfold rJ
      have hd:decide ((k:Int)<(l.Pieces.length:Int))=true:=by simp [hk]
      simp only [hd,if_true,aP e2,Option.bind_some,e3,aZ k (by omega)]
    · simp [rJ]
  · refine kD l.Pieces.length (jN l x.Lead) (fun k=>(k:Int)) q _ _ rfl (fun k hk=>?_) ?_
    · have e2:l.Pieces[k]?=some l.Pieces[k]:=List.getElem?_eq_getElem hk
      unfold jN
      have hd:decide ((k:Int)<(l.Pieces.length:Int))=true:=by simp [hk]
      simp only [hd,if_true,aP e2,Option.bind_some,(hq k _ e2).2,aZ k (by omega)]
    · simp [jN]
def D9 (s:Spot) (g:Segment):Int:=eU (eU (eU (eU 0 (aJ g.X1 s.X)) (aJ s.X g.X2)) (aJ g.Y1 s.Y)) (aJ s.Y g.Y2)
def BB (es:List EdgeT) (c:List Bool) (p:Int) (s:Spot) (i:Nat):Bool:=match es[i]?,c[i]? with
  | some e,some b=>ofB e p&&(!b&&decide (D9 s e.Line≤7200))
  | _,_=>false
theorem KT {es:List EdgeT} (hes:es.length≤1000000) {st:RS} (hc:st.Cut.length=es.length) (x:ItemT):aM (rM (toC st) es x) 0=some (if (List.range es.length).any (BB es st.Cut x.Piece x.Lead) then .inl () else .inr ())∧aM (jO es st x.Piece x.Lead) 0=some (if (List.range es.length).any (BB es st.Cut x.Piece x.Lead) then .inl () else .inr ()):=by
  constructor
  · refine kD es.length (rM (toC st) es x) (fun k=>(k:Int)) (BB es st.Cut x.Piece x.Lead) _ _ rfl (fun k hk=>?_) ?_
    · have e1:es[k]?=some es[k]:=List.getElem?_eq_getElem hk
      have e2:st.Cut[k]?=some (st.Cut[k]'(by omega)):=List.getElem?_eq_getElem (by omega)
      have e2':(toC st).Cut[k]?=some (st.Cut[k]'(by omega)):=e2
      have e3:EZ (Spot.mk x.Lead.X x.Lead.Y) es[k].Line=some (D9 x.Lead es[k].Line):=rfl
      unfold rM BB
      have hd:decide ((k:Int)<(es.length:Int))=true:=by simp [hk]
      simp only [hd,if_true,aP e1,aP e2',e1,e2,Option.bind_some,VF,e3,aZ k (by omega)]
      cases ofB es[k] x.Piece <;> cases st.Cut[k]'(by omega) <;> simp
    · simp [rM]
  · refine kD es.length (jO es st x.Piece x.Lead) (fun k=>(k:Int)) (BB es st.Cut x.Piece x.Lead) _ _ rfl (fun k hk=>?_) ?_
    · have e1:es[k]?=some es[k]:=List.getElem?_eq_getElem hk
      have e2:st.Cut[k]?=some (st.Cut[k]'(by omega)):=List.getElem?_eq_getElem (by omega)
      have e3:sQ x.Lead es[k].Line=some (D9 x.Lead es[k].Line):=rfl
      unfold jO BB ofB
      have hd:decide ((k:Int)<(es.length:Int))=true:=by simp [hk]
      simp only [hd,if_true,aP e1,aP e2,e1,e2,Option.bind_some,e3,aZ k (by omega)]
      cases (es[k].A==x.Piece) <;> cases (es[k].B==x.Piece) <;> cases st.Cut[k]'(by omega) <;> simp
    · simp [jO]
theorem QK {l:LayoutT} (hl:LV l) {es:List EdgeT} (hes:es.length≤1000000) {st:RS} (hc:st.Cut.length=es.length) (x:ItemT) (hx:x.Hole<0):∃ b,wK (toC st) l es x=some b∧qK l es st x.Piece x.Lead=some b ∧
    (b=true→(0≤x.Lead.X∧x.Lead.X≤l.Sheet.Width∧0≤x.Lead.Y∧x.Lead.Y≤l.Sheet.Height)):=by
  have sl:=Si hl.sh
  obtain ⟨r,r1,r2⟩:=Rh l.Sheet.Clamps x.Lead (by omega)
  have r1':mW l.Sheet.Clamps (Spot.mk x.Lead.X x.Lead.Y)=some r:=r1
  obtain ⟨b,b1,b2⟩:=JM l hl.n hl.r12 x
  obtain ⟨c1,c2⟩:=KT hes hc x
  have h0:decide (x.Hole ≥ 0)=false:=by simp;omega
  unfold wK qK
  simp only [h0,Bool.false_eq_true,if_false,b1,b2,c1,c2,r1',r2,Option.bind_some]
  by_cases h1:x.Lead.X<0
  · exact ⟨false,by simp [h1],by simp [h1],by simp⟩
  by_cases h2:x.Lead.X>l.Sheet.Width
  · refine ⟨false,by simp [h1,h2], ?_,by simp⟩
    by_cases h3:x.Lead.Y<0 <;> simp [h1,h2,h3]
  by_cases h3:x.Lead.Y<0
  · exact ⟨false,by simp [h1,h2,h3],by simp [h1,h3],by simp⟩
  by_cases h4:x.Lead.Y>l.Sheet.Height
  · exact ⟨false,by simp [h1,h2,h3,h4],by simp [h1,h2,h3,h4],by simp⟩
  simp only [h1,h2,h3,h4,decide_false,Bool.false_eq_true,if_false,Option.bind_some]
  cases r with
  | true=>exact ⟨false,by simp,by simp,by simp⟩
  | false =>
    simp only [Bool.false_eq_true,if_false]
    cases b with
    | true=>exact ⟨false,rfl,rfl,by simp⟩
    | false =>
      simp only [Bool.false_eq_true,if_false,Option.bind_some]
      cases (List.range es.length).any (BB es st.Cut x.Piece x.Lead) with
      | true=>exact ⟨true,rfl,rfl,fun _=>by omega⟩
      | false=>exact ⟨false,rfl,rfl,by simp⟩
end Go.SM
