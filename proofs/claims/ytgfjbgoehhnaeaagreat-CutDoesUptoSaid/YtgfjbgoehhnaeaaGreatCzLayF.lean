/- What a valid layout has. -/
import Derived.Test.YtgfjbgoehhnaeaaGreatCzValid2
set_option linter.unusedVariables false
set_option linter.unusedSimpArgs false
set_option linter.unusedSectionVars false
namespace Go.SM
open Go Go.VI
structure LV (l:LayoutT):Prop where
  n:l.Pieces.length≤8
  sh:jY l.Sheet=some 0
  r12:∀ x ∈ l.Pieces,x.Rects.length≤12
  pe:∀ x ∈ l.Pieces,pO x=some 0
  off:∀ x ∈ l.Pieces,∀ r ∈ x.Rects,vV r ⟨0,0,l.Sheet.Width,l.Sheet.Height⟩∧l.Sheet.Clamps.any (uS r)=false∧l.Sheet.Used.any (uS r)=false
  hit:∀ k,k<l.Pieces.length→KZ l.Pieces k=false
theorem E8 (l:LayoutT) (hp:l.Pieces.length≤8) (hs:∀ x ∈ l.Pieces,Sm x) (h:aM (bV l) 0=some (.inr ())):∀ x ∈ l.Pieces,pO x=some 0:=by
  have key:∀ (m k:Nat),k+m=l.Pieces.length→aM (bV l) (k:Int)=some (.inr ())→∀ x ∈ l.Pieces.drop k,pO x=some 0:=by
    intro m
    induction m with
    | zero =>
      intro k h hb;obtain rfl:k=l.Pieces.length:=by omega
      intro x hx;simp at hx
    | succ m ih =>
      intro k h hb
      have hx:l.Pieces[k]?=some (l.Pieces[k]'(by omega)):=by simp [show k<l.Pieces.length by omega]
      have hd:decide ((k:Int)<(l.Pieces.length:Int))=true:=by simp;omega
      obtain ⟨e,e1,_⟩:=Tj (hs _ (List.getElem_mem (show k<l.Pieces.length by omega)))
      have i1:aL (k:Int) 1=((k+1:Nat):Int):=by rw [aS (by omega) (by omega)];rfl
      by_cases he:e=0
      · subst he
        rw [lQ (s':=((k+1:Nat):Int))] at hb
        · intro x hxm
          rw [List.drop_eq_getElem_cons (show k<l.Pieces.length by omega)] at hxm
          rcases List.mem_cons.1 hxm with rfl | hxm
          · exact e1
          · exact ih (k+1) (by omega) hb x hxm
        · unfold bV
          simp only [hd,if_true,aP hx,Option.bind_some,e1,bne_self_eq_false,Bool.false_eq_true,if_false,i1]
      · have he':(e != 0)=true:=by rw [bne_iff_ne];exact he
        rw [fU (r:=.inl e)] at hb
        · cases hb
        · unfold bV
          simp only [hd,if_true,aP hx,Option.bind_some,e1,he']
  exact key l.Pieces.length 0 (by omega) h
theorem EN (l:LayoutT) (hs:∀ x ∈ l.Pieces,Sm x):∃ b,uV l=some b∧dG l=some b∧(b=0→LV l):=by
  obtain ⟨b,b1,b2⟩:=GK l hs
  refine ⟨b,b1,b2,fun hb0=>?_⟩
  subst hb0
  obtain ⟨c,c1,_⟩:=Zb l.Sheet
  unfold uV at b1
  rw [c1] at b1
  simp only [Option.bind_some] at b1
  by_cases hc:c=0
  · subst hc
    have sl:=Si c1
    simp only [bne_self_eq_false,Bool.false_eq_true,if_false] at b1
    by_cases h8:(l.Pieces.length:Int)>8
    · simp [h8] at b1
    have hp:l.Pieces.length≤8:=by omega
    simp only [h8,decide_false,Bool.false_eq_true,if_false] at b1
    rcases NQ l hp hs with ⟨d,d1,_⟩ | ⟨d1,_,d3⟩
    · exfalso
      rw [d1] at b1
      simp only [Option.bind_some] at b1
      -- the error of a piece is not 0
      have hne:∀ (m k:Nat),k+m=l.Pieces.length→aM (bV l) (k:Int)=some (.inl d)→d≠0:=by
        intro m
        induction m with
        | zero =>
          intro k h hb;obtain rfl:k=l.Pieces.length:=by omega
          rw [fU (r:=.inr ()) (by simp [bV])] at hb
          cases hb
        | succ m ih =>
          intro k h hb
          have hx:l.Pieces[k]?=some (l.Pieces[k]'(by omega)):=by simp [show k<l.Pieces.length by omega]
          have hd:decide ((k:Int)<(l.Pieces.length:Int))=true:=by simp;omega
          obtain ⟨e,e1,_⟩:=Tj (hs _ (List.getElem_mem (show k<l.Pieces.length by omega)))
          have i1:aL (k:Int) 1=((k+1:Nat):Int):=by rw [aS (by omega) (by omega)];rfl
          by_cases he:e=0
          · subst he
            rw [lQ (s':=((k+1:Nat):Int))] at hb
            · exact ih (k+1) (by omega) hb
            · unfold bV
              simp only [hd,if_true,aP hx,Option.bind_some,e1,bne_self_eq_false,Bool.false_eq_true,if_false,i1]
          · have he':(e != 0)=true:=by rw [bne_iff_ne];exact he
            rw [fU (r:=.inl e)] at hb
            · injection hb with hb;injection hb with hb;rw [← hb];exact he
            · unfold bV
              simp only [hd,if_true,aP hx,Option.bind_some,e1,he']
      exact hne l.Pieces.length 0 (by omega) d1 (Option.some.inj b1)
    · simp only [d1,Option.bind_some,ZG l hp d3 sl.1 sl.2,ZH l hp d3] at b1
      cases h3:l.Pieces.any (fun x=>x.Rects.any (BF l.Sheet)) with
      | true=>rw [h3] at b1;exact absurd (Option.some.inj b1) (by decide)
      | false =>
      cases h6:(List.range l.Pieces.length).any (KZ l.Pieces) with
      | true=>rw [h3,h6] at b1;exact absurd (Option.some.inj b1) (by decide)
      | false =>
        refine ⟨hp,c1,d3,E8 l hp hs d1,fun x hx r hr=>?_,fun k hk=>?_⟩
        · have q1:=List.any_eq_false.1 h3 x hx
          rw [Bool.not_eq_true,List.any_eq_false] at q1
          have q2:=q1 r hr
          unfold BF at q2
          simp only [Bool.or_eq_true,not_or,Bool.not_eq_true',Bool.not_eq_false,Bool.not_eq_true,decide_eq_true_eq] at q2
          exact q2
        · have:=List.any_eq_false.1 h6 k (List.mem_range.2 hk)
          simpa using this
  · have hb':(c != 0)=true:=by rw [bne_iff_ne];exact hc
    simp only [hb',if_true] at b1
    exact absurd (Option.some.inj b1) hc
end Go.SM
