/- Heap sort, over any comparison. -/
import Derived.Test.YtgfjbgoehhnaeaaGreatSortA
set_option linter.unusedVariables false
set_option linter.unusedSimpArgs false
set_option linter.unusedSectionVars false
namespace Go.SM
open Go Go.VI
def Rf {α:Type} (d:α) (lt:α→α→Bool) (first lo hi:Int) (r:Int) (l:List α):Prop:=∀ p c:Int,lo≤p→p≠r→c<hi→(c=2*p+1∨c=2*p+2)→lt (gz d l (first+p)) (gz d l (first+c))=false
section
variable {α:Type} {br:Br α} {lt:α→α→Bool} {P:α→Prop} {d:α} (hbr:∀ (β:Type) (x y:α) (k:Bool→Option β),P x→P y→br β x y k=k (lt x y)) (w:Xv lt)
include w
theorem UH {first hi:Int} {l:List α} (h:Rf d lt first 0 hi (-1) l):∀ n:Nat,∀ c:Int,0≤c→c≤n→c<hi→lt (gz d l first) (gz d l (first+c))=false:=by
  intro n
  induction n with
  | zero => intro c h1 h2 h3;obtain rfl:c = 0 := by omega
            rw [Int.add_zero];exact w.irrefl _
  | succ n ih =>
    intro c h1 h2 h3
    by_cases e:c=0
    · subst e;rw [Int.add_zero];exact w.irrefl _
    · have e1:=ih ((c-1) / 2) (by omega) (by omega) (by omega)
      have e2:=h ((c-1) / 2) c (by omega) (by omega) h3 (by omega)
      exact w.le_trans e2 e1
include hbr
theorem Xq {first lo hi:Int} {l0:List α} (h1:0≤first) (h2:0≤lo) (h3:first+hi≤l0.length) (hf0:Fine P d l0) (h0:Rf d lt first lo hi lo l0) (hlo:lo≤l0.length) :
    ∃ l',Dp br lo hi first l0=some l'∧On d (first+lo) (first+hi) l0 l'∧Rf d lt first lo hi (-1) l':=by
  have hL:=hf0.len
  obtain ⟨r,q1,q2⟩:=nA (fun s:Int×List α=>(hi-s.1).toNat)
    (fun s:Int×List α=>lo≤s.1∧s.1≤(l0.length:Int)∧On d (first+lo) (first+hi) l0 s.2∧Rf d lt first lo hi s.1 s.2∧∀ p c:Int,lo≤p→(s.1=2*p+1∨s.1=2*p+2)→(c=2*s.1+1∨c=2*s.1+2)→c<hi→lt (gz d s.2 (first+p)) (gz d s.2 (first+c))=false)
    (fun r:List α ⊕ List α=>∃ l',(r=.inl l'∨r=.inr l')∧On d (first+lo) (first+hi) l0 l'∧Rf d lt first lo hi (-1) l') (Gl br hi first) (by
      rintro ⟨r,l⟩ ⟨i1,i2,hon,hI,hG⟩
      simp only at i1 i2 hon hI hG ⊢
      have hf:=hf0.on hon
      have hl:=hon.len
      unfold Gl
      have e1:aL (mZ 2 r) 1=2*r+1:=by rw [Qq (by omega) (by omega),aS (by omega) (by omega)]
      simp only [e1]
      by_cases hc:2*r+1 ≥ hi
      · right
        refine ⟨.inl l,by simp only [hc,decide_true,if_true],l,.inl rfl,hon,fun p c p1 p2 p3 p4=>?_⟩
        by_cases e:p=r
        · omega
        · exact hI p c p1 e p3 p4
      · -- the greater child
        have key:∀ ch:Int,(ch=2*r+1∨ch=2*r+2)→ch<hi→(∀ c:Int,(c=2*r+1∨c=2*r+2)→c<hi→lt (gz d l (first+ch)) (gz d l (first+c))=false) →
            (∃ s',wS br first (r,l) ch=some (.inl s')∧(lo≤s'.1∧s'.1≤l0.length∧On d (first+lo) (first+hi) l0 s'.2∧Rf d lt first lo hi s'.1 s'.2∧∀ p c:Int,lo≤p→(s'.1=2*p+1∨s'.1=2*p+2)→(c=2*s'.1+1∨c=2*s'.1+2)→c<hi→lt (gz d s'.2 (first+p)) (gz d s'.2 (first+c))=false)∧(hi-s'.1).toNat<(hi-r).toNat) ∨
            (∃ x,wS br first (r,l) ch=some (.inr x)∧∃ l',(x=.inl l'∨x=.inr l')∧On d (first+lo) (first+hi) l0 l'∧Rf d lt first lo hi (-1) l'):=by
          intro ch c1 c2 c3
          have a1:aL first r=first+r:=aS (by omega) (by omega)
          have a2:aL first ch=first+ch:=aS (by omega) (by omega)
          unfold wS
          cases hlt:lt (gz d l (first+r)) (gz d l (first+ch)) with
          | false =>
            right
            refine ⟨.inr l, ?_,l,.inr rfl,hon,fun p c p1 p2 p3 p4=>?_⟩
            · simp (disch:=first | omega | (simp only [List.length_set];omega) | (refine hf.all _ ?_ ?_ <;> omega)) only [a1,a2,jD d,Option.bind_some,hbr,hlt,Bool.not_false,if_true]
            · by_cases e:p=r
              · subst e;exact w.le_trans (c3 c p4 p3) hlt
              · exact hI p c p1 e p3 p4
          | true =>
            left
            refine ⟨(ch,sw d l (first+r) (first+ch)), ?_,⟨by simp only;omega,by simp only;omega,.step hon _ _ (by omega) (by omega) (by omega) (by omega) (by omega) (by omega), ?_, ?_⟩,by simp only;omega⟩
            · simp (disch:=first | omega | (simp only [List.length_set];omega) | (refine hf.all _ ?_ ?_ <;> omega)) only [a1,a2,jD d,Option.bind_some,hbr,hlt,Bool.not_true,Bool.false_eq_true,if_false]
              rfl
            · intro p c p1 p2 p3 p4
              simp only at p2 ⊢
              rw [sD d (by omega) (by omega) (by omega) (by omega) (by omega),sD d (by omega) (by omega) (by omega) (by omega) (by omega)]
              by_cases e1:p=r
              · rw [if_neg (by omega),if_pos (by omega)]
                by_cases e2:c=ch
                · rw [if_pos (by omega)];exact w.asymm _ _ hlt
                · rw [if_neg (by omega),if_neg (by omega)];exact c3 c (by omega) p3
              · rw [if_neg (by omega),if_neg (by omega)]
                by_cases e2:c=r
                · rw [if_neg (by omega),if_pos (by omega)];exact hG p ch p1 (by omega) c1 c2
                · rw [if_neg (by omega),if_neg (by omega)];exact hI p c p1 e1 p3 p4
            · intro p c p1 p2 p3 p4
              simp only at p2 p3
              simp only
              obtain rfl:p=r:=by omega
              rw [sD d (by omega) (by omega) (by omega) (by omega) (by omega),sD d (by omega) (by omega) (by omega) (by omega) (by omega)]
              rw [if_neg (by omega),if_pos rfl,if_neg (by omega),if_neg (by omega)]
              exact hI ch c (by omega) (by omega) p4 p3
        have b1:aL first (2*r+1)=first+(2*r+1):=aS (by omega) (by omega)
        have b2:aL (first+(2*r+1)) 1=first+(2*r+2):=by rw [aS (by omega) (by omega)];omega
        have b3:aL (2*r+1) 1=2*r+2:=by rw [aS (by omega) (by omega)];omega
        simp only [hc,decide_false,Bool.false_eq_true,if_false,b1,b2,b3]
        by_cases h2c:2*r+2<hi
        · cases hcc:lt (gz d l (first+(2*r+1))) (gz d l (first+(2*r+2))) with
          | true =>
            simp (disch:=first | omega | (refine hf.all _ ?_ ?_ <;> omega)) only [h2c,decide_true,if_true,jD d,Option.bind_some,hbr,hcc]
            refine key (2*r+2) (.inr rfl) h2c fun c p1 p2=>?_
            rcases p1 with rfl | rfl
            · exact w.asymm _ _ hcc
            · exact w.irrefl _
          | false =>
            simp (disch:=first | omega | (refine hf.all _ ?_ ?_ <;> omega)) only [h2c,decide_true,if_true,jD d,Option.bind_some,hbr,hcc,Bool.false_eq_true,if_false]
            refine key (2*r+1) (.inl rfl) (by omega) fun c p1 p2=>?_
            rcases p1 with rfl | rfl
            · exact w.irrefl _
            · exact hcc
        · simp only [h2c,decide_false,Bool.false_eq_true,if_false,Option.bind_some]
          refine key (2*r+1) (.inl rfl) (by omega) fun c p1 p2=>?_
          obtain rfl:c=2*r+1:=by omega
          exact w.irrefl _) (lo,l0) ⟨Int.le_refl _,hlo,.refl _,h0,fun p c p1 p2=>by simp only at p2;omega⟩
  obtain ⟨l',hr,q3,q4⟩:=q2
  refine ⟨l', ?_,q3,q4⟩
  unfold Dp
  rw [q1]
  rcases hr with rfl | rfl <;> rfl
theorem IZ {a b:Int} {l0:List α} (ha:0≤a) (hab:a≤b) (hb:b≤l0.length) (hf0:Fine P d l0) :
    ∃ l',Pj br a b l0=some l'∧On d a b l0 l'∧Asc d lt a b l':=by
  have hL:=hf0.len
  have s1:aJ b a=b-a:=aY (by omega) (by omega)
  have s2:aJ (b-a) 1=b-a-1:=aY (by omega) (by omega)
  have ht:0≤(b-a-1).tdiv 2∧(b-a-1).tdiv 2≤b-a∧b-a-1<2*(b-a-1).tdiv 2+2:=by
    by_cases h:0≤b-a-1
    · rw [Int.tdiv_eq_ediv_of_nonneg h];omega
    · rw [show b-a-1=-1 from by omega,show Int.tdiv (-1) 2=0 from rfl];omega
  have s3:xN (b-a-1) 2=(b-a-1).tdiv 2:=Oj _ (by omega) (by omega)
  obtain ⟨l1,q1,q2,q3⟩:=nA (fun s:Int×List α=>(s.1+1).toNat) (fun s:Int×List α=>-1≤s.1∧s.1≤b-a∧On d a b l0 s.2∧Rf d lt a (s.1+1) (b-a) (-1) s.2)
    (fun l'=>On d a b l0 l'∧Rf d lt a 0 (b-a) (-1) l') (Gi br a b) (by
      rintro ⟨i,l⟩ ⟨i1,i2,hon,hI⟩
      simp only at i1 i2 hon hI ⊢
      have hf:=hf0.on hon
      have hl:=hon.len
      unfold Gi
      by_cases hi:i ≥ 0
      · left
        obtain ⟨l',p1,p2,p3⟩:=Xq hbr w (first:=a) (lo:=i) (hi:=b-a) ha hi (by omega) hf (fun p c c1 c2 c3 c4=>hI p c (by omega) (by omega) c3 c4) (by omega)
        refine ⟨(i-1,l'), ?_,⟨by simp only;omega,by simp only;omega,hon.trans d (p2.mono d ha (by omega) (by omega) (by omega)), ?_⟩,by simp only;omega⟩
        · simp (disch:=omega) only [hi,decide_true,if_true,s1,p1,Option.bind_some,aY]
        · simp only
          rw [show i-1+1=i from by omega];exact p3
      · right
        refine ⟨l,by simp only [hi,decide_false,Bool.false_eq_true,if_false],hon, ?_⟩
        rwa [show i+1=0 from by omega] at hI) ((b-a-1).tdiv 2,l0) ⟨by simp only;omega,by simp only;omega,.refl _,fun p c p1 p2 p3 p4=>by simp only at p1;omega⟩
  have hl1:=q2.len
  obtain ⟨l2,r1,r2,r3⟩:=nA (fun s:Int×List α=>(s.1+1).toNat)
    (fun s:Int×List α=>-1≤s.1∧s.1<b-a∧On d a b l0 s.2∧Rf d lt a 0 (s.1+1) (-1) s.2∧∀ q:Int,s.1<q→q<b-a→∀ p:Int,0≤p→p<q→lt (gz d s.2 (a+q)) (gz d s.2 (a+p))=false)
    (fun l'=>On d a b l0 l'∧Asc d lt a b l') (Gj br a) (by
      rintro ⟨i,l⟩ ⟨i1,i2,hon,hH,hI⟩
      simp only at i1 i2 hon hH hI ⊢
      have hf:=hf0.on hon
      have hl:=hon.len
      unfold Gj
      by_cases hi:i ≥ 0
      · left
        have hmax:=fun c h1 h2=>UH w hH i.toNat c h1 (by omega) h2
        have hsw:On d a (a+i+1) l (sw d l a (a+i)):=.step (.refl _) _ _ (Int.le_refl _) (by omega) (by omega) (by omega) ha (by omega)
        have hsl:(sw d l a (a+i)).length=l.length:=BU ..
        obtain ⟨l',p1,p2,p3⟩:=Xq hbr w (first:=a) (lo:=0) (hi:=i) (l0:=sw d l a (a+i)) ha (Int.le_refl _) (by omega) (hf.on hsw) (fun p c c1 c2 c3 c4=>by
          rw [sD d (by omega) (by omega) (by omega) (by omega) (by omega),sD d (by omega) (by omega) (by omega) (by omega) (by omega)]
          rw [if_neg (by omega),if_neg (by omega),if_neg (by omega),if_neg (by omega)]
          exact hH p c c1 (by omega) (by omega) c4) (by omega)
        have hall:On d a (a+i+1) l l':=hsw.trans d (p2.mono d ha (by omega) (by omega) (by omega))
        have a1:aL a i=a+i:=aS (by omega) (by omega)
        refine ⟨(i-1,l'), ?_,⟨by simp only;omega,by simp only;omega,hon.trans d (hall.mono d ha (Int.le_refl _) (by omega) (by omega)), ?_, ?_⟩,by simp only;omega⟩
        · have p1':Dp br 0 i a (List.set (List.set l (Int.toNat a) (gz d l (a+i))) (Int.toNat (a+i)) (gz d l a))=some l':=p1
          simp (disch:=first | omega | (simp only [List.length_set];omega)) only [hi,decide_true,if_true,a1,jD d,Option.bind_some,p1',aY]
        · simp only
          rw [show i-1+1=i from by omega];exact p3
        · simp only
          intro q c1 c2 p c3 c4
          by_cases e:q=i
          · subst e
            have e1:gz d l' (a+q)=gz d l a:=by
              rw [p2.out d (by omega) (.inr (by omega)),sD d (by omega) (by omega) (by omega) (by omega) (by omega),if_pos rfl]
            rw [e1]
            refine p2.all d (fun x=>lt (gz d l a) x=false) (fun k k1 k2=>?_) (a+p) (by omega) (by omega)
            rw [sD d (by omega) (by omega) (by omega) (by omega) (by omega),if_neg (by omega)]
            split
            · exact hmax q (by omega) (by omega)
            · have:=hmax (k-a) (by omega) (by omega)
              rwa [show a+(k-a)=k from by omega] at this
          · have e1:gz d l' (a+q)=gz d l (a+q):=hall.out d (by omega) (.inr (by omega))
            rw [e1]
            by_cases e2:p≤i
            · refine hall.all d (fun x=>lt (gz d l (a+q)) x=false) (fun k k1 k2=>?_) (a+p) (by omega) (by omega)
              have:=hI q (by omega) c2 (k-a) (by omega) (by omega)
              rwa [show a+(k-a)=k from by omega] at this
            · rw [hall.out d (k:=a+p) (by omega) (.inr (by omega))]
              exact hI q (by omega) c2 p c3 c4
      · right
        refine ⟨l,by simp only [hi,decide_false,Bool.false_eq_true,if_false],hon,fun p q c1 c2 c3=>?_⟩
        have:=hI (q-a) (by omega) (by omega) (p-a) (by omega) (by omega)
        rwa [show a+(q-a)=q from by omega,show a+(p-a)=p from by omega] at this) (b-a-1,l1) ⟨by simp only;omega,by simp only;omega,q2,by simp only;rw [show b-a-1+1=b-a from by omega];exact q3,fun q c1 c2=>by simp only at c1;omega⟩
  refine ⟨l2, ?_,r2,r3⟩
  unfold Pj
  simp only [s1,s2,s3,q1,Option.bind_some,r1]
end
end Go.SM
