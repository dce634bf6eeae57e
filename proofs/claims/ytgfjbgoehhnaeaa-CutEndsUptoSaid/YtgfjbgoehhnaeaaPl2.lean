/- What the functions compute, part 2. -/
import Derived.Test.YtgfjbgoehhnaeaaPl1
import Derived.Lib.IndexMore
set_option linter.unusedVariables false
set_option linter.unusedSimpArgs false
set_option linter.unusedSectionVars false
namespace Go.SM
open Go Go.VI
structure Fine {α:Type} (P:α→Prop) (d:α) (l:List α):Prop where
  len:(l.length:Int)≤1073741824
  all:∀ k:Int,0≤k→k<l.length→P (gz d l k)
theorem Fine.on {α:Type} {P:α→Prop} {d:α} {a b:Int} {l l':List α} (h:Fine P d l) (ho:On d a b l l'):Fine P d l':=by
  induction ho with
  | refl=>exact h
  | step ho i j hi hi' hj hj' ha hb ih =>
    refine ⟨by rw [Zx];exact ih.len,fun k h1 h2=>?_⟩
    rw [Zx] at h2
    rw [qF d (by omega) (by omega) h1 (by omega) (by omega)]
    split
    · exact ih.all _ (by omega) (by omega)
    · split
      · exact ih.all _ (by omega) (by omega)
      · exact ih.all _ h1 h2
section
variable {α:Type} {br:Br α} {lt:α→α→Bool} {P:α→Prop} {d:α} (hbr:∀ (β:Type) (x y:α) (k:Bool→Option β),P x→P y→br β x y k=k (lt x y)) (w:Vu lt)
include hbr w
theorem PH {a i:Int} {l0:List α} (ha:0≤a) (hi:a<i) (hil:i<l0.length) (hf0:Fine P d l0) (h0:Asc d lt a i l0) :
    ∃ l',aD (sG br a) (i,l0)=some l'∧On d a (i+1) l0 l'∧Asc d lt a (i+1) l':=by
  refine lX (fun s=>(s.1-a).toNat) (fun s=>a≤s.1∧s.1≤i∧On d a (i+1) l0 s.2∧∀ p q:Int,a≤p→p<q→q≤i→q≠s.1→lt (gz d s.2 q) (gz d s.2 p)=false)
    (fun l'=>On d a (i+1) l0 l'∧Asc d lt a (i+1) l') (sG br a) ?_ (i,l0) ⟨by omega,Int.le_refl _,.refl _,fun p q h1 h2 h3 h4=>h0 p q h1 h2 (by simp only at h4;omega)⟩
  rintro ⟨j,l⟩ ⟨h1,h2,hon,hI⟩
  simp only at h1 h2 hon hI ⊢
  have hf:=hf0.on hon
  have hl:=hon.len
  have hL:=hf.len
  unfold sG
  by_cases hja:j>a
  · cases hc:lt (gz d l j) (gz d l (j-1)) with
    | true =>
      left
      refine ⟨(j-1,sw d l j (j-1)), ?_,⟨by simp only;omega,by simp only;omega,.step hon j (j-1) (by omega) (by omega) (by omega) (by omega) ha (by omega), ?_⟩,by simp only;omega⟩
      · simp (disch:=first | omega | (simp only [List.length_set];omega) | (refine hf.all _ ?_ ?_ <;> omega)) only [hja,decide_true,if_true,aT,iO d,Option.bind_some,hbr,hc]
        rfl
      · simp only
        intro p q p1 p2 p3 p4
        rw [qF d (by omega) (by omega) (by omega) (by omega) (by omega),qF d (by omega) (by omega) (by omega) (by omega) (by omega)]
        rw [if_neg p4]
        by_cases e1:q=j
        · rw [if_pos e1]
          by_cases e2:p=j-1
          · rw [if_pos e2];exact w.asymm _ _ hc
          · rw [if_neg e2,if_neg (by omega)]
            exact hI p (j-1) (by omega) (by omega) (by omega) (by omega)
        · rw [if_neg e1]
          by_cases e2:p=j-1
          · rw [if_pos e2];exact hI j q (by omega) (by omega) p3 e1
          · rw [if_neg e2]
            by_cases e3:p=j
            · rw [if_pos e3];exact hI (j-1) q (by omega) (by omega) p3 e1
            · rw [if_neg e3];exact hI p q p1 p2 p3 e1
    | false =>
      right
      refine ⟨l, ?_,hon, ?_⟩
      · simp (disch:=first | omega | (simp only [List.length_set];omega) | (refine hf.all _ ?_ ?_ <;> omega)) only [hja,decide_true,if_true,aT,iO d,Option.bind_some,hbr,hc,Bool.false_eq_true,if_false]
      · intro p q p1 p2 p3
        by_cases e1:q=j
        · subst e1
          by_cases e2:p=q-1
          · subst e2;exact hc
          · exact w.le_trans (hI p (q-1) p1 (by omega) (by omega) (by omega)) hc
        · exact hI p q p1 p2 (by omega) e1
  · right
    refine ⟨l, ?_,hon, ?_⟩
    · simp only [hja,decide_false,Bool.false_eq_true,if_false,Option.bind_some]
    · intro p q p1 p2 p3
      exact hI p q p1 p2 (by omega) (by omega)
theorem Ub {a b:Int} {l0:List α} (ha:0≤a) (hab:a≤b) (hb:b≤l0.length) (hf0:Fine P d l0) :
    ∃ l',zJ br a b l0=some l'∧On d a b l0 l'∧Asc d lt a b l':=by
  have hL:=hf0.len
  obtain ⟨l',h1,h2,h3⟩:=lX (fun s=>(b-s.1).toNat) (fun s=>a<s.1∧On d a b l0 s.2∧Asc d lt a (min s.1 b) s.2)
    (fun l'=>On d a b l0 l'∧Asc d lt a b l') (wM br a b) (by
      rintro ⟨i,l⟩ ⟨h1,hon,hI⟩
      simp only at h1 hon hI ⊢
      have hf:=hf0.on hon
      have hl:=hon.len
      unfold wM
      by_cases hib:i<b
      · left
        obtain ⟨l',q1,q2,q3⟩:=PH hbr w ha h1 (by omega) hf (by rwa [Int.min_eq_left (by omega)] at hI)
        refine ⟨(i+1,l'), ?_,⟨by simp only;omega,hon.trans d (q2.mono d ha (Int.le_refl _) (by omega) (by omega)), ?_⟩,by simp only;omega⟩
        · simp (disch:=omega) only [hib,decide_true,if_true,q1,Option.bind_some,aL]
        · simp only
          rw [Int.min_eq_left (by omega)];exact q3
      · right
        refine ⟨l, ?_,hon, ?_⟩
        · simp only [hib,decide_false,Bool.false_eq_true,if_false]
        · rwa [Int.min_eq_right (by omega)] at hI) (a+1,l0) ⟨by simp only;omega,.refl _,fun p q p1 p2 p3=>by simp only at p3;omega⟩
  refine ⟨l', ?_,h2,h3⟩
  unfold zJ
  simp (disch:=omega) only [aL,h1,Option.bind_some]
end
end Go.SM
namespace Go.SM
open Go Go.VI
def Ol {α:Type} (d:α) (lt:α→α→Bool) (first lo hi:Int) (r:Int) (l:List α):Prop:=∀ p c:Int,lo≤p→p≠r→c<hi→(c=2*p+1∨c=2*p+2)→lt (gz d l (first+p)) (gz d l (first+c))=false
section
variable {α:Type} {br:Br α} {lt:α→α→Bool} {P:α→Prop} {d:α} (hbr:∀ (β:Type) (x y:α) (k:Bool→Option β),P x→P y→br β x y k=k (lt x y)) (w:Vu lt)
include w
theorem TP {first hi:Int} {l:List α} (h:Ol d lt first 0 hi (-1) l):∀ n:Nat,∀ c:Int,0≤c→c≤n→c<hi→lt (gz d l first) (gz d l (first+c))=false:=by
  intro n
  induction n with
  | zero => intro c h1 h2 h3;obtain rfl:c = 0 := by omega
            rw [Int.add_zero];exact w.irrefl _
  | succ n ih =>
    intro c h1 h2 h3
    by_cases e:c=0
    · subst e;rw [Int.add_zero];exact w.irrefl _
    · have e1:=ih ((c-1) / 2) (by omega) (by omega) (by omega)
      have e2:=h ((c-1) / 2) c (by omega) (by omega) h3 (by omega)
      exact w.le_trans e2 e1
include hbr
theorem Vo {first lo hi:Int} {l0:List α} (h1:0≤first) (h2:0≤lo) (h3:first+hi≤l0.length) (hf0:Fine P d l0) (h0:Ol d lt first lo hi lo l0) (hlo:lo≤l0.length) :
    ∃ l',Aw br lo hi first l0=some l'∧On d (first+lo) (first+hi) l0 l'∧Ol d lt first lo hi (-1) l':=by
  have hL:=hf0.len
  obtain ⟨r,q1,q2⟩:=lX (fun s:Int×List α=>(hi-s.1).toNat)
    (fun s:Int×List α=>lo≤s.1∧s.1≤(l0.length:Int)∧On d (first+lo) (first+hi) l0 s.2∧Ol d lt first lo hi s.1 s.2∧∀ p c:Int,lo≤p→(s.1=2*p+1∨s.1=2*p+2)→(c=2*s.1+1∨c=2*s.1+2)→c<hi→lt (gz d s.2 (first+p)) (gz d s.2 (first+c))=false)
    (fun r:List α ⊕ List α=>∃ l',(r=.inl l'∨r=.inr l')∧On d (first+lo) (first+hi) l0 l'∧Ol d lt first lo hi (-1) l') (Ec br hi first) (by
      rintro ⟨r,l⟩ ⟨i1,i2,hon,hI,hG⟩
      simp only at i1 i2 hon hI hG ⊢
      have hf:=hf0.on hon
      have hl:=hon.len
      unfold Ec
      have e1:aF (lL 2 r) 1=2*r+1:=by rw [Nw (by omega) (by omega),aL (by omega) (by omega)]
      simp only [e1]
      by_cases hc:2*r+1 ≥ hi
      · right
        refine ⟨.inl l,by simp only [hc,decide_true,if_true],l,.inl rfl,hon,fun p c p1 p2 p3 p4=>?_⟩
        by_cases e:p=r
        · omega
        · exact hI p c p1 e p3 p4
      · -- the greater child
        have key:∀ ch:Int,(ch=2*r+1∨ch=2*r+2)→ch<hi→(∀ c:Int,(c=2*r+1∨c=2*r+2)→c<hi→lt (gz d l (first+ch)) (gz d l (first+c))=false) →
            (∃ s',vL br first (r,l) ch=some (.inl s')∧(lo≤s'.1∧s'.1≤l0.length∧On d (first+lo) (first+hi) l0 s'.2∧Ol d lt first lo hi s'.1 s'.2∧∀ p c:Int,lo≤p→(s'.1=2*p+1∨s'.1=2*p+2)→(c=2*s'.1+1∨c=2*s'.1+2)→c<hi→lt (gz d s'.2 (first+p)) (gz d s'.2 (first+c))=false)∧(hi-s'.1).toNat<(hi-r).toNat) ∨
            (∃ x,vL br first (r,l) ch=some (.inr x)∧∃ l',(x=.inl l'∨x=.inr l')∧On d (first+lo) (first+hi) l0 l'∧Ol d lt first lo hi (-1) l'):=by
          intro ch c1 c2 c3
          have a1:aF first r=first+r:=aL (by omega) (by omega)
          have a2:aF first ch=first+ch:=aL (by omega) (by omega)
          unfold vL
          cases hlt:lt (gz d l (first+r)) (gz d l (first+ch)) with
          | false =>
            right
            refine ⟨.inr l, ?_,l,.inr rfl,hon,fun p c p1 p2 p3 p4=>?_⟩
            · simp (disch:=first | omega | (simp only [List.length_set];omega) | (refine hf.all _ ?_ ?_ <;> omega)) only [a1,a2,iO d,Option.bind_some,hbr,hlt,Bool.not_false,if_true]
            · by_cases e:p=r
              · subst e;exact w.le_trans (c3 c p4 p3) hlt
              · exact hI p c p1 e p3 p4
          | true =>
            left
            refine ⟨(ch,sw d l (first+r) (first+ch)), ?_,⟨by simp only;omega,by simp only;omega,.step hon _ _ (by omega) (by omega) (by omega) (by omega) (by omega) (by omega), ?_, ?_⟩,by simp only;omega⟩
            · simp (disch:=first | omega | (simp only [List.length_set];omega) | (refine hf.all _ ?_ ?_ <;> omega)) only [a1,a2,iO d,Option.bind_some,hbr,hlt,Bool.not_true,Bool.false_eq_true,if_false]
              rfl
            · intro p c p1 p2 p3 p4
              simp only at p2 ⊢
              rw [qF d (by omega) (by omega) (by omega) (by omega) (by omega),qF d (by omega) (by omega) (by omega) (by omega) (by omega)]
              by_cases e1:p=r
              · rw [if_neg (by omega),if_pos (by omega)]
                by_cases e2:c=ch
                · rw [if_pos (by omega)];exact w.asymm _ _ hlt
                · rw [if_neg (by omega),if_neg (by omega)];exact c3 c (by omega) p3
              · rw [if_neg (by omega),if_neg (by omega)]
                by_cases e2:c=r
                · rw [if_neg (by omega),if_pos (by omega)];exact hG p ch p1 (by omega) c1 c2
                · rw [if_neg (by omega),if_neg (by omega)];exact hI p c p1 e1 p3 p4
            · intro p c p1 p2 p3 p4
              simp only at p2 p3
              simp only
              obtain rfl:p=r:=by omega
              rw [qF d (by omega) (by omega) (by omega) (by omega) (by omega),qF d (by omega) (by omega) (by omega) (by omega) (by omega)]
              rw [if_neg (by omega),if_pos rfl,if_neg (by omega),if_neg (by omega)]
              exact hI ch c (by omega) (by omega) p4 p3
        have b1:aF first (2*r+1)=first+(2*r+1):=aL (by omega) (by omega)
        have b2:aF (first+(2*r+1)) 1=first+(2*r+2):=by rw [aL (by omega) (by omega)];omega
        have b3:aF (2*r+1) 1=2*r+2:=by rw [aL (by omega) (by omega)];omega
        simp only [hc,decide_false,Bool.false_eq_true,if_false,b1,b2,b3]
        by_cases h2c:2*r+2<hi
        · cases hcc:lt (gz d l (first+(2*r+1))) (gz d l (first+(2*r+2))) with
          | true =>
            simp (disch:=first | omega | (refine hf.all _ ?_ ?_ <;> omega)) only [h2c,decide_true,if_true,iO d,Option.bind_some,hbr,hcc]
            refine key (2*r+2) (.inr rfl) h2c fun c p1 p2=>?_
            rcases p1 with rfl | rfl
            · exact w.asymm _ _ hcc
            · exact w.irrefl _
          | false =>
            simp (disch:=first | omega | (refine hf.all _ ?_ ?_ <;> omega)) only [h2c,decide_true,if_true,iO d,Option.bind_some,hbr,hcc,Bool.false_eq_true,if_false]
            refine key (2*r+1) (.inl rfl) (by omega) fun c p1 p2=>?_
            rcases p1 with rfl | rfl
            · exact w.irrefl _
            · exact hcc
        · simp only [h2c,decide_false,Bool.false_eq_true,if_false,Option.bind_some]
          refine key (2*r+1) (.inl rfl) (by omega) fun c p1 p2=>?_
          obtain rfl:c=2*r+1:=by omega
          exact w.irrefl _) (lo,l0) ⟨Int.le_refl _,hlo,.refl _,h0,fun p c p1 p2=>by simp only at p2;omega⟩
  obtain ⟨l',hr,q3,q4⟩:=q2
  refine ⟨l', ?_,q3,q4⟩
  unfold Aw
  rw [q1]
  rcases hr with rfl | rfl <;> rfl
theorem GJ {a b:Int} {l0:List α} (ha:0≤a) (hab:a≤b) (hb:b≤l0.length) (hf0:Fine P d l0) :
    ∃ l',Lh br a b l0=some l'∧On d a b l0 l'∧Asc d lt a b l':=by
  have hL:=hf0.len
  have s1:aH b a=b-a:=aT (by omega) (by omega)
  have s2:aH (b-a) 1=b-a-1:=aT (by omega) (by omega)
  have ht:0≤(b-a-1).tdiv 2∧(b-a-1).tdiv 2≤b-a∧b-a-1<2*(b-a-1).tdiv 2+2:=by
    by_cases h:0≤b-a-1
    · rw [Int.tdiv_eq_ediv_of_nonneg h];omega
    · rw [show b-a-1=-1 from by omega,show Int.tdiv (-1) 2=0 from rfl];omega
  have s3:wN (b-a-1) 2=(b-a-1).tdiv 2:=Jy _ (by omega) (by omega)
  obtain ⟨l1,q1,q2,q3⟩:=lX (fun s:Int×List α=>(s.1+1).toNat) (fun s:Int×List α=>-1≤s.1∧s.1≤b-a∧On d a b l0 s.2∧Ol d lt a (s.1+1) (b-a) (-1) s.2)
    (fun l'=>On d a b l0 l'∧Ol d lt a 0 (b-a) (-1) l') (Ea br a b) (by
      rintro ⟨i,l⟩ ⟨i1,i2,hon,hI⟩
      simp only at i1 i2 hon hI ⊢
      have hf:=hf0.on hon
      have hl:=hon.len
      unfold Ea
      by_cases hi:i ≥ 0
      · left
        obtain ⟨l',p1,p2,p3⟩:=Vo hbr w (first:=a) (lo:=i) (hi:=b-a) ha hi (by omega) hf (fun p c c1 c2 c3 c4=>hI p c (by omega) (by omega) c3 c4) (by omega)
        refine ⟨(i-1,l'), ?_,⟨by simp only;omega,by simp only;omega,hon.trans d (p2.mono d ha (by omega) (by omega) (by omega)), ?_⟩,by simp only;omega⟩
        · simp (disch:=omega) only [hi,decide_true,if_true,s1,p1,Option.bind_some,aT]
        · simp only
          rw [show i-1+1=i from by omega];exact p3
      · right
        refine ⟨l,by simp only [hi,decide_false,Bool.false_eq_true,if_false],hon, ?_⟩
        rwa [show i+1=0 from by omega] at hI) ((b-a-1).tdiv 2,l0) ⟨by simp only;omega,by simp only;omega,.refl _,fun p c p1 p2 p3 p4=>by simp only at p1;omega⟩
  have hl1:=q2.len
  obtain ⟨l2,r1,r2,r3⟩:=lX (fun s:Int×List α=>(s.1+1).toNat)
    (fun s:Int×List α=>-1≤s.1∧s.1<b-a∧On d a b l0 s.2∧Ol d lt a 0 (s.1+1) (-1) s.2∧∀ q:Int,s.1<q→q<b-a→∀ p:Int,0≤p→p<q→lt (gz d s.2 (a+q)) (gz d s.2 (a+p))=false)
    (fun l'=>On d a b l0 l'∧Asc d lt a b l') (Eb br a) (by
      rintro ⟨i,l⟩ ⟨i1,i2,hon,hH,hI⟩
      simp only at i1 i2 hon hH hI ⊢
      have hf:=hf0.on hon
      have hl:=hon.len
      unfold Eb
      by_cases hi:i ≥ 0
      · left
        have hmax:=fun c h1 h2=>TP w hH i.toNat c h1 (by omega) h2
        have hsw:On d a (a+i+1) l (sw d l a (a+i)):=.step (.refl _) _ _ (Int.le_refl _) (by omega) (by omega) (by omega) ha (by omega)
        have hsl:(sw d l a (a+i)).length=l.length:=Zx ..
        obtain ⟨l',p1,p2,p3⟩:=Vo hbr w (first:=a) (lo:=0) (hi:=i) (l0:=sw d l a (a+i)) ha (Int.le_refl _) (by omega) (hf.on hsw) (fun p c c1 c2 c3 c4=>by
          rw [qF d (by omega) (by omega) (by omega) (by omega) (by omega),qF d (by omega) (by omega) (by omega) (by omega) (by omega)]
          rw [if_neg (by omega),if_neg (by omega),if_neg (by omega),if_neg (by omega)]
          exact hH p c c1 (by omega) (by omega) c4) (by omega)
        have hall:On d a (a+i+1) l l':=hsw.trans d (p2.mono d ha (by omega) (by omega) (by omega))
        have a1:aF a i=a+i:=aL (by omega) (by omega)
        refine ⟨(i-1,l'), ?_,⟨by simp only;omega,by simp only;omega,hon.trans d (hall.mono d ha (Int.le_refl _) (by omega) (by omega)), ?_, ?_⟩,by simp only;omega⟩
        · have p1':Aw br 0 i a (List.set (List.set l (Int.toNat a) (gz d l (a+i))) (Int.toNat (a+i)) (gz d l a))=some l':=p1
          simp (disch:=first | omega | (simp only [List.length_set];omega)) only [hi,decide_true,if_true,a1,iO d,Option.bind_some,p1',aT]
        · simp only
          rw [show i-1+1=i from by omega];exact p3
        · simp only
          intro q c1 c2 p c3 c4
          by_cases e:q=i
          · subst e
            have e1:gz d l' (a+q)=gz d l a:=by
              rw [p2.out d (by omega) (.inr (by omega)),qF d (by omega) (by omega) (by omega) (by omega) (by omega),if_pos rfl]
            rw [e1]
            refine p2.all d (fun x=>lt (gz d l a) x=false) (fun k k1 k2=>?_) (a+p) (by omega) (by omega)
            rw [qF d (by omega) (by omega) (by omega) (by omega) (by omega),if_neg (by omega)]
            split
            · exact hmax q (by omega) (by omega)
            · have:=hmax (k-a) (by omega) (by omega)
              rwa [show a+(k-a)=k from by omega] at this
          · have e1:gz d l' (a+q)=gz d l (a+q):=hall.out d (by omega) (.inr (by omega))
            rw [e1]
            by_cases e2:p≤i
            · refine hall.all d (fun x=>lt (gz d l (a+q)) x=false) (fun k k1 k2=>?_) (a+p) (by omega) (by omega)
              have:=hI q (by omega) c2 (k-a) (by omega) (by omega)
              rwa [show a+(k-a)=k from by omega] at this
            · rw [hall.out d (k:=a+p) (by omega) (.inr (by omega))]
              exact hI q (by omega) c2 p c3 c4
      · right
        refine ⟨l,by simp only [hi,decide_false,Bool.false_eq_true,if_false],hon,fun p q c1 c2 c3=>?_⟩
        have:=hI (q-a) (by omega) (by omega) (p-a) (by omega) (by omega)
        rwa [show a+(q-a)=q from by omega,show a+(p-a)=p from by omega] at this) (b-a-1,l1) ⟨by simp only;omega,by simp only;omega,q2,by simp only;rw [show b-a-1+1=b-a from by omega];exact q3,fun q c1 c2=>by simp only at c1;omega⟩
  refine ⟨l2, ?_,r2,r3⟩
  unfold Lh
  simp only [s1,s2,s3,q1,Option.bind_some,r1]
end
end Go.SM
namespace Go.SM
open Go Go.VI
theorem Xh {body:Int→Option (Int ⊕ Int)} (c:Int→Bool) {i j:Int} (hij:i≤j+1) (hs:∀ s,i≤s→s≤j→body s=if c s then some (.inl (s+1)) else some (.inr s)) (he:body (j+1)=some (.inr (j+1))) :
    ∃ x,aD body i=some x∧i≤x∧x≤j+1∧(∀ k,i≤k→k<x→c k=true)∧(x≤j→c x=false):=
  lX (fun s:Int=>(j+1-s).toNat) (fun s=>i≤s∧s≤j+1∧∀ k,i≤k→k<s→c k=true) (fun x=>i≤x∧x≤j+1∧(∀ k,i≤k→k<x→c k=true)∧(x≤j→c x=false)) body (by
    rintro s ⟨h1,h2,h3⟩
    by_cases h:s≤j
    · cases hc:c s with
      | true =>
        left
        refine ⟨s+1,by rw [hs s h1 h,hc];rfl,⟨by omega,by omega,fun k k1 k2=>?_⟩,by omega⟩
        by_cases e:k=s
        · subst e;exact hc
        · exact h3 k k1 (by omega)
      | false =>
        right
        exact ⟨s,by rw [hs s h1 h,hc];rfl,h1,h2,h3,fun _=>hc⟩
    · right
      obtain rfl:s=j+1:=by omega
      exact ⟨_,he,h1,h2,h3,fun q=>absurd q (by omega)⟩) i ⟨Int.le_refl _,hij,fun k k1 k2=>absurd k1 (by omega)⟩
theorem Ur {body:Int→Option (Int ⊕ Int)} (c:Int→Bool) {i j:Int} (hij:i≤j+1) (hs:∀ s,i≤s→s≤j→body s=if c s then some (.inl (s-1)) else some (.inr s)) (he:body (i-1)=some (.inr (i-1))) :
    ∃ x,aD body j=some x∧i-1≤x∧x≤j∧(∀ k,x<k→k≤j→c k=true)∧(i≤x→c x=false):=
  lX (fun s:Int=>(s+1-i).toNat) (fun s=>i-1≤s∧s≤j∧∀ k,s<k→k≤j→c k=true) (fun x=>i-1≤x∧x≤j∧(∀ k,x<k→k≤j→c k=true)∧(i≤x→c x=false)) body (by
    rintro s ⟨h1,h2,h3⟩
    by_cases h:i≤s
    · cases hc:c s with
      | true =>
        left
        refine ⟨s-1,by rw [hs s h h2,hc];rfl,⟨by omega,by omega,fun k k1 k2=>?_⟩,by omega⟩
        by_cases e:k=s
        · subst e;exact hc
        · exact h3 k (by omega) k2
      | false =>
        right
        exact ⟨s,by rw [hs s h h2,hc];rfl,h1,h2,h3,fun _=>hc⟩
    · right
      obtain rfl:s=i-1:=by omega
      exact ⟨_,he,h1,h2,h3,fun q=>absurd q (by omega)⟩) j ⟨by omega,Int.le_refl _,fun k k1 k2=>absurd k1 (by omega)⟩
section
variable {α:Type} {br:Br α} {lt:α→α→Bool} {P:α→Prop} {d:α} (hbr:∀ (β:Type) (x y:α) (k:Bool→Option β),P x→P y→br β x y k=k (lt x y)) (w:Vu lt)
include hbr
theorem Zj {a b:Int} {l0:List α} (ha:0≤a) (hab:a<b) (hb:b≤l0.length) (hf0:Fine P d l0) {i0 j0:Int} (h1:a+1≤i0) (h2:j0≤b-1) (h3:i0≤j0+1)
    (hlo:∀ k,a+1≤k→k<i0→lt (gz d l0 k) (gz d l0 a)=true) (hhi:∀ k,j0<k→k<b→lt (gz d l0 k) (gz d l0 a)=false) :
    ∃ r,aD (xM br a) (i0,j0,l0)=some r∧On d (a+1) b l0 r.2∧gz d r.2 a=gz d l0 a∧a≤r.1∧r.1<b∧(∀ k,a+1≤k→k≤r.1→lt (gz d r.2 k) (gz d l0 a)=true)∧(∀ k,r.1<k→k<b→lt (gz d r.2 k) (gz d l0 a)=false):=by
  have hL:=hf0.len
  refine lX (fun s:Int×Int×List α=>(s.2.1+1-s.1).toNat) (fun s:Int×Int×List α=>a+1≤s.1∧s.2.1≤b-1∧s.1≤s.2.1+1∧On d (a+1) b l0 s.2.2∧gz d s.2.2 a=gz d l0 a ∧
      (∀ k,a+1≤k→k<s.1→lt (gz d s.2.2 k) (gz d l0 a)=true)∧(∀ k,s.2.1<k→k<b→lt (gz d s.2.2 k) (gz d l0 a)=false)) _ (xM br a) ?_ (i0,j0,l0) ⟨h1,h2,h3,.refl _,rfl,hlo,hhi⟩
  rintro ⟨i,j,l⟩ ⟨i1,i2,i3,hon,hp,hI,hJ⟩
  simp only at i1 i2 i3 hon hp hI hJ ⊢
  have hf:=hf0.on hon
  have hl:=hon.len
  unfold xM
  obtain ⟨x,x1,x2,x3,x4,x5⟩:=Xh (body:=xK br a (i,j,l)) (fun k=>lt (gz d l k) (gz d l0 a)) i3 (fun s s1 s2=>by
    unfold xK
    simp (disch:=first | omega | (refine hf.all _ ?_ ?_ <;> omega) | (refine hf0.all _ ?_ ?_ <;> omega)) only [s2,decide_true,if_true,iO d,Option.bind_some,hbr,hp,aL]) (by
    unfold xK
    simp only [show ¬ j+1≤j from by omega,decide_false,Bool.false_eq_true,if_false,Option.bind_some])
  obtain ⟨y,y1,y2,y3,y4,y5⟩:=Ur (body:=xL br a (i,j,l) x) (fun k=>!lt (gz d l k) (gz d l0 a)) x3 (fun s s1 s2=>by
    unfold xL
    simp (disch:=first | omega | (refine hf.all _ ?_ ?_ <;> omega) | (refine hf0.all _ ?_ ?_ <;> omega)) only [s1,decide_true,if_true,iO d,Option.bind_some,hbr,hp,aT]) (by
    unfold xL
    simp only [show ¬ x≤x-1 from by omega,decide_false,Bool.false_eq_true,if_false,Option.bind_some])
  simp only [x1,y1,Option.bind_some]
  by_cases hxy:x>y
  · right
    refine ⟨(y,l),by simp only [hxy,decide_true,if_true],hon,hp,by simp only;omega,by simp only;omega,fun k k1 k2=>?_,fun k k1 k2=>?_⟩
    · simp only at k2 ⊢
      by_cases e:k<i
      · exact hI k k1 e
      · exact x4 k (by omega) (by omega)
    · simp only at k1 ⊢
      by_cases e:j<k
      · exact hJ k e k2
      · have:=y4 k (by omega) (by omega)
        simpa using this
  · left
    have hx:=x5 (by omega)
    have hy:=y5 (by omega)
    simp only [Bool.not_eq_eq_eq_not,Bool.not_false] at hy
    have hne:x≠y:=fun e=>by subst e;rw [hx] at hy;cases hy
    refine ⟨(x+1,y-1,sw d l x y), ?_,⟨by simp only;omega,by simp only;omega,by simp only;omega,.step hon x y (by omega) (by omega) (by omega) (by omega) (by omega) (by omega), ?_,fun k k1 k2=>?_,fun k k1 k2=>?_⟩,by simp only;omega⟩
    · simp (disch:=first | omega | (simp only [List.length_set];omega)) only [hxy,decide_false,Bool.false_eq_true,if_false,iO d,Option.bind_some,aL,aT]
      rfl
    · simp only
      rw [qF d (by omega) (by omega) (by omega) (by omega) (by omega),if_neg (by omega),if_neg (by omega)];exact hp
    · simp only at k2 ⊢
      rw [qF d (by omega) (by omega) (by omega) (by omega) (by omega),if_neg (by omega)]
      by_cases e:k=x
      · rw [if_pos e];exact hy
      · rw [if_neg e]
        by_cases e:k<i
        · exact hI k k1 e
        · exact x4 k (by omega) (by omega)
    · simp only at k1 ⊢
      rw [qF d (by omega) (by omega) (by omega) (by omega) (by omega)]
      by_cases e:k=y
      · rw [if_pos e];exact hx
      · rw [if_neg e,if_neg (by omega)]
        by_cases e:j<k
        · exact hJ k e k2
        · have:=y4 k (by omega) (by omega)
          simpa using this
theorem EI {a b pivot:Int} {l0:List α} (ha:0≤a) (hab:a<b) (hb:b≤l0.length) (hf0:Fine P d l0) (hp1:a≤pivot) (hp2:pivot<b) :
    ∃ mid al l',Cb br a b pivot l0=some (mid,al,l')∧On d a b l0 l'∧a≤mid∧mid<b∧(∀ k,a≤k→k<mid→lt (gz d l' k) (gz d l' mid)=true)∧(∀ k,mid<k→k<b→lt (gz d l' k) (gz d l' mid)=false):=by
  have hL:=hf0.len
  have hon1:On d a b l0 (sw d l0 a pivot):=.step (.refl _) _ _ (Int.le_refl _) hab hp1 hp2 ha hb
  obtain ⟨l1,hl1⟩:∃ l1,sw d l0 a pivot=l1:=⟨_,rfl⟩
  have e1:List.set (List.set l0 (Int.toNat a) (gz d l0 pivot)) (Int.toNat pivot) (gz d l0 a)=l1:=hl1
  rw [hl1] at hon1
  have hf:=hf0.on hon1
  have hl:=hon1.len
  have s1:aH b 1=b-1:=aT (by omega) (by omega)
  have s2:aF a 1=a+1:=aL (by omega) (by omega)
  unfold Cb
  simp (disch:=first | omega | (simp only [List.length_set];omega)) only [iO d (l:=l0),Option.bind_some]
  rw [show idx (l0.set a.toNat (gz d l0 pivot)) pivot=some (gz d (l0.set a.toNat (gz d l0 pivot)) pivot) from iO d (by omega) (by rw [List.length_set];omega),Option.bind_some,e1]
  obtain ⟨x,x1,x2,x3,x4,x5⟩:=Xh (body:=xI br a b pivot l0 (gz d l0 pivot) (gz d l0 a)) (fun k=>lt (gz d l1 k) (gz d l1 a)) (i:=a+1) (j:=b-1) (by omega) (fun s q1 q2=>by
    unfold xI
    simp (disch:=first | omega | (refine hf.all _ ?_ ?_ <;> omega)) only [e1,s1,q2,decide_true,if_true,iO d,Option.bind_some,hbr,aL]) (by
    unfold xI
    simp only [s1,show ¬ b-1+1≤b-1 from by omega,decide_false,Bool.false_eq_true,if_false,Option.bind_some])
  obtain ⟨y,y1,y2,y3,y4,y5⟩:=Ur (body:=xJ br a pivot l0 (gz d l0 pivot) (gz d l0 a) x) (fun k=>!lt (gz d l1 k) (gz d l1 a)) (i:=x) (j:=b-1) x3 (fun s q1 q2=>by
    unfold xJ
    simp (disch:=first | omega | (refine hf.all _ ?_ ?_ <;> omega)) only [e1,q1,decide_true,if_true,iO d,Option.bind_some,hbr,aT]) (by
    unfold xJ
    simp only [show ¬ x≤x-1 from by omega,decide_false,Bool.false_eq_true,if_false,Option.bind_some])
  have fin:∀ (m:Int) (l:List α),On d a b l0 l→a≤m→m<b→gz d l a=gz d l1 a→(∀ k,a+1≤k→k≤m→lt (gz d l k) (gz d l1 a)=true)→(∀ k,m<k→k<b→lt (gz d l k) (gz d l1 a)=false) →
      On d a b l0 (sw d l m a)∧(∀ k,a≤k→k<m→lt (gz d (sw d l m a) k) (gz d (sw d l m a) m)=true)∧(∀ k,m<k→k<b→lt (gz d (sw d l m a) k) (gz d (sw d l m a) m)=false):=by
    intro m l on m1 m2 hq hlo hhi
    have hl:=on.len
    have em:gz d (sw d l m a) m=gz d l1 a:=by
      rw [qF d (by omega) (by omega) (by omega) (by omega) (by omega)]
      by_cases e:m=a
      · rw [if_pos e,e];exact hq
      · rw [if_neg e,if_pos rfl];exact hq
    refine ⟨.step on m a (by omega) (by omega) (by omega) (by omega) ha (by omega),fun k k1 k2=>?_,fun k k1 k2=>?_⟩
    · rw [em,qF d (by omega) (by omega) (by omega) (by omega) (by omega)]
      by_cases e:k=a
      · rw [if_pos e];exact hlo m (by omega) (Int.le_refl _)
      · rw [if_neg e,if_neg (by omega)];exact hlo k (by omega) (by omega)
    · rw [em,qF d (by omega) (by omega) (by omega) (by omega) (by omega),if_neg (by omega),if_neg (by omega)]
      exact hhi k k1 k2
  simp only [s1,s2,x1,y1,Option.bind_some]
  by_cases hxy:x>y
  · obtain ⟨f1,f2,f3⟩:=fin y l1 hon1 (by omega) (by omega) rfl (fun k k1 k2=>x4 k k1 (by omega)) (fun k k1 k2=>by
      have:=y4 k k1 (by omega)
      simpa using this)
    refine ⟨y,true,sw d l1 y a, ?_,f1,by omega,by omega,f2,f3⟩
    simp (disch:=first | omega | (simp only [List.length_set];omega)) only [hxy,decide_true,if_true,iO d,Option.bind_some]
    rfl
  · have hx:=x5 (by omega)
    have hy:=y5 (by omega)
    simp only [Bool.not_eq_eq_eq_not,Bool.not_false] at hy
    have hne:x≠y:=fun e=>by subst e;rw [hx] at hy;cases hy
    have hon2:On d (a+1) b l1 (sw d l1 x y):=.step (.refl _) x y (by omega) (by omega) (by omega) (by omega) (by omega) (by omega)
    have hga:gz d (sw d l1 x y) a=gz d l1 a:=by rw [qF d (by omega) (by omega) (by omega) (by omega) (by omega),if_neg (by omega),if_neg (by omega)]
    have hl2:(sw d l1 x y).length=l1.length:=Zx ..
    obtain ⟨r,r1,r2,r3,r4,r5,r6,r7⟩:=Zj hbr (i0:=x+1) (j0:=y-1) ha hab (by omega) (hf.on hon2) (by omega) (by omega) (by omega) (fun k k1 k2=>by
        rw [hga,qF d (by omega) (by omega) (by omega) (by omega) (by omega),if_neg (by omega)]
        by_cases e:k=x
        · rw [if_pos e];exact hy
        · rw [if_neg e];exact x4 k k1 (by omega)) (fun k k1 k2=>by
        rw [hga,qF d (by omega) (by omega) (by omega) (by omega) (by omega)]
        by_cases e:k=y
        · rw [if_pos e];exact hx
        · rw [if_neg e,if_neg (by omega)]
          have:=y4 k (by omega) (by omega)
          simpa using this)
    rw [hga] at r3 r6 r7
    have hon3:=(hon2.trans d r2).mono d ha (by omega) (Int.le_refl _) (by omega)
    have hl3:=r2.len
    obtain ⟨f1,f2,f3⟩:=fin r.1 r.2 (hon1.trans d hon3) r4 r5 r3 r6 r7
    have e2:List.set (List.set l1 (Int.toNat x) (gz d l1 y)) (Int.toNat y) (gz d l1 x)=sw d l1 x y:=rfl
    refine ⟨r.1,false,sw d r.2 r.1 a, ?_,f1,r4,r5,f2,f3⟩
    simp (disch:=first | omega | (simp only [List.length_set];omega)) only [hxy,decide_false,Bool.false_eq_true,if_false,iO d,Option.bind_some,aL,aT,e2,r1]
    rfl
theorem Sj {a b pivot:Int} {l0:List α} (ha:0≤a) (hab:a<b) (hb:b≤l0.length) (hf0:Fine P d l0) (hp1:a≤pivot) (hp2:pivot<b) (hirr:∀ x,lt x x=false) :
    ∃ mid l',yF br a b pivot l0=some (mid,l')∧On d a b l0 l'∧a<mid∧mid≤b∧(∀ k,a≤k→k<mid→lt (gz d l0 pivot) (gz d l' k)=false):=by
  have hL:=hf0.len
  have hon1:On d a b l0 (sw d l0 a pivot):=.step (.refl _) _ _ (Int.le_refl _) hab hp1 hp2 ha hb
  obtain ⟨l1,hl1⟩:∃ l1,sw d l0 a pivot=l1:=⟨_,rfl⟩
  have e1:List.set (List.set l0 (Int.toNat a) (gz d l0 pivot)) (Int.toNat pivot) (gz d l0 a)=l1:=hl1
  have hpa:gz d l1 a=gz d l0 pivot:=by
    rw [← hl1,qF d (by omega) (by omega) (by omega) (by omega) (by omega)]
    by_cases e:a=pivot
    · rw [if_pos e,e]
    · rw [if_neg e,if_pos rfl]
  rw [hl1] at hon1
  have hf1:=hf0.on hon1
  have hl1':=hon1.len
  have s1:aH b 1=b-1:=aT (by omega) (by omega)
  have s2:aF a 1=a+1:=aL (by omega) (by omega)
  obtain ⟨r,r1,r2,r3,r4,r5⟩:=lX (fun s:Int×Int×List α=>(s.2.1+1-s.1).toNat) (fun s:Int×Int×List α=>a+1≤s.1∧s.2.1≤b-1∧s.1≤s.2.1+1∧On d (a+1) b l1 s.2.2∧gz d s.2.2 a=gz d l1 a ∧
      (∀ k,a+1≤k→k<s.1→lt (gz d l1 a) (gz d s.2.2 k)=false)) (fun r:Int×List α=>On d a b l0 r.2∧a<r.1∧r.1≤b∧(∀ k,a≤k→k<r.1→lt (gz d l0 pivot) (gz d r.2 k)=false)) (vJ br a) (by
    rintro ⟨i,j,l⟩ ⟨i1,i2,i3,hon,hp,hI⟩
    simp only at i1 i2 i3 hon hp hI ⊢
    have hf:=hf1.on hon
    have hl:=hon.len
    unfold vJ
    obtain ⟨x,x1,x2,x3,x4,x5⟩:=Xh (body:=pY br a (i,j,l)) (fun k=>!lt (gz d l1 a) (gz d l k)) i3 (fun s s1 s2=>by
      unfold pY
      simp (disch:=first | omega | (refine hf.all _ ?_ ?_ <;> omega) | (refine hf1.all _ ?_ ?_ <;> omega)) only [s2,decide_true,if_true,iO d,Option.bind_some,hbr,hp,aL]) (by
      unfold pY
      simp only [show ¬ j+1≤j from by omega,decide_false,Bool.false_eq_true,if_false,Option.bind_some])
    obtain ⟨y,y1,y2,y3,y4,y5⟩:=Ur (body:=qD br a (i,j,l) x) (fun k=>lt (gz d l1 a) (gz d l k)) x3 (fun s s1 s2=>by
      unfold qD
      simp (disch:=first | omega | (refine hf.all _ ?_ ?_ <;> omega) | (refine hf1.all _ ?_ ?_ <;> omega)) only [s1,decide_true,if_true,iO d,Option.bind_some,hbr,hp,aT]) (by
      unfold qD
      simp only [show ¬ x≤x-1 from by omega,decide_false,Bool.false_eq_true,if_false,Option.bind_some])
    simp only [x1,y1,Option.bind_some]
    have below:∀ k,a+1≤k→k<x→lt (gz d l1 a) (gz d l k)=false:=fun k k1 k2=>by
      by_cases e:k<i
      · exact hI k k1 e
      · have:=x4 k (by omega) k2
        simpa using this
    by_cases hxy:x>y
    · right
      refine ⟨(x,l),by simp only [hxy,decide_true,if_true],hon1.trans d (hon.mono d ha (by omega) (Int.le_refl _) (by omega)),by simp only;omega,by simp only;omega,fun k k1 k2=>?_⟩
      simp only at k2 ⊢
      rw [← hpa]
      by_cases e:k=a
      · rw [e,hp];exact hirr _
      · exact below k (by omega) k2
    · left
      have hx:=x5 (by omega)
      have hy:=y5 (by omega)
      simp only [Bool.not_eq_eq_eq_not,Bool.not_false] at hx
      have hne:x≠y:=fun e=>by subst e;rw [hx] at hy;cases hy
      refine ⟨(x+1,y-1,sw d l x y), ?_,⟨by simp only;omega,by simp only;omega,by simp only;omega,.step hon x y (by omega) (by omega) (by omega) (by omega) (by omega) (by omega), ?_,fun k k1 k2=>?_⟩,by simp only;omega⟩
      · simp (disch:=first | omega | (simp only [List.length_set];omega)) only [hxy,decide_false,Bool.false_eq_true,if_false,iO d,Option.bind_some,aL,aT]
        rfl
      · simp only
        rw [qF d (by omega) (by omega) (by omega) (by omega) (by omega),if_neg (by omega),if_neg (by omega)];exact hp
      · simp only at k2 ⊢
        rw [qF d (by omega) (by omega) (by omega) (by omega) (by omega),if_neg (by omega)]
        by_cases e:k=x
        · rw [if_pos e];exact hy
        · rw [if_neg e];exact below k k1 (by omega)) (a+1,b-1,l1) ⟨by simp only;omega,by simp only;omega,by simp only;omega,.refl _,rfl,fun k k1 k2=>absurd k1 (by simp only at k2;omega)⟩
  refine ⟨r.1,r.2, ?_,r2,r3,r4,r5⟩
  unfold yF
  simp (disch:=first | omega | (simp only [List.length_set];omega)) only [iO d (l:=l0),Option.bind_some]
  rw [show idx (l0.set a.toNat (gz d l0 pivot)) pivot=some (gz d (l0.set a.toNat (gz d l0 pivot)) pivot) from iO d (by omega) (by rw [List.length_set];omega),Option.bind_some,e1]
  simp only [s1,s2,r1,Option.bind_some]
end
end Go.SM
namespace Go.SM
open Go Go.VI
theorem wrap_u64 {x:Int} (h0:0≤x) (h1:x<18446744073709551616):IntKind.wrap .u64 x=x:=by
  simp only [IntKind.wrap,IntKind.signed,IntKind.bits,IntKind.min,IntKind.max]
  first | omega | (simp;omega)
theorem G5:((List.range 256).all fun c=>match sM ((c:Int),0) with | some t=>decide (0≤t∧t≤8∧2^t.toNat≤max 1 (2*c)) | none=>false)=true:=by decide +kernel
theorem TY (c n:Int) (h0:0≤n) (h1:n≤64) (hc:0≤c) (hc2:c<256):∃ t:Int,sM (c,n)=some (n+t)∧0≤t∧t≤8∧2^t.toNat≤max 1 (2*c.toNat):=by
  have h:=List.all_eq_true.1 G5 c.toNat (List.mem_range.2 (by omega))
  rw [show ((c.toNat:Nat):Int)=c from by omega] at h
  obtain ⟨T,hT⟩:∃ T:Int→Option Int,∀ c n,sM (c,n)=(T c).bind fun x=>some (aF n (IntKind.wrap .i64 x)):=⟨fun c=>Me (ByteArray.mk #[0,1,2,2,3,3,3,3,4,4,4,4,4,4,4,4,5,5,5,5,5,5,5,5,5,5,5,5,5,5,5,5,6,6,6,6,6,6,6,6,6,6,6,6,6,6,6,6,6,6,6,6,6,6,6,6,6,6,6,6,6,6,6,6,7,7,7,7,7,7,7,7,7,7,7,7,7,7,7,7,7,7,7,7,7,7,7,7,7,7,7,7,7,7,7,7,7,7,7,7,7,7,7,7,7,7,7,7,7,7,7,7,7,7,7,7,7,7,7,7,7,7,7,7,7,7,7,7,8,8,8,8,8,8,8,8,8,8,8,8,8,8,8,8,8,8,8,8,8,8,8,8,8,8,8,8,8,8,8,8,8,8,8,8,8,8,8,8,8,8,8,8,8,8,8,8,8,8,8,8,8,8,8,8,8,8,8,8,8,8,8,8,8,8,8,8,8,8,8,8,8,8,8,8,8,8,8,8,8,8,8,8,8,8,8,8,8,8,8,8,8,8,8,8,8,8,8,8,8,8,8,8,8,8,8,8,8,8,8,8,8,8,8,8,8,8,8,8,8,8,8,8,8,8,8,8]) (IntKind.wrap .u8 c),fun _ _=>rfl⟩
  rw [hT] at h ⊢
  cases hs:T c with
  | none=>rw [hs] at h;simp at h
  | some t =>
    rw [hs] at h
    simp only [Option.bind_some,decide_eq_true_eq] at h ⊢
    generalize hw:IntKind.i64.wrap t=v at h ⊢
    have hv:aF 0 v=v:=by
      unfold aF
      rw [Int.zero_add,← hw]
      simp only [IntKind.wrap,IntKind.signed,IntKind.bits,IntKind.min,IntKind.max]
      first | omega | (simp only [Int.reducePow,if_true];omega) | (simp;omega)
    rw [hv] at h
    exact ⟨v,by rw [aL (by omega) (by omega)],h.1,h.2.1,h.2.2⟩
theorem UF {x:Int} (h0:0≤x) (h1:x≤1073741824):∃ v:Int,Gi (IntKind.wrap .u64 x)=some v∧0≤v∧v≤40∧2^v.toNat≤max 1 (2*x.toNat):=by
  have hw:IntKind.wrap .u64 x=x:=by
    exact wrap_u64 (by omega) (by omega)
  have c8:(2^(min (Int.toNat 8) 64):Int)=256:=by decide
  have c16:(2^(min (Int.toNat 16) 64):Int)=65536:=by decide
  have step:∀ (c n:Int),0≤c→0≤n→n≤30→c<65536→∃ t:Int,wF (c,n)=some (n+t)∧0≤t∧t≤16∧2^t.toNat≤max 1 (2*c.toNat):=fun c n h0 hn hn2 hc=>by
    unfold wF
    by_cases q:c ≥ 256
    · simp only [q,decide_true,if_true,c8]
      have e:Int.fdiv c 256=c / 256:=Int.fdiv_eq_ediv_of_nonneg _ (by omega)
      rw [e,aL (by omega) (by omega)]
      obtain ⟨t,t1,t2,t3,t4⟩:=TY (c / 256) (n+8) (by omega) (by omega) (by omega) (by omega)
      refine ⟨8+t,by rw [t1];congr 1;omega,by omega,by omega, ?_⟩
      rw [show (8+t).toNat=8+t.toNat from by omega,Nat.pow_add]
      omega
    · simp only [q,decide_false,Bool.false_eq_true,if_false]
      obtain ⟨t,t1,t2,t3,t4⟩:=TY c n (by omega) (by omega) (by omega) (by omega)
      exact ⟨t,t1,t2,by omega,t4⟩
  unfold Gi Ou yZ
  rw [hw]
  have q:¬ x ≥ 4294967296:=by omega
  simp only [q,decide_false,Bool.false_eq_true,if_false]
  by_cases q:x ≥ 65536
  · simp only [q,decide_true,if_true,c16]
    have e:Int.fdiv x 65536=x / 65536:=Int.fdiv_eq_ediv_of_nonneg _ (by omega)
    rw [e,show aF 0 16=16 from rfl]
    obtain ⟨t,t1,t2,t3,t4⟩:=step (x / 65536) 16 (by omega) (by omega) (by omega) (by omega)
    refine ⟨16+t,by rw [t1];rfl,by omega,by omega, ?_⟩
    rw [show (16+t).toNat=16+t.toNat from by omega,Nat.pow_add]
    omega
  · simp only [q,decide_false,Bool.false_eq_true,if_false]
    obtain ⟨t,t1,t2,t3,t4⟩:=step x 0 h0 (by omega) (by omega) (by omega)
    refine ⟨t,by rw [t1,Int.zero_add];rfl,t2,by omega,t4⟩
section
variable {α:Type} {br:Br α} {lt:α→α→Bool} {P:α→Prop} {d:α} (hbr:∀ (β:Type) (x y:α) (k:Bool→Option β),P x→P y→br β x y k=k (lt x y)) (w:Vu lt)
theorem KU {a b:Int} {l0:List α} (ha:0≤a) (hb:b≤l0.length) (hL:(l0.length:Int)≤1073741824) (hab:a≤b):∃ l',Bh br a b l0=some l'∧On d a b l0 l':=by
  obtain ⟨l',r1,r2⟩:=lX (fun s:Int×Int×List α=>(s.2.1+1-s.1).toNat) (fun s:Int×Int×List α=>a≤s.1∧s.2.1<b∧s.1≤b∧a-1≤s.2.1∧On d a b l0 s.2.2) (fun l'=>On d a b l0 l') (xQ br) (by
    rintro ⟨i,j,l⟩ ⟨h1,h2,h3,h4,hon⟩
    simp only at h1 h2 h3 h4 hon ⊢
    have hl:=hon.len
    unfold xQ
    by_cases q:i<j
    · left
      refine ⟨(i+1,j-1,sw d l i j), ?_,⟨by simp only;omega,by simp only;omega,by simp only;omega,by simp only;omega,.step hon i j h1 (by omega) (by omega) h2 ha (by omega)⟩,by simp only;omega⟩
      simp (disch:=first | omega | (simp only [List.length_set];omega)) only [q,decide_true,if_true,iO d,Option.bind_some,aL,aT]
      rfl
    · right
      exact ⟨l,by simp only [q,decide_false,Bool.false_eq_true,if_false],hon⟩) (a,b-1,l0) ⟨by simp only;omega,by simp only;omega,by simp only;omega,by simp only;omega,.refl _⟩
  refine ⟨l', ?_,r2⟩
  unfold Bh
  rw [aT (by omega) (by omega),r1];rfl
theorem ZO (r m:Int) (h0:0≤m) (h1:m<9223372036854775808):0≤Ru .u64 r m∧Ru .u64 r m≤m:=by
  unfold Ru
  have hb:(BitVec.ofInt 64 m).toNat=m.toNat:=by
    rw [BitVec.toNat_ofInt]
    omega
  have hle:(BitVec.ofInt IntKind.u64.bits r &&& BitVec.ofInt IntKind.u64.bits m).toNat≤m.toNat:=by
    show (BitVec.ofInt 64 r &&& BitVec.ofInt 64 m).toNat≤m.toNat
    rw [BitVec.toNat_and,hb]
    exact Nat.and_le_right
  generalize (BitVec.ofInt IntKind.u64.bits r &&& BitVec.ofInt IntKind.u64.bits m).toNat=v at hle ⊢
  have hw:IntKind.wrap .u64 (v:Int)=v:=by
    exact wrap_u64 (by omega) (by omega)
  rw [hw];omega
theorem I5 {n:Int} (h:0≤n) (h2:n≤1073741824):wN n 4=n / 4:=by
  unfold wN
  rw [Int.tdiv_eq_ediv_of_nonneg h]
  exact Jy _ (by omega) (by omega)
theorem RN {a b:Int} {l0:List α} (ha:0≤a) (hb:b≤l0.length) (hL:(l0.length:Int)≤1073741824) (hab:a≤b):∃ l',zI br a b l0=some l'∧On d a b l0 l':=by
  have s1:aH b a=b-a:=aT (by omega) (by omega)
  unfold zI
  rw [s1]
  by_cases h8:b-a ≥ 8
  case neg=>simp only [h8,decide_false,Bool.false_eq_true,if_false];exact ⟨l0,rfl,.refl _⟩
  simp only [h8,decide_true,if_true]
  obtain ⟨v,v1,v2,v3,v4⟩:=UF (x:=b-a) (by omega) (by omega)
  have hpow:1≤2^v.toNat:=Nat.one_le_two_pow
  have hr2:yD (b-a)=some ((2^v.toNat:Nat):Int):=by
    unfold yD
    rw [v1]
    simp only [Option.bind_some,v2,decide_true,if_true]
    congr 1
    rw [show min v.toNat 64=v.toNat from by omega,Int.one_mul,show (2:Int)^v.toNat=((2^v.toNat:Nat):Int) from by simp]
    exact wrap_u64 (by omega) (by omega)
  rw [hr2,Option.bind_some]
  obtain ⟨R,hR⟩:∃ R:Int,((2^v.toNat:Nat):Int)=R:=⟨_,rfl⟩
  rw [hR]
  have hR1:1≤R:=by omega
  have hR2:R≤2*(b-a):=by omega
  have hm:IntKind.wrap .u64 (R-1)=R-1:=by
    exact wrap_u64 (by omega) (by omega)
  have q4:=I5 (n:=b-a) (by omega) (by omega)
  have q2:lL ((b-a) / 4) 2=(b-a) / 4*2:=Nw (by omega) (by omega)
  have q3:aF a ((b-a) / 4*2)=a+(b-a) / 4*2:=aL (by omega) (by omega)
  have q5:aF (a+(b-a) / 4*2) 1=a+(b-a) / 4*2+1:=aL (by omega) (by omega)
  have q6:aH (a+(b-a) / 4*2) 1=a+(b-a) / 4*2-1:=aT (by omega) (by omega)
  obtain ⟨l',r1,r2⟩:=lX (fun s:Int×Int×List α=>(a+(b-a) / 4*2+2-s.1).toNat) (fun s:Int×Int×List α=>a≤s.1∧On d a b l0 s.2.2) (fun l'=>On d a b l0 l') (wL br a b R) (by
    rintro ⟨i,rr,l⟩ ⟨h1,hon⟩
    simp only at h1 hon ⊢
    have hl:=hon.len
    unfold wL
    simp only [s1,q4,q2,q3,q5,hm]
    by_cases q:i≤a+(b-a) / 4*2+1
    · left
      simp only [q,decide_true,if_true,Ih,Option.bind_some]
      generalize hz:(jI IntKind.u64 _ _:Int)=z
      obtain ⟨a1,a2⟩:=ZO z (R-1) (by omega) (by omega)
      have hw:IntKind.wrap .i64 (Ru .u64 z (R-1))=Ru .u64 z (R-1):=Jy _ (by omega) (by omega)
      rw [hw]
      obtain ⟨o,ho⟩:∃ o,Ru .u64 z (R-1)=o:=⟨_,rfl⟩
      rw [ho] at a1 a2 ⊢
      have key:∀ t:Int,0≤t→t<b-a→∃ s',sF br a (i,rr,l) t=some (.inl s')∧(a≤s'.1∧On d a b l0 s'.2.2)∧(a+(b-a) / 4*2+2-s'.1).toNat<(a+(b-a) / 4*2+2-i).toNat:=fun t t1 t2=>by
        have e:aF a t=a+t:=aL (by omega) (by omega)
        unfold sF
        simp (disch:=first | omega | (simp only [List.length_set];omega)) only [e,iO d,Option.bind_some]
        refine ⟨_,rfl,⟨?_, ?_⟩, ?_⟩
        · simp only;rw [aL (by omega) (by omega)];omega
        · exact .step hon i (a+t) (by omega) (by omega) (by omega) (by omega) ha (by omega)
        · simp only;rw [aL (by omega) (by omega)];omega
      by_cases hge:o ≥ b-a
      · simp only [hge,decide_true,if_true]
        rw [aT (by omega) (by omega)]
        exact key (o-(b-a)) (by omega) (by omega)
      · simp only [hge,decide_false,Bool.false_eq_true,if_false]
        exact key o a1 (by omega)
    · right
      exact ⟨l,by simp only [q,decide_false,Bool.false_eq_true,if_false],hon⟩) (a+(b-a) / 4*2-1,IntKind.wrap .u64 (b-a),l0) ⟨by simp only;omega,.refl _⟩
  refine ⟨l', ?_,r2⟩
  simp only [q4,q2,q3,q6,r1,Option.bind_some]
include hbr
theorem Ui {l:List α} (hf:Fine P d l) {x y:Int} (s:Int) (hx:0≤x) (hx':x<l.length) (hy:0≤y) (hy':y<l.length):∃ r,Ig br l x y s=some r∧((r.1=x∧r.2.1=y)∨(r.1=y∧r.2.1=x)):=by
  unfold Ig
  rw [iO d hy hy',Option.bind_some,iO d hx hx',Option.bind_some,hbr _ _ _ _ (hf.all _ hy hy') (hf.all _ hx hx')]
  cases lt (gz d l y) (gz d l x) with
  | true=>exact ⟨_,rfl,.inr ⟨rfl,rfl⟩⟩
  | false=>exact ⟨_,rfl,.inl ⟨rfl,rfl⟩⟩
theorem CF {l:List α} (hf:Fine P d l) {lo hi x y z:Int} (s:Int) (hlo:0≤lo) (hhi:hi≤l.length) (hx:lo≤x∧x<hi) (hy:lo≤y∧y<hi) (hz:lo≤z∧z<hi):∃ r,Nu br l x y z s=some r∧lo≤r.1∧r.1<hi:=by
  unfold Nu
  obtain ⟨r1,e1,q1⟩:=Ui hbr hf (x:=x) (y:=y) s (by omega) (by omega) (by omega) (by omega)
  rw [e1,Option.bind_some]
  obtain ⟨r2,e2,q2⟩:=Ui hbr hf (x:=r1.2.1) (y:=z) r1.2.2 (by omega) (by omega) (by omega) (by omega)
  rw [e2,Option.bind_some]
  obtain ⟨r3,e3,q3⟩:=Ui hbr hf (x:=r1.1) (y:=r2.1) r2.2.2 (by omega) (by omega) (by omega) (by omega)
  rw [e3,Option.bind_some]
  exact ⟨_,rfl,by simp only;omega,by simp only;omega⟩
theorem OG {l:List α} (hf:Fine P d l) {a b:Int} (ha:0≤a) (hb:b≤l.length) (hab:a+12<b):∃ p h,Dz br l a b=some (p,h)∧a≤p∧p<b:=by
  have hL:=hf.len
  have s1:aH b a=b-a:=aT (by omega) (by omega)
  have q4:=I5 (n:=b-a) (by omega) (by omega)
  have m1:lL ((b-a) / 4) 1=(b-a) / 4*1:=Nw (by omega) (by omega)
  have m2:lL ((b-a) / 4) 2=(b-a) / 4*2:=Nw (by omega) (by omega)
  have m3:lL ((b-a) / 4) 3=(b-a) / 4*3:=Nw (by omega) (by omega)
  have a1:aF a ((b-a) / 4*1)=a+(b-a) / 4*1:=aL (by omega) (by omega)
  have a2:aF a ((b-a) / 4*2)=a+(b-a) / 4*2:=aL (by omega) (by omega)
  have a3:aF a ((b-a) / 4*3)=a+(b-a) / 4*3:=aL (by omega) (by omega)
  have k1:∀ p n:Int,∃ h,uN br (p,n)=some (p,h):=fun p n=>by
    unfold uN
    simp only
    split
    · exact ⟨_,rfl⟩
    · split
      · exact ⟨_,rfl⟩
      · exact ⟨_,rfl⟩
  have k2:∀ x y z s:Int,(a≤x∧x<b)→(a≤y∧y<b)→(a≤z∧z<b)→∃ p h,uO br l (x,y,z,s)=some (p,h)∧a≤p∧p<b:=fun x y z s hx hy hz=>by
    unfold uO
    obtain ⟨r,e,r1,r2⟩:=CF hbr hf (lo:=a) (hi:=b) s ha hb hx hy hz
    simp only [e,Option.bind_some]
    obtain ⟨h,e2⟩:=k1 r.1 r.2
    exact ⟨_,h,e2,r1,r2⟩
  have adj:∀ x s:Int,a+1≤x→x+1<b→∃ r,pX br l x s=some r∧a≤r.1∧r.1<b:=fun x s h1 h2=>by
    unfold pX
    rw [aT (by omega) (by omega),aL (by omega) (by omega)]
    obtain ⟨r,e,r1,r2⟩:=CF hbr hf (lo:=a) (hi:=b) (x:=x-1) (y:=x) (z:=x+1) s ha hb (by omega) (by omega) (by omega)
    rw [e]
    exact ⟨_,rfl,r1,r2⟩
  unfold Dz
  have h8:b-a ≥ 8:=by omega
  simp only [s1,q4,m1,m2,m3,a1,a2,a3,h8,decide_true,if_true]
  by_cases h50:b-a ≥ 50
  · simp only [h50,decide_true,if_true]
    obtain ⟨r1,e1,p1,p2⟩:=adj (a+(b-a) / 4*1) 0 (by omega) (by omega)
    rw [e1,Option.bind_some]
    obtain ⟨r2,e2,p3,p4⟩:=adj (a+(b-a) / 4*2) r1.2 (by omega) (by omega)
    rw [e2,Option.bind_some]
    obtain ⟨r3,e3,p5,p6⟩:=adj (a+(b-a) / 4*3) r2.2 (by omega) (by omega)
    rw [e3,Option.bind_some]
    exact k2 _ _ _ _ ⟨p1,p2⟩ ⟨p3,p4⟩ ⟨p5,p6⟩
  · simp only [h50,decide_false,Bool.false_eq_true,if_false]
    exact k2 _ _ _ _ (by omega) (by omega) (by omega)
end
end Go.SM
namespace Go.SM
open Go Go.VI
section
variable {α:Type} {br:Br α} {lt:α→α→Bool} {P:α→Prop} {d:α} (hbr:∀ (β:Type) (x y:α) (k:Bool→Option β),P x→P y→br β x y k=k (lt x y)) (w:Vu lt)
include hbr
theorem QO {i b:Int} {l0:List α} (hi:0≤i) (hib:i+1≤b) (hb:b≤l0.length) (hf0:Fine P d l0):∃ l',aD (kI br b) (i+1,l0)=some l'∧On d i b l0 l':=by
  have hL:=hf0.len
  refine lX (fun s:Int×List α=>(b-s.1).toNat) (fun s:Int×List α=>i+1≤s.1∧On d i b l0 s.2) _ (kI br b) ?_ (i+1,l0) ⟨Int.le_refl _,.refl _⟩
  rintro ⟨j,l⟩ ⟨h1,hon⟩
  simp only at h1 hon ⊢
  have hf:=hf0.on hon
  have hl:=hon.len
  unfold kI
  by_cases q:j<b
  · cases hc:lt (gz d l j) (gz d l (j-1)) with
    | true =>
      left
      refine ⟨(j+1,sw d l j (j-1)), ?_,⟨by simp only;omega,.step hon j (j-1) (by omega) (by omega) (by omega) (by omega) hi (by omega)⟩,by simp only;omega⟩
      simp (disch:=first | omega | (simp only [List.length_set];omega) | (refine hf.all _ ?_ ?_ <;> omega)) only [q,decide_true,if_true,aT,aL,iO d,Option.bind_some,hbr,hc,Bool.not_true,Bool.false_eq_true,if_false]
      rfl
    | false =>
      right
      refine ⟨l, ?_,hon⟩
      simp (disch:=first | omega | (refine hf.all _ ?_ ?_ <;> omega)) only [q,decide_true,if_true,aT,iO d,Option.bind_some,hbr,hc,Bool.not_false]
  · right
    exact ⟨l,by simp only [q,decide_false,Bool.false_eq_true,if_false],hon⟩
include w
theorem QN {a b i:Int} {l0:List α} (ha:0≤a) (hi:a<i) (hib:i≤b) (hb:b≤l0.length) (hf0:Fine P d l0) (hpre:0<a→∀ k,a≤k→k<b→lt (gz d l0 k) (gz d l0 (a-1))=false) (h0:Asc d lt a (i-1) l0) :
    ∃ l',aD (kJ br) (i-1,l0)=some l'∧On d a i l0 l'∧Asc d lt a i l':=by
  have hL:=hf0.len
  refine lX (fun s:Int×List α=>(s.1-a).toNat) (fun s:Int×List α=>a≤s.1∧s.1≤i-1∧On d a i l0 s.2∧∀ p q:Int,a≤p→p<q→q≤i-1→q≠s.1→lt (gz d s.2 q) (gz d s.2 p)=false)
    (fun l'=>On d a i l0 l'∧Asc d lt a i l') (kJ br) ?_ (i-1,l0) ⟨by simp only;omega,Int.le_refl _,.refl _,fun p q h1 h2 h3 h4=>h0 p q h1 h2 (by simp only at h4;omega)⟩
  rintro ⟨j,l⟩ ⟨h1,h2,hon,hI⟩
  simp only at h1 h2 hon hI ⊢
  have hf:=hf0.on hon
  have hl:=hon.len
  have stop:(j=a∨lt (gz d l j) (gz d l (j-1))=false)→Asc d lt a i l:=fun hs p q p1 p2 p3=>by
    by_cases e1:q=j
    · subst e1
      rcases hs with hs | hs
      · omega
      · by_cases e2:p=q-1
        · subst e2;exact hs
        · exact w.le_trans (hI p (q-1) p1 (by omega) (by omega) (by omega)) hs
    · exact hI p q p1 p2 (by omega) e1
  unfold kJ
  by_cases hj:j ≥ 1
  · cases hc:lt (gz d l j) (gz d l (j-1)) with
    | false =>
      right
      refine ⟨l, ?_,hon,stop (.inr hc)⟩
      simp (disch:=first | omega | (refine hf.all _ ?_ ?_ <;> omega)) only [hj,decide_true,if_true,aT,iO d,Option.bind_some,hbr,hc,Bool.not_false]
    | true =>
      have hja:a<j:=by
        rcases Int.lt_or_le a j with q | q
        · exact q
        · exfalso
          obtain rfl:j=a:=by omega
          have e:gz d l (j-1)=gz d l0 (j-1):=hon.out d (by omega) (.inl (by omega))
          have:=hon.all d (fun x=>lt x (gz d l0 (j-1))=false) (fun k k1 k2=>hpre (by omega) k k1 (by omega)) j (Int.le_refl _) hi
          rw [e,this] at hc;cases hc
      left
      refine ⟨(j-1,sw d l j (j-1)), ?_,⟨by simp only;omega,by simp only;omega,.step hon j (j-1) (by omega) (by omega) (by omega) (by omega) ha (by omega), ?_⟩,by simp only;omega⟩
      · simp (disch:=first | omega | (simp only [List.length_set];omega) | (refine hf.all _ ?_ ?_ <;> omega)) only [hj,decide_true,if_true,aT,iO d,Option.bind_some,hbr,hc,Bool.not_true,Bool.false_eq_true,if_false]
        rfl
      · simp only
        intro p q p1 p2 p3 p4
        rw [qF d (by omega) (by omega) (by omega) (by omega) (by omega),qF d (by omega) (by omega) (by omega) (by omega) (by omega)]
        rw [if_neg p4]
        by_cases e1:q=j
        · rw [if_pos e1]
          by_cases e2:p=j-1
          · rw [if_pos e2];exact w.asymm _ _ hc
          · rw [if_neg e2,if_neg (by omega)]
            exact hI p (j-1) (by omega) (by omega) (by omega) (by omega)
        · rw [if_neg e1]
          by_cases e2:p=j-1
          · rw [if_pos e2];exact hI j q (by omega) (by omega) p3 e1
          · rw [if_neg e2]
            by_cases e3:p=j
            · rw [if_pos e3];exact hI (j-1) q (by omega) (by omega) p3 e1
            · rw [if_neg e3];exact hI p q p1 p2 p3 e1
  · right
    refine ⟨l,by simp only [hj,decide_false,Bool.false_eq_true,if_false],hon,stop (.inl (by omega))⟩
theorem KO {a b:Int} {l0:List α} (ha:0≤a) (hab:a<b) (hb:b≤l0.length) (hf0:Fine P d l0) (hpre:0<a→∀ k,a≤k→k<b→lt (gz d l0 k) (gz d l0 (a-1))=false) :
    ∃ r l',sN br a b l0=some (r,l')∧On d a b l0 l'∧(r=true→Asc d lt a b l'):=by
  have hL:=hf0.len
  have s1:aH b a=b-a:=aT (by omega) (by omega)
  have s2:aF a 1=a+1:=aL (by omega) (by omega)
  obtain ⟨r,r1,r2⟩:=lX (fun s:Int×Int×List α=>(5-s.2.1).toNat) (fun s:Int×Int×List α=>a+1≤s.1∧s.1≤b∧0≤s.2.1∧On d a b l0 s.2.2∧Asc d lt a s.1 s.2.2)
    (fun r:Bool×List α ⊕ List α=>match r with | .inl x=>On d a b l0 x.2∧(x.1=true→Asc d lt a b x.2) | .inr l=>On d a b l0 l) (oC br a b) (by
    rintro ⟨i,c,l⟩ ⟨i1,i2,i3,hon,hA⟩
    simp only at i1 i2 i3 hon hA ⊢
    have hf:=hf0.on hon
    have hl:=hon.len
    unfold oC
    by_cases hc5:c<5
    case neg =>
      right
      exact ⟨.inr l,by simp only [hc5,decide_false,Bool.false_eq_true,if_false],hon⟩
    obtain ⟨x,x1,x2,x3,x4,x5⟩:=Xh (body:=kH br b (i,c,l)) (fun k=>!lt (gz d l k) (gz d l (k-1))) (i:=i) (j:=b-1) (by omega) (fun s q1 q2=>by
      unfold kH
      simp (disch:=first | omega | (refine hf.all _ ?_ ?_ <;> omega)) only [show s<b from by omega,decide_true,if_true,iO d,Option.bind_some,hbr,aL,aT]) (by
      unfold kH
      simp only [show ¬ b-1+1<b from by omega,decide_false,Bool.false_eq_true,if_false,Option.bind_some])
    have hAx:Asc d lt a x l:=by
      have:∀ n:Nat,∀ y,y≤x→y≤i+n→Asc d lt a y l:=by
        intro n
        induction n with
        | zero=>intro y _ y2 p q p1 p2 p3;exact hA p q p1 p2 (by omega)
        | succ n ih =>
          intro y y1 y2
          by_cases e:y≤i+n
          · exact ih y y1 e
          · have h0:=ih (y-1) (by omega) (by omega)
            have h1:=x4 (y-1) (by omega) (by omega)
            simp only [Bool.not_eq_eq_eq_not,Bool.not_true] at h1
            intro p q p1 p2 p3
            by_cases e1:q=y-1
            · subst e1
              by_cases e2:p=y-1-1
              · subst e2;exact h1
              · exact w.le_trans (h0 p (y-1-1) p1 (by omega) (by omega)) h1
            · exact h0 p q p1 p2 (by omega)
      exact this (x-i).toNat x (Int.le_refl _) (by omega)
    simp only [hc5,decide_true,if_true,x1,Option.bind_some]
    by_cases hxb:x=b
    · right
      refine ⟨.inl (true,l),by simp only [hxb,beq_self_eq_true,if_true],hon,fun _=>?_⟩
      simp only;rw [← hxb];exact hAx
    have hbx:(x==b)=false:=by simp [hxb]
    simp only [hbx,Bool.false_eq_true,if_false,s1]
    by_cases h50:b-a<50
    · right
      exact ⟨.inl (false,l),by simp only [h50,decide_true,if_true],hon,fun q=>by cases q⟩
    left
    have e1:aH x 1=x-1:=aT (by omega) (by omega)
    have e2:aH x a=x-a:=aT (by omega) (by omega)
    have e3:aH b x=b-x:=aT (by omega) (by omega)
    have e4:aF x 1=x+1:=aL (by omega) (by omega)
    have e5:aF c 1=c+1:=aL (by omega) (by omega)
    obtain ⟨l1,hl1⟩:∃ l1,sw d l x (x-1)=l1:=⟨_,rfl⟩
    have e6:List.set (List.set l (Int.toNat x) (gz d l (x-1))) (Int.toNat (x-1)) (gz d l x)=l1:=hl1
    have hon1:On d a b l0 l1:=hl1 ▸ .step hon x (x-1) (by omega) (by omega) (by omega) (by omega) ha (by omega)
    have hl1':=hon1.len
    have hf1:=hf0.on hon1
    have hpre1:0<a→∀ k,a≤k→k<b→lt (gz d l1 k) (gz d l1 (a-1))=false:=fun h k k1 k2=>by
      rw [hon1.out d (k:=a-1) (by omega) (.inl (by omega))]
      exact hon1.all d (fun y=>lt y (gz d l0 (a-1))=false) (fun k k1 k2=>hpre h k k1 k2) k k1 k2
    have hA1:Asc d lt a (x-1) l1:=fun p q p1 p2 p3=>by
      rw [← hl1,qF d (by omega) (by omega) (by omega) (by omega) (by omega),qF d (by omega) (by omega) (by omega) (by omega) (by omega),if_neg (by omega),if_neg (by omega),if_neg (by omega),if_neg (by omega)]
      exact hAx p q p1 p2 (by omega)
    -- behind the shift to the left
    have right_:∀ l2,On d a b l0 l2→Asc d lt a x l2→∃ l3,kG br b (i,c,l) x l2=some (.inl (x,c+1,l3))∧On d a b l0 l3∧Asc d lt a x l3:=fun l2 o2 a2=>by
      have hl2:=o2.len
      unfold kG nZ
      by_cases q:b-x ≥ 2
      · obtain ⟨l3,t1,t2⟩:=QO hbr (i:=x) (b:=b) (l0:=l2) (by omega) (by omega) (by omega) (hf0.on o2)
        refine ⟨l3, ?_,o2.trans d (t2.mono d ha (by omega) (Int.le_refl _) (by omega)),fun p q p1 p2 p3=>?_⟩
        · simp only [e3,q,decide_true,if_true,e4,t1,Option.bind_some,e5]
        · rw [t2.out d (by omega) (.inl (by omega)),t2.out d (by omega) (.inl (by omega))]
          exact a2 p q p1 p2 p3
      · exact ⟨l2,by simp only [e3,q,decide_false,Bool.false_eq_true,if_false,e5],o2,a2⟩
    simp (disch:=first | omega | (simp only [List.length_set];omega)) only [h50,decide_false,Bool.false_eq_true,if_false,e1,e2,iO d,Option.bind_some,e6]
    by_cases h2:x-a ≥ 2
    · obtain ⟨l2,t1,t2,t3⟩:=QN hbr w (a:=a) (b:=b) (i:=x) ha (by omega) (by omega) (by omega) hf1 hpre1 hA1
      obtain ⟨l3,u1,u2,u3⟩:=right_ l2 (hon1.trans d (t2.mono d ha (Int.le_refl _) (by omega) (by omega))) t3
      refine ⟨(x,c+1,l3), ?_,⟨by simp only;omega,by simp only;omega,by simp only;omega,u2,u3⟩,by simp only;omega⟩
      simp only [h2,decide_true,if_true,t1,Option.bind_some,u1]
    · obtain ⟨l3,u1,u2,u3⟩:=right_ l1 hon1 (fun p q p1 p2 p3=>by omega)
      refine ⟨(x,c+1,l3), ?_,⟨by simp only;omega,by simp only;omega,by simp only;omega,u2,u3⟩,by simp only;omega⟩
      simp only [h2,decide_false,Bool.false_eq_true,if_false,u1]) (a+1,0,l0) ⟨by simp only;omega,by simp only;omega,by simp only;omega,.refl _,fun p q p1 p2 p3=>by simp only at p3;omega⟩
  unfold sN
  rw [s2,r1,Option.bind_some]
  cases r with
  | inl x=>exact ⟨x.1,x.2,rfl,r2.1,r2.2⟩
  | inr l=>exact ⟨false,l,rfl,r2,fun q=>by cases q⟩
end
end Go.SM
namespace Go.SM
open Go Go.VI
def Out {α:Type} (d:α) (lt:α→α→Bool) (a0 b0 a b:Int) (l:List α):Prop:=∀ p q:Int,a0≤p→p<q→q<b0→(p<a∨b≤q)→lt (gz d l q) (gz d l p)=false
def Pre {α:Type} (d:α) (lt:α→α→Bool) (a b:Int) (l:List α):Prop:=0<a→∀ k,a≤k→k<b→lt (gz d l k) (gz d l (a-1))=false
section
variable {α:Type} {br:Br α} {lt:α→α→Bool} {P:α→Prop} {d:α} (hbr:∀ (β:Type) (x y:α) (k:Bool→Option β),P x→P y→br β x y k=k (lt x y)) (w:Vu lt)
theorem Zi {a0 b0 a b:Int} {l l':List α} (h:Out d lt a0 b0 a b l) (ho:On d a b l l') (h0:0≤a0) (h1:a0≤a) (h2:b≤b0):Out d lt a0 b0 a b l':=by
  intro p q p1 p2 p3 p4
  by_cases hp:a≤p∧p<b
  · rw [ho.out d (k:=q) (by omega) (.inr (by omega))]
    exact ho.all d (fun x=>lt (gz d l q) x=false) (fun k k1 k2=>h k q (by omega) (by omega) p3 (.inr (by omega))) p hp.1 hp.2
  · rw [ho.out d (k:=p) (by omega) (by omega)]
    by_cases hq:a≤q∧q<b
    · exact ho.all d (fun x=>lt x (gz d l p)=false) (fun k k1 k2=>h p k p1 (by omega) (by omega) (.inl (by omega))) q hq.1 hq.2
    · rw [ho.out d (k:=q) (by omega) (by omega)]
      exact h p q p1 p2 p3 p4
theorem WJ {a0 b0 a b:Int} {l:List α} (h:Out d lt a0 b0 a b l) (ha:Asc d lt a b l):Asc d lt a0 b0 l:=by
  intro p q p1 p2 p3
  by_cases e:p<a∨b≤q
  · exact h p q p1 p2 p3 e
  · exact ha p q (by omega) p2 (by omega)
theorem KP {a0 b0 a b:Int} {l0 l:List α} (hp:Pre d lt a0 b0 l0) (h0:0≤a0) (h1:a0≤a) (h2:b≤b0) (ho:On d a0 b0 l0 l) (h:Out d lt a0 b0 a b l):Pre d lt a b l:=by
  intro hpos k k1 k2
  by_cases e:a=a0
  · subst e
    rw [ho.out d (k:=a-1) (by omega) (.inl (by omega))]
    exact ho.all d (fun x=>lt x (gz d l0 (a-1))=false) (fun k k1 k2=>hp hpos k k1 k2) k k1 (by omega)
  · exact h (a-1) k (by omega) (by omega) (by omega) (.inl (by omega))
theorem pre_on {a b:Int} {l l':List α} (hp:Pre d lt a b l) (h0:0≤a) (ho:On d a b l l'):Pre d lt a b l':=KP (a0:=a) (b0:=b) hp h0 (Int.le_refl _) (Int.le_refl _) ho fun p q p1 p2 p3 p4=>absurd p4 (by omega)
include hbr w
theorem HV {self:Int→Int→Int→List α→Option (List α)} {N:Int}
    (hself:∀ (a b limit:Int) (l:List α),0≤a→a≤b→b≤l.length→Fine P d l→Pre d lt a b l→b-a<N→∃ l',self a b limit l=some l'∧On d a b l l'∧Asc d lt a b l')
    {a0 b0 limit:Int} {l0:List α} (h0:0≤a0) (hab:a0≤b0) (hb:b0≤l0.length) (hf0:Fine P d l0) (hpre:Pre d lt a0 b0 l0) (hN:b0-a0≤12∨b0-a0<2*N) :
    ∃ l',aD (Ao br self) (a0,b0,limit,true,true,l0)=some l'∧On d a0 b0 l0 l'∧Asc d lt a0 b0 l':=by
  have hL:=hf0.len
  refine lX (fun s:Int×Int×Int×Bool×Bool×List α=>(s.2.1-s.1).toNat) (fun s:Int×Int×Int×Bool×Bool×List α=>a0≤s.1∧s.1≤s.2.1∧s.2.1≤b0∧On d a0 b0 l0 s.2.2.2.2.2∧Out d lt a0 b0 s.1 s.2.1 s.2.2.2.2.2)
    (fun l'=>On d a0 b0 l0 l'∧Asc d lt a0 b0 l') (Ao br self) ?_ (a0,b0,limit,true,true,l0) ⟨Int.le_refl _,hab,Int.le_refl _,.refl _,fun p q p1 p2 p3 p4=>absurd p4 (by simp only;omega)⟩
  rintro ⟨a,b,lim,wb,wp,l⟩ ⟨i1,i2,i3,hon,hout⟩
  simp only at i1 i2 i3 hon hout ⊢
  have hf:=hf0.on hon
  have hl:=hon.len
  have s1:aH b a=b-a:=aT (by omega) (by omega)
  -- what ends it
  have fin:∀ l',On d a b l l'→Asc d lt a b l'→On d a0 b0 l0 l'∧Asc d lt a0 b0 l':=fun l' o as =>
    ⟨hon.trans d (o.mono d h0 i1 i3 (by omega)),WJ (Zi hout o h0 i1 i3) as⟩
  unfold Ao
  simp only [s1]
  by_cases h12:b-a≤12
  · right
    obtain ⟨l',t1,t2,t3⟩:=Ub hbr w (a:=a) (b:=b) (l0:=l) (by omega) i2 (by omega) hf
    exact ⟨l',by simp only [h12,decide_true,if_true,t1,Option.bind_some],fin l' t2 t3⟩
  simp only [h12,decide_false,Bool.false_eq_true,if_false]
  by_cases hz:lim=0
  · right
    obtain ⟨l',t1,t2,t3⟩:=GJ hbr w (a:=a) (b:=b) (l0:=l) (by omega) i2 (by omega) hf
    exact ⟨l',by simp only [hz,beq_self_eq_true,if_true,t1,Option.bind_some],fin l' t2 t3⟩
  have hz':(lim==0)=false:=by simp [hz]
  simp only [hz',Bool.false_eq_true,if_false]
  have hN':b-a<2*N:=by omega
  -- the partition
  have k1 : ∀ (j127:Int×List α) (pivot hint:Int) (lx:List α) (wb' wp':Bool) (l1:List α),On d a b l l1→a≤pivot→pivot<b →
      (∃ s',wP br self (a,b,lim,wb,wp,l) j127 (pivot,hint,lx) (wb',wp',l1)=some (.inl s')∧(a0≤s'.1∧s'.1≤s'.2.1∧s'.2.1≤b0∧On d a0 b0 l0 s'.2.2.2.2.2∧Out d lt a0 b0 s'.1 s'.2.1 s'.2.2.2.2.2)∧(s'.2.1-s'.1).toNat<(b-a).toNat) ∨
      (∃ r,wP br self (a,b,lim,wb,wp,l) j127 (pivot,hint,lx) (wb',wp',l1)=some (.inr r)∧On d a0 b0 l0 r∧Asc d lt a0 b0 r):=by
    intro j127 pivot hint lx wb' wp' l1 o1 v1 v2
    left
    have hl1:=o1.len
    have hf1:=hf.on o1
    have hon1:On d a0 b0 l0 l1:=hon.trans d (o1.mono d h0 i1 i3 (by omega))
    have hout1:=Zi hout o1 h0 i1 i3
    have hpre1:Pre d lt a b l1:=KP hpre h0 i1 i3 hon1 hout1
    have part:∃ s',((Cb br a b pivot l1).bind fun r162=>if (decide ((aH r162.1 a)<(aH b r162.1))) then ((self a r162.1 j127.1 r162.2.2).bind fun r164=>some (.inl ((aF r162.1 1),b,j127.1,(decide ((aH r162.1 a) ≥ (wN (aH b a) 8))),r162.2.1,r164))) else ((self (aF r162.1 1) b j127.1 r162.2.2).bind fun r166=>some (Sum.inl (β:=List α) (a,r162.1,j127.1,(decide ((aH b r162.1) ≥ (wN (aH b a) 8))),r162.2.1,r166))))=some (.inl s') ∧
        (a0≤s'.1∧s'.1≤s'.2.1∧s'.2.1≤b0∧On d a0 b0 l0 s'.2.2.2.2.2∧Out d lt a0 b0 s'.1 s'.2.1 s'.2.2.2.2.2)∧(s'.2.1-s'.1).toNat<(b-a).toNat:=by
      obtain ⟨mid,al,l2,t1,t2,t3,t4,t5,t6⟩:=EI hbr (a:=a) (b:=b) (pivot:=pivot) (l0:=l1) (by omega) (by omega) (by omega) hf1 v1 v2
      have hl2:=t2.len
      have hf2:=hf1.on t2
      have hon2:On d a0 b0 l0 l2:=hon1.trans d (t2.mono d h0 i1 i3 (by omega))
      have hout2:=Zi hout1 t2 h0 i1 i3
      have hpre2:Pre d lt a b l2:=pre_on hpre1 (by omega) t2
      -- all pairs that are not both on one side
      have ord:∀ p q:Int,a0≤p→p<q→q<b0→(p<a∨b≤q∨(p≤mid∧mid≤q))→lt (gz d l2 q) (gz d l2 p)=false:=fun p q p1 p2 p3 p4=>by
        by_cases e:p<a∨b≤q
        · exact hout2 p q p1 p2 p3 e
        · by_cases ep:p=mid
          · subst ep;exact t6 q (by omega) (by omega)
          · have hp:=w.asymm _ _ (t5 p (by omega) (by omega))
            by_cases eq:q=mid
            · subst eq;exact hp
            · exact w.le_trans hp (t6 q (by omega) (by omega))
      have e1:aH mid a=mid-a:=aT (by omega) (by omega)
      have e2:aH b mid=b-mid:=aT (by omega) (by omega)
      have e3:aF mid 1=mid+1:=aL (by omega) (by omega)
      simp only [t1,Option.bind_some,e1,e2,e3]
      by_cases hlr:mid-a<b-mid
      · obtain ⟨l3,u1,u2,u3⟩:=hself a mid j127.1 l2 (by omega) t3 (by omega) hf2 (fun hpos k k1 k2=>hpre2 hpos k k1 (by omega)) (by omega)
        simp only [hlr,decide_true,if_true,u1,Option.bind_some]
        refine ⟨_,rfl,⟨by simp only;omega,by simp only;omega,i3,hon2.trans d (u2.mono d h0 i1 (by omega) (by omega)), ?_⟩,by simp only;omega⟩
        intro p q p1 p2 p3 p4
        simp only at p4 ⊢
        by_cases hp:a≤p∧p<mid
        · by_cases hq:q<mid
          · exact u3 p q hp.1 p2 hq
          · rw [u2.out d (k:=q) (by omega) (.inr (by omega))]
            exact u2.all d (fun x=>lt (gz d l2 q) x=false) (fun k k1 k2=>ord k q (by omega) (by omega) p3 (by omega)) p hp.1 hp.2
        · rw [u2.out d (k:=p) (by omega) (by omega)]
          by_cases hq:a≤q∧q<mid
          · exact u2.all d (fun x=>lt x (gz d l2 p)=false) (fun k k1 k2=>ord p k p1 (by omega) (by omega) (by omega)) q hq.1 hq.2
          · rw [u2.out d (k:=q) (by omega) (by omega)]
            exact ord p q p1 p2 p3 (by omega)
      · obtain ⟨l3,u1,u2,u3⟩:=hself (mid+1) b j127.1 l2 (by omega) (by omega) (by omega) hf2 (fun hpos k k1 k2=>by
          rw [show mid+1-1=mid from by omega]
          exact t6 k (by omega) k2) (by omega)
        simp only [hlr,decide_false,Bool.false_eq_true,if_false,u1,Option.bind_some]
        refine ⟨_,rfl,⟨i1,t3,by simp only;omega,hon2.trans d (u2.mono d h0 (by omega) i3 (by omega)), ?_⟩,by simp only;omega⟩
        intro p q p1 p2 p3 p4
        simp only at p4 ⊢
        by_cases hp:mid+1≤p∧p<b
        · by_cases hq:q<b
          · exact u3 p q hp.1 p2 hq
          · rw [u2.out d (k:=q) (by omega) (.inr (by omega))]
            exact u2.all d (fun x=>lt (gz d l2 q) x=false) (fun k k1 k2=>ord k q (by omega) (by omega) p3 (by omega)) p hp.1 hp.2
        · rw [u2.out d (k:=p) (by omega) (by omega)]
          by_cases hq:mid+1≤q∧q<b
          · exact u2.all d (fun x=>lt x (gz d l2 p)=false) (fun k k1 k2=>ord p k p1 (by omega) (by omega) (by omega)) q hq.1 hq.2
          · rw [u2.out d (k:=q) (by omega) (by omega)]
            exact ord p q p1 p2 p3 (by omega)
    unfold wP
    by_cases hpos:a>0
    · cases hc:lt (gz d l1 (a-1)) (gz d l1 pivot) with
      | true =>
        simp (disch:=first | omega | (refine hf1.all _ ?_ ?_ <;> omega)) only [hpos,decide_true,if_true,aT,iO d,Option.bind_some,hbr,hc,Bool.not_true,Bool.false_eq_true,if_false]
        simpa only [s1] using part
      | false =>
        obtain ⟨mid,l2,t1,t2,t3,t4,t5⟩:=Sj hbr (a:=a) (b:=b) (pivot:=pivot) (l0:=l1) (by omega) (by omega) (by omega) hf1 v1 v2 w.irrefl
        refine ⟨(mid,b,j127.1,wb',wp',l2), ?_,⟨by simp only;omega,t4,i3,hon1.trans d (t2.mono d h0 i1 i3 (by omega)), ?_⟩,by simp only;omega⟩
        · simp (disch:=first | omega | (refine hf1.all _ ?_ ?_ <;> omega)) only [hpos,decide_true,if_true,aT,iO d,Option.bind_some,hbr,hc,Bool.not_false,t1]
        · have hout2:=Zi hout1 t2 h0 i1 i3
          have hpre2:Pre d lt a b l2:=pre_on hpre1 (by omega) t2
          have hl2:=t2.len
          intro p q p1 p2 p3 p4
          simp only at p4 ⊢
          by_cases e:p<a∨b≤q
          · exact hout2 p q p1 p2 p3 e
          · have hp:=t5 p (by omega) (by omega)
            have hq:=hpre2 hpos q (by omega) (by omega)
            rw [t2.out d (k:=a-1) (by omega) (.inl (by omega))] at hq
            cases hlt:lt (gz d l2 q) (gz d l2 p) with
            | false=>rfl
            | true =>
              rcases w.neg _ (gz d l1 pivot) _ hlt with r | r
              · rcases w.neg _ (gz d l1 (a-1)) _ r with r | r
                · rw [hq] at r;cases r
                · rw [hc] at r;cases r
              · rw [hp] at r;cases r
    · simp only [hpos,decide_false,Bool.false_eq_true,if_false,Option.bind_some]
      simpa only [s1] using part
  have k2:∀ (j127:Int×List α) (pivot hint:Int) (l1:List α),On d a b l l1→a≤pivot→pivot<b →
      (∃ s',wQ br self (a,b,lim,wb,wp,l) j127 (pivot,hint,l1)=some (.inl s')∧(a0≤s'.1∧s'.1≤s'.2.1∧s'.2.1≤b0∧On d a0 b0 l0 s'.2.2.2.2.2∧Out d lt a0 b0 s'.1 s'.2.1 s'.2.2.2.2.2)∧(s'.2.1-s'.1).toNat<(b-a).toNat) ∨
      (∃ r,wQ br self (a,b,lim,wb,wp,l) j127 (pivot,hint,l1)=some (.inr r)∧On d a0 b0 l0 r∧Asc d lt a0 b0 r):=by
    intro j127 pivot hint l1 o1 v1 v2
    unfold wQ
    obtain ⟨c,hc⟩:∃ c:Bool×Bool×Bool,(if wb then (if wp then (some (true,true,(hint==1))) else (some (true,false,false))) else (some (false,wp,false)))=some c:=by
      cases wb <;> cases wp <;> exact ⟨_,rfl⟩
    simp only [hc,Option.bind_some]
    cases hc2:c.2.2 with
    | false =>
      simp only [Bool.false_eq_true,if_false]
      exact k1 _ _ _ _ _ _ _ o1 v1 v2
    | true =>
      have hl1:=o1.len
      have hon1:On d a0 b0 l0 l1:=hon.trans d (o1.mono d h0 i1 i3 (by omega))
      have hpre1:Pre d lt a b l1:=KP hpre h0 i1 i3 hon1 (Zi hout o1 h0 i1 i3)
      obtain ⟨r,l2,t1,t2,t3⟩:=KO hbr w (a:=a) (b:=b) (l0:=l1) (by omega) (by omega) (by omega) (hf.on o1) hpre1
      simp only [if_true,t1,Option.bind_some]
      cases hr:r with
      | true =>
        right
        simp only [if_true]
        exact ⟨l2,rfl,fin l2 (o1.trans d t2) (t3 hr)⟩
      | false =>
        simp only [Bool.false_eq_true,if_false]
        exact k1 _ _ _ _ _ _ _ (o1.trans d t2) v1 v2
  have k3:∀ (lim':Int) (l1:List α),On d a b l l1 →
      (∃ s',wR br self (a,b,lim,wb,wp,l) (lim',l1)=some (.inl s')∧(a0≤s'.1∧s'.1≤s'.2.1∧s'.2.1≤b0∧On d a0 b0 l0 s'.2.2.2.2.2∧Out d lt a0 b0 s'.1 s'.2.1 s'.2.2.2.2.2)∧(s'.2.1-s'.1).toNat<(b-a).toNat) ∨
      (∃ r,wR br self (a,b,lim,wb,wp,l) (lim',l1)=some (.inr r)∧On d a0 b0 l0 r∧Asc d lt a0 b0 r):=by
    intro lim' l1 o1
    have hl1:=o1.len
    unfold wR
    obtain ⟨pv,h,t1,t2,t3⟩:=OG hbr (l:=l1) (hf.on o1) (a:=a) (b:=b) (by omega) (by omega) (by omega)
    simp only [t1,Option.bind_some]
    by_cases h2:h=2
    · obtain ⟨l2,u1,u2⟩:=KU (br:=br) (d:=d) (a:=a) (b:=b) (l0:=l1) (by omega) (by omega) (by omega) i2
      have e1:aH b 1=b-1:=aT (by omega) (by omega)
      have e2:aH pv a=pv-a:=aT (by omega) (by omega)
      have e3:aH (b-1) (pv-a)=b-1-(pv-a):=aT (by omega) (by omega)
      simp only [h2,beq_self_eq_true,if_true,u1,Option.bind_some,e1,e2,e3]
      exact k2 _ _ _ _ (o1.trans d u2) (by omega) (by omega)
    · have:(h==2)=false:=by simp [h2]
      simp only [this,Bool.false_eq_true,if_false]
      exact k2 _ _ _ _ o1 t2 t3
  cases hwb:wb with
  | false =>
    obtain ⟨l1,t1,t2⟩:=RN (br:=br) (d:=d) (a:=a) (b:=b) (l0:=l) (by omega) (by omega) (by omega) i2
    simp only [Bool.not_false,if_true,t1,Option.bind_some]
    have:=k3 (aH lim 1) l1 t2
    rw [hwb] at this
    exact this
  | true =>
    simp only [Bool.not_true,Bool.false_eq_true,if_false]
    have:=k3 lim l (.refl _)
    rw [hwb] at this
    exact this
theorem UX:∀ (n:Nat) (a b limit:Int) (l:List α),0≤a→a≤b→b≤l.length→Fine P d l→Pre d lt a b l→b-a<2^n→∃ l',qE br (n+1) a b limit l=some l'∧On d a b l l'∧Asc d lt a b l'
  | 0,a,b,limit,l,h0,hab,hb,hf,hp,hn=>by
    obtain ⟨l',t1,t2,t3⟩:=HV hbr w (self:=qE br 0) (N:=0) (fun a b limit l h1 h2 _ _ _ h3=>by omega) (limit:=limit) h0 hab hb hf hp (.inl (by omega))
    refine ⟨l', ?_,t2,t3⟩
    show uE br (qE br 0) a b limit l=some l'
    unfold uE
    rw [t1];rfl
  | n+1,a,b,limit,l,h0,hab,hb,hf,hp,hn=>by
    obtain ⟨l',t1,t2,t3⟩:=HV hbr w (self:=qE br (n+1)) (N:=2^n) (fun a b limit l h1 h2 h3 h4 h5 h6=>UX n a b limit l h1 h2 h3 h4 h5 h6) (limit:=limit) h0 hab hb hf hp (.inr (by rw [Int.pow_succ] at hn;omega))
    refine ⟨l', ?_,t2,t3⟩
    show uE br (qE br (n+1)) a b limit l=some l'
    unfold uE
    rw [t1];rfl
theorem XY (m:Nat) (hm:31≤m) {l:List α} (hf:Fine P d l) (v:Int):∃ l',qE br (m+1) 0 (l.length:Int) v l=some l'∧On d 0 (l.length:Int) l l'∧Asc d lt 0 (l.length:Int) l':=by
  have hL:=hf.len
  refine UX hbr w m 0 (l.length:Int) v l (Int.le_refl _) (by omega) (Int.le_refl _) hf (fun h=>absurd h (by omega)) ?_
  have h1:(2147483648:Nat)≤2^m:=Nat.le_trans (by decide:2147483648≤2^31) (Nat.pow_le_pow_right (by omega) hm)
  have h3:((2:Int)^m)=((2^m:Nat):Int):=by simp
  rw [h3]
  omega
theorem IW {l:List α} (hf:Fine P d l):∃ l',Le br l=some l'∧l'.Perm l∧l'.Pairwise fun x y=>lt y x=false:=by
  have hL:=hf.len
  obtain ⟨v,v1,_⟩:=UF (x:=(l.length:Int)) (by omega) hL
  obtain ⟨l',t1,t2,t3⟩:=XY hbr w 999 (by omega) hf v
  refine ⟨l', ?_,t2.perm, ?_⟩
  · unfold Le Yo
    rw [v1,Option.bind_some,t1];rfl
  · have hl:=t2.len
    rw [List.pairwise_iff_getElem]
    intro i j hi hj hij
    have:=t3 (i:Int) (j:Int) (by omega) (by omega) (by omega)
    unfold gz at this
    rw [List.getD_eq_getElem?_getD,List.getD_eq_getElem?_getD,Int.toNat_natCast,Int.toNat_natCast,List.getElem?_eq_getElem hi,List.getElem?_eq_getElem hj] at this
    exact this
end
end Go.SM
namespace Go.SM
open Go Go.VI
noncomputable def Ak {α:Type} (s1642:Int×Int×(List α)):Int×(List α)→Option (Int×Int×(List α) ⊕ Int×(List α)):=fun j1674 =>
  some (.inl (j1674.1,(aF s1642.2.1 1),j1674.2))
noncomputable def Am {α:Type} (eqb:α→α→Bool) (h0:(List α)) (s1127:Int):Int×Int×(List α)→Option (Int×Int×(List α) ⊕ Int×(List α)):=fun s1642 =>
  if (decide (s1642.2.1<((Int.toNat (h0.length:Int)-Int.toNat s1127:Nat):Int))) then ((idx (List.take (Int.toNat (h0.length:Int)-Int.toNat s1127) (List.drop (Int.toNat s1127) s1642.2.2)) s1642.2.1).bind fun x1679=>(idx (List.take (Int.toNat (h0.length:Int)-Int.toNat s1127) (List.drop (Int.toNat s1127) s1642.2.2)) (aH s1642.2.1 1)).bind fun x1680=>if (!(eqb x1679 x1680)) then ((idx (List.take (Int.toNat (h0.length:Int)-Int.toNat s1127) (List.drop (Int.toNat s1127) s1642.2.2)) s1642.2.1).bind fun x1683=>(idx s1642.2.2 s1642.1).bind fun x1684=>Ak s1642 ((aF s1642.1 1),(List.set s1642.2.2 (Int.toNat s1642.1) x1683))) else (Ak s1642 (s1642.1,s1642.2.2))) else (some (.inr (s1642.1,s1642.2.2)))
noncomputable def Gu {α:Type} (eqb:α→α→Bool) (z:α) (h0:(List α)):Int→Option (Int ⊕ ((List α) ⊕ Unit)):=fun s1127 =>
  if (decide (s1127<(h0.length:Int))) then ((idx h0 s1127).bind fun x1552=>(idx h0 (aH s1127 1)).bind fun x1553=>if (eqb x1552 x1553) then (if (decide ((0:Int)≤s1127)&&(decide (s1127≤(h0.length:Int))&&decide ((h0.length:Int)≤(h0.length:Int)))) then ((aD (Am eqb h0 s1127) (s1127,1,h0)).bind fun x1685=>if (decide ((0:Int)≤x1685.1)&&(decide (x1685.1≤(x1685.2.length:Int))&&decide ((x1685.2.length:Int)≤(x1685.2.length:Int)))) then ((slc (cpy x1685.2 (Int.toNat x1685.1) (List.replicate (Int.toNat (x1685.2.length:Int)-Int.toNat x1685.1) z)) 0 x1685.1).bind fun l1687=>some (.inr (.inl l1687))) else none) else none) else (some (.inl (aF s1127 1)))) else (some (.inr (.inr (()))))
noncomputable def Qb {α:Type} (eqb:α→α→Bool) (z:α) (h0:(List α)):Option ((List α)):=
  if (decide ((h0.length:Int)<2)) then (some h0) else ((aD (Gu eqb z h0) 1).bind fun x1688=>match x1688 with | .inl j1689=>some j1689 | .inr j1690=>some h0)
section
variable {α:Type} {lt:α→α→Bool} (w:Vu lt) (tri:∀ x y,lt x y=false→lt y x=false→x=y) {eqb:α→α→Bool} (heq:∀ x y,eqb x y=true↔x=y) (z:α)
include w tri
theorem Vp {r:List α} {y x:α} (hr:(r++[y]).Pairwise fun a b=>lt a b=true) (hy:lt x y=false) (hne:x≠y):(r++[y]++[x]).Pairwise fun a b=>lt a b=true:=by
  have hyx:lt y x=true:=by
    cases h:lt y x with
    | true=>rfl
    | false=>exact absurd (tri x y hy h) hne
  rw [List.pairwise_append]
  refine ⟨hr,by simp,fun a ha b hb=>?_⟩
  simp at hb
  subst hb
  rw [List.pairwise_append] at hr
  rcases List.mem_append.1 ha with m | m
  · have h1:=hr.2.2 a m y (by simp)
    rcases w.neg y a b hyx with q | q
    · rw [w.asymm _ _ h1] at q;cases q
    · exact q
  · simp at m;subst m;exact hyx
include heq
theorem JJ {l:List α} (hl:(l.length:Int)≤1073741824) (hs:l.Pairwise fun x y=>lt y x=false) :
    ∃ r,Qb eqb z l=some r∧(r.Pairwise fun x y=>lt x y=true)∧∀ x,x ∈ r↔x ∈ l:=by
  unfold Qb
  by_cases h2:(l.length:Int)<2
  · refine ⟨l,by simp only [h2,decide_true,if_true], ?_,fun x=>Iff.rfl⟩
    have hlen:l.length<2:=by omega
    clear hl hs h2
    rcases l with _ | ⟨x,_ | ⟨y,t⟩⟩
    · exact .nil
    · simp
    · simp at hlen;omega
  simp only [h2,decide_false,Bool.false_eq_true,if_false]
  have adj:∀ (i j:Nat) (x y:α),i<j→l[i]?=some x→l[j]?=some y→lt y x=false:=fun i j x y hij hx hy=>by
    have h1:=(List.getElem?_eq_some_iff.1 hx)
    have h3:=(List.getElem?_eq_some_iff.1 hy)
    obtain ⟨a1,rfl⟩:=h1
    obtain ⟨b1,rfl⟩:=h3
    exact List.pairwise_iff_getElem.1 hs i j a1 b1 hij
  have get:∀ i:Nat,i<l.length→∃ x,l[i]?=some x:=fun i hi=>⟨l[i],List.getElem?_eq_getElem hi⟩
  have takes:∀ (i:Nat) (x:α),l[i]?=some x→l.take (i+1)=l.take i++[x]:=fun i x hx=>by rw [List.take_add_one,hx];rfl
  -- the second walk
  have inner:∀ (k:Nat) (y:α),1≤k→k<l.length→l[k]?=some y→l[k-1]?=some y→((l.take k).Pairwise fun x y=>lt x y=true) →
      ∃ (i:Nat) (l':List α),aD (Am eqb l (k:Int)) ((k:Int),1,l)=some ((i:Int),l')∧i≤l'.length∧l'.length=l.length∧((l'.take i).Pairwise fun x y=>lt x y=true)∧∀ x,x ∈ l'.take i↔x ∈ l:=by
    intro k y k1 kl hy hy1 hp
    obtain ⟨r,r1,i,r2,r3,r4,r5,r6⟩:=lX (fun s:Int×Int×List α=>((l.length:Int)-k-s.2.1).toNat)
      (fun s:Int×Int×List α=>∃ (i p:Nat) (y:α),s.1=i∧s.2.1=((p-k:Nat):Int)∧k+1≤p∧p≤l.length∧1≤i∧i≤p-1∧s.2.2.length=l.length∧s.2.2.drop i=l.drop i∧l[p-1]?=some y∧(∃ t,s.2.2.take i=t++[y])∧((s.2.2.take i).Pairwise fun x y=>lt x y=true)∧∀ x,x ∈ s.2.2.take i↔x ∈ l.take p)
      (fun r:Int×List α=>∃ i:Nat,r.1=i∧i≤r.2.length∧r.2.length=l.length∧((r.2.take i).Pairwise fun x y=>lt x y=true)∧∀ x,x ∈ r.2.take i↔x ∈ l) (Am eqb l (k:Int)) (by
        rintro ⟨i',k2,m⟩ ⟨i,p,y,hi',hk2,p1,p2,i0,i1,hml,hdrop,hy,⟨t,ht⟩,hpw,hmem⟩
        simp only at hi' hk2 hml hdrop ht hpw hmem ⊢
        subst hi' hk2
        unfold Am
        simp only [Int.toNat_natCast]
        by_cases hp:p<l.length
        · left
          obtain ⟨x,hx⟩:=get p hp
          have mg:∀ j,i≤j→m[j]?=l[j]?:=fun j hj=>by
            have:=congrArg (fun q=>q[j-i]?) hdrop
            simp only [List.getElem?_drop] at this
            rwa [show i+(j-i)=j from by omega] at this
          have hc:((p-k:Nat):Int)<((l.length-k:Nat):Int):=by omega
          have g1:idx (List.take (l.length-k) (List.drop k m)) ((p-k:Nat):Int)=some x:=by
            rw [DW,List.getElem?_take,if_pos (by omega),List.getElem?_drop,show k+(p-k)=p from by omega,mg p (by omega),hx]
          have e1:aH ((p-k:Nat):Int) 1=((p-1-k:Nat):Int):=by rw [aT (by omega) (by omega)];omega
          have g2:idx (List.take (l.length-k) (List.drop k m)) ((p-1-k:Nat):Int)=some y:=by
            rw [DW,List.getElem?_take,if_pos (by omega),List.getElem?_drop,show k+(p-1-k)=p-1 from by omega,mg (p-1) (by omega),hy]
          have e2:aF ((p-k:Nat):Int) 1=((p+1-k:Nat):Int):=by rw [aL (by omega) (by omega)];omega
          have e3:aF (i:Int) 1=((i+1:Nat):Int):=by rw [aL (by omega) (by omega)];omega
          have tk:=takes p x hx
          simp only [hc,decide_true,if_true,g1,Option.bind_some,e1,g2]
          cases hb:eqb x y with
          | true =>
            obtain rfl:=(heq x y).1 hb
            simp only [Bool.not_true,Bool.false_eq_true,if_false,Ak,e2]
            refine ⟨_,rfl,⟨i,p+1,x,rfl,rfl,by omega,by omega,i0,by omega,hml,hdrop,by rw [show p+1-1=p from by omega];exact hx,⟨t,ht⟩,hpw,fun v=>?_⟩,by simp only;omega⟩
            rw [hmem v,tk,List.mem_append,List.mem_singleton]
            constructor
            · exact .inl
            · rintro (q | rfl)
              · exact q
              · rw [← hmem v,ht];simp
          | false =>
            have hne:x≠y:=fun e=>by rw [(heq x y).2 e] at hb;cases hb
            have gi:idx m (i:Int)=some (m[i]'(by omega)):=by rw [DW];exact List.getElem?_eq_getElem _
            simp only [Bool.not_false,if_true,gi,Option.bind_some,Ak,e2,e3]
            have tset:(m.set i x).take (i+1)=m.take i++[x]:=by
              rw [List.take_add_one,List.take_set_of_le (Nat.le_refl i),List.getElem?_set,if_pos rfl,if_pos (by omega)];rfl
            refine ⟨_,rfl,⟨i+1,p+1,x,rfl,rfl,by omega,by omega,by omega,by omega,by simp only [List.length_set];exact hml, ?_,by rw [show p+1-1=p from by omega];exact hx,⟨m.take i,tset⟩, ?_,fun v=>?_⟩,by simp only;omega⟩
            · simp only
              rw [List.drop_set_of_lt (by omega),← List.drop_drop,hdrop,List.drop_drop]
            · simp only
              rw [tset,ht]
              rw [ht] at hpw
              exact Vp w tri hpw (adj (p-1) p y x (by omega) hy hx) hne
            · simp only
              rw [tset,tk,List.mem_append,List.mem_append,hmem v]
        · right
          have hc:¬ ((p-k:Nat):Int)<((l.length-k:Nat):Int):=by omega
          refine ⟨((i:Int),m),by simp only [hc,decide_false,Bool.false_eq_true,if_false],i,rfl,by simp only;omega,hml,hpw,fun v=>?_⟩
          rw [hmem v,List.take_of_length_le (by omega)]) ((k:Int),1,l) ⟨k,k+1,y,rfl,by simp only;omega,by omega,by omega,k1,by omega,rfl,rfl,by rw [show k+1-1=k from by omega];exact hy,⟨l.take (k-1),by
            have:=takes (k-1) y hy1
            rwa [show k-1+1=k from by omega] at this⟩,hp,fun v=>by
            rw [takes k y hy,List.mem_append,List.mem_singleton]
            constructor
            · exact .inl
            · rintro (q | rfl)
              · exact q
              · have:=takes (k-1) v hy1
                rw [show k-1+1=k from by omega] at this
                rw [this];simp⟩
    exact ⟨i,r.2,by rw [r1];congr 1;exact Prod.ext r2 rfl,r3,r4,r5,r6⟩
  obtain ⟨r,r1,r2⟩:=lX (fun s:Int=>((l.length:Int)-s).toNat) (fun s:Int=>∃ k:Nat,s=k∧1≤k∧k≤l.length∧((l.take k).Pairwise fun x y=>lt x y=true))
    (fun r:List α ⊕ Unit=>match r with | .inl r=>(r.Pairwise fun x y=>lt x y=true)∧∀ x,x ∈ r↔x ∈ l | .inr _=>l.Pairwise fun x y=>lt x y=true) (Gu eqb z l) (by
      rintro s ⟨k,rfl,k1,k2,hp⟩
      unfold Gu
      by_cases hk:k<l.length
      · have hc:(k:Int)<(l.length:Int):=by omega
        obtain ⟨x,hx⟩:=get k hk
        obtain ⟨y,hy⟩:=get (k-1) (by omega)
        have e1:aH (k:Int) 1=((k-1:Nat):Int):=by rw [aT (by omega) (by omega)];omega
        simp only [hc,decide_true,if_true,aJ hx,Option.bind_some,e1,aJ hy]
        cases hb:eqb x y with
        | false =>
          left
          have hne:x≠y:=fun e=>by rw [(heq x y).2 e] at hb;cases hb
          simp only [Bool.false_eq_true,if_false]
          refine ⟨((k+1:Nat):Int),by rw [aS k (by omega)],⟨k+1,rfl,by omega,by omega, ?_⟩,by omega⟩
          rw [takes k x hx]
          have:=takes (k-1) y hy
          rw [show k-1+1=k from by omega] at this
          rw [this] at hp ⊢
          exact Vp w tri hp (adj (k-1) k y x (by omega) hy hx) hne
        | true =>
          right
          obtain rfl:=(heq x y).1 hb
          obtain ⟨i,l',t1,t2,t3,t4,t5⟩:=inner k x k1 hk hx hy hp
          have c0:decide ((0:Int)≤(k:Int))=true:=by simp
          have c1:decide ((k:Int)≤(l.length:Int))=true:=by simp;omega
          have c2:decide ((l.length:Int)≤(l.length:Int))=true:=by simp
          have c3:decide ((0:Int)≤(i:Int))=true:=by simp
          have c4:decide ((i:Int)≤(l'.length:Int))=true:=by simp;omega
          have c5:decide ((l'.length:Int)≤(l'.length:Int))=true:=by simp
          have hsl:slc (cpy l' i (List.replicate (l'.length-i) z)) 0 (i:Int)=some (l'.take i):=by
            unfold slc cpy
            rw [if_pos ⟨Int.le_refl _,by omega,by simp;omega⟩]
            simp only [Int.toNat_natCast,Int.toNat_zero,List.drop_zero]
            rw [List.append_assoc,List.take_append_of_le_length (by rw [List.length_take];omega),List.take_take,Nat.min_self]
          simp only [if_true,c0,c1,c2,Bool.and_self,t1,Option.bind_some,c3,c4,c5,Int.toNat_natCast,hsl]
          exact ⟨_,rfl,t4,t5⟩
      · right
        have hc:¬ (k:Int)<(l.length:Int):=by omega
        refine ⟨.inr (),by simp only [hc,decide_false,Bool.false_eq_true,if_false], ?_⟩
        simp only
        rwa [List.take_of_length_le (by omega)] at hp) 1 ⟨1,rfl,by omega,by omega,by
          have hlen:2≤l.length:=by omega
          clear inner takes get adj h2 hs hl
          rcases l with _ | ⟨x,t⟩
          · simp at hlen
          · simp⟩
  rw [r1,Option.bind_some]
  cases r with
  | inl r=>exact ⟨r,rfl,r2.1,r2.2⟩
  | inr _=>exact ⟨l,rfl,r2,fun x=>Iff.rfl⟩
end
end Go.SM
namespace Go.SM
open Go Go.VI
set_option maxRecDepth 10000
theorem LF (h:List Int):bZ h=Le (brC cmp_Compare_int) h:=by kernel_rfl
theorem AQ (h:List Int):sU h=Qb (fun x y=>x==y) 0 h:=by kernel_rfl
def ltI (x y:Int):Bool:=decide (x<y)
theorem ZK:Vu ltI where
  asymm x y h:=by unfold ltI at *;simp at *;omega
  neg x y z h:=by unfold ltI at *;simp at *;omega
theorem J8 (x y:Int):cmp_Compare_int x y=some (if x<y then -1 else if y<x then 1 else 0):=by
  unfold cmp_Compare_int cmp_isNaN_int
  have e:∀ z:Int,(z != z)=false:=fun z=>by simp
  simp only [e,Option.bind_some,Bool.false_eq_true,if_false]
  by_cases h1:x<y
  · simp [h1]
  · by_cases h2:x>y
    · have:y<x:=h2
      simp [h1,h2,this]
    · have:¬ y<x:=h2
      simp [h1,h2,this]
theorem brI (β:Type) (x y:Int) (k:Bool→Option β):brC cmp_Compare_int β x y k=k (ltI x y):=by
  unfold brC ltI
  rw [J8,Option.bind_some]
  congr 1
  by_cases h1:x<y
  · simp [h1]
  · by_cases h2:y<x <;> simp [h1,h2]
theorem LG {l:List Int} (hl:l.length≤1073741824):∃ r,bZ l=some r∧r.Perm l∧r.Pairwise fun x y=>ltI y x=false:=by
  rw [LF]
  exact IW (P:=fun _=>True) (d:=0) (fun β x y k _ _=>brI β x y k) ZK ⟨by omega,fun _ _ _=>trivial⟩
theorem VR {l:List Int} (hl:l.length≤1073741824):∃ r,Rh l=some r∧r.Pairwise (fun x y=>x<y)∧∀ x,x ∈ r↔x ∈ l:=by
  obtain ⟨r,h1,h2,h3⟩:=LG hl
  have hr:r.length=l.length:=h2.length_eq
  obtain ⟨q,q1,q2,q3⟩:=JJ ZK (fun x y a b=>by unfold ltI at a b;simp at a b;omega) (eqb:=fun x y=>x==y) (fun x y=>by simp) (0:Int) (l:=r) (by omega) h3
  refine ⟨q, ?_,q2.imp (fun h=>by unfold ltI at h;simpa using h),fun x=>by rw [q3,h2.mem_iff]⟩
  unfold Rh
  simp only [Option.bind_some,h1,AQ,q1]
end Go.SM
namespace Go.SM
open Go Go.VI Go.Cells
noncomputable def EZ (s329:Int×(Option Int)×(Option Int)×Int×(List EdgeT)):(Int×(Option Int)×(Option Int)×(List EdgeT))→Option ((Int×(Option Int)×(Option Int)×Int×(List EdgeT)) ⊕ (List EdgeT)):=fun j451 =>
  some (.inl (j451.1,j451.2.1,j451.2.2.1,(aF s329.2.2.2.1 1),j451.2.2.2))
noncomputable def LY (s329:Int×(Option Int)×(Option Int)×Int×(List EdgeT)) (x453:Int) (j456:(Option Int)×(Option Int)):(List EdgeT)→Option ((Int×(Option Int)×(Option Int)×Int×(List EdgeT)) ⊕ (List EdgeT)):=fun j474 =>
  EZ s329 (x453,j456.1,j456.2,j474)
noncomputable def LZ (line:Int→Int→Option Segment) (s329:Int×(Option Int)×(Option Int)×Int×(List EdgeT)) (x453:Int):((Option Int)×(Option Int))→Option ((Int×(Option Int)×(Option Int)×Int×(List EdgeT)) ⊕ (List EdgeT)):=fun j456 =>
  (if (j456.1==s329.2.1) then (some (j456.2==s329.2.2.1)) else (some false)).bind fun j458=>if j458 then (EZ s329 (s329.1,s329.2.1,s329.2.2.1,s329.2.2.2.2)) else ((if (s329.2.1==s329.2.2.1) then (some false) else ((match s329.2.1 with | some n=>fB n | none=>eZ (cut_nothing.mk )).bind fun b478=>if b478 then (some true) else ((match s329.2.2.1 with | some n=>fB n | none=>eZ (cut_nothing.mk )).bind fun b479=>some b479))).bind fun j477=>if j477 then ((line s329.1 x453).bind fun r485=>(vE s329.2.1).bind fun r486=>(vE s329.2.2.1).bind fun r487=>(Hu r485 r486 r487).bind fun r488=>(app s329.2.2.2.2 [(EdgeT.mk (Segment.mk r488.1.Line.X1 r488.1.Line.Y1 r488.1.Line.X2 r488.1.Line.Y2) r488.1.A r488.1.B)]).bind fun l489=>LY s329 x453 j456 l489) else (LY s329 x453 j456 s329.2.2.2.2))
noncomputable def QZ (ends:(List Int)) (side:Int→Option (Option Int×Option Int)) (line:Int→Int→Option Segment):(Int×(Option Int)×(Option Int)×Int×(List EdgeT))→Option ((Int×(Option Int)×(Option Int)×Int×(List EdgeT)) ⊕ (List EdgeT)):=fun s329 =>
  if (decide (s329.2.2.2.1<(ends.length:Int))) then ((idx ends s329.2.2.2.1).bind fun x453=>if (decide ((aF s329.2.2.2.1 1)<(ends.length:Int))) then ((side x453).bind fun r491=>LZ line s329 x453 (r491.1,r491.2)) else (LZ line s329 x453 (none,none))) else (some (.inr s329.2.2.2.2))
noncomputable def al (ends:(List Int)) (side:Int→Option (Option Int×Option Int)) (line:Int→Int→Option Segment):Option ((List EdgeT)):=
  (aD (QZ ends side line) (0,none,none,0,[])).bind fun x492=>some x492
theorem NT (ends:List Int) (n m:ByteArray) (g r w t:Int) (c u:List Rect) (p:List Piece) (y z:Int):eX ends n m g r w t c u p y z=al ends (fun i=>Fp i n m g r w t c u p y) (fun a b=>Fq a b z):=rfl
theorem NU (ends:List Int) (n m:ByteArray) (g r w t:Int) (c u:List Rect) (p:List Piece) (y z:Int):eY ends n m g r w t c u p y z=al ends (fun i=>Fv i n m g r w t c u p y) (fun a b=>Fz a b z):=rfl
def mkE (s:Segment) (a b:Option Int):EdgeT:=
  let p:Int:=match a with | some i=>i | none=>-1
  let q:Int:=match b with | some i=>i | none=>-1
  if p<0∨(q ≥ 0∧q<p) then ⟨s,q,p⟩ else ⟨s,p,q⟩
theorem number_eq (a:Option Int):vE a=some (match a with | some i=>i | none=>-1):=by cases a <;> rfl
theorem WX (s:Segment) (a b:Option Int):∃ u v,Hu s (match a with | some i=>i | none=>-1) (match b with | some i=>i | none=>-1)=some (mkE s a b,u,v):=by
  unfold Hu mkE Fj
  generalize (match a with | some i=>i | none=>(-1:Int))=p
  generalize (match b with | some i=>i | none=>(-1:Int))=q
  simp only
  by_cases h1:p<0
  · simp [h1]
  · by_cases h2:q ≥ 0
    · by_cases h3:q<p
      · simp [h1,h2,h3]
      · simp [h1,h2,h3]
    · simp [h1,h2]
theorem IV (a:Option Int):(match a with | some n=>fB n | none=>eZ cut_nothing.mk)=some a.isSome:=by cases a <;> rfl
theorem FB {line:Int→Int→Option Segment} {ln:Int→Int→Segment} (hline:∀ a b,line a b=some (ln a b)) {begin_:Int} {one two:Option Int} {k:Nat} (hk:k≤1000) {out:List EdgeT} (ho:out.length≤1000000) (x:Int) (a b:Option Int) :
    LZ line (begin_,one,two,(k:Int),out) x (a,b)=some (.inl (if a=one∧b=two then (begin_,one,two,((k+1:Nat):Int),out) else (x,a,b,((k+1:Nat):Int),if one=two then out else out++[mkE (ln begin_ x) one two]))):=by
  unfold LZ
  simp only
  by_cases h:a=one∧b=two
  · obtain ⟨rfl,rfl⟩:=h
    simp only [beq_self_eq_true,if_true,Option.bind_some,EZ,and_self,aS k (by omega)]
  · have e:(if (a==one)=true then some (b==two) else some false)=some false:=by
      by_cases h1:a=one
      · have h2:¬ b=two:=fun q=>h ⟨h1,q⟩
        simp [h1,h2]
      · simp [h1]
    rw [e,if_neg h]
    simp only [Option.bind_some,Bool.false_eq_true,if_false]
    by_cases h3:one=two
    · have:(one==two)=true:=by simp [h3]
      rw [this,if_pos h3]
      simp only [if_true,Option.bind_some,Bool.false_eq_true,if_false,LY,EZ,aS k (by omega)]
    · have h4:(one==two)=false:=by simp [h3]
      have h5:(one.isSome || two.isSome)=true:=by
        cases one with
        | some _=>rfl
        | none=>cases two with
          | some _=>rfl
          | none=>exact absurd rfl h3
      obtain ⟨u,v,e2⟩:=WX (ln begin_ x) one two
      have e3:(if one.isSome=true then some true else some two.isSome)=some true:=by
        cases hh:one.isSome with
        | true=>rfl
        | false=>rw [hh,Bool.false_or] at h5;simp [h5]
      have e4:(match one with | some n=>fB n | none=>eZ cut_nothing.mk).bind (fun b478=>if b478=true then some true else (match two with | some n=>fB n | none=>eZ cut_nothing.mk).bind fun b479=>some b479)=some true:=by
        rw [IV,IV]
        exact e3
      rw [h4]
      simp only [Bool.false_eq_true,if_false]
      rw [e4]
      simp only [Option.bind_some,if_true,hline,number_eq,e2,if_neg h3]
      rw [nA (by simp [LIM];omega)]
      simp only [Option.bind_some,LY,EZ,aS k (by omega)]
theorem YT    {A B:Int→Option Int} {xs:List Int} (h:Al A B xs) {side:Int→Option (Option Int×Option Int)} (hside:∀ (i:Nat) x,xs[i]?=some x→i+1<xs.length→side x=some (A x,B x)) {line:Int→Int→Option Segment} {ln:Int→Int→Segment} (hline:∀ a b,line a b=some (ln a b)) :
    ∃ L,al xs side line=some (L.map fun p=>mkE (ln p.1 p.2) (A p.1) (B p.1))∧oZ (fun z=>cod (A z) (B z)) L∧L.length≤xs.length:=by
  obtain ⟨s,hs⟩:∃ s:Int→Int,s=fun z=>cod (A z) (B z):=⟨_,rfl⟩
  have hlen:=h.len
  have s0:∀ z,s z=0↔A z=B z:=fun z=>by rw [hs];exact h.s0 z
  have sinj:∀ z w,s z≠0→s z=s w→A z=A w∧B z=B w:=fun z w q1 q2=>by subst hs;exact h.inj q1 q2
  obtain ⟨lo,hlo⟩:=h.lo
  replace hlo:∀ z,z<lo→s z=0:=fun z hz=>by rw [hs];exact hlo z hz
  have hst:Gn s xs:=by rw [hs];exact Iy (fun p:Option Int×Option Int=>cod p.1 p.2) (g:=fun z=>(A z,B z)) h.st
  rw [← hs]
  obtain ⟨mk,hmk⟩:∃ mk:Int×Int→EdgeT,mk=fun p=>mkE (ln p.1 p.2) (A p.1) (B p.1):=⟨_,rfl⟩
  rw [← hmk]
  obtain ⟨r,q1,q2⟩:=lX (fun t:Int×Option Int×Option Int×Int×List EdgeT=>((xs.length:Int)-t.2.2.2.1).toNat)
    (fun t:Int×Option Int×Option Int×Int×List EdgeT=>∃ k:Nat,t.2.2.2.1=k∧k≤xs.length∧(k=xs.length→∃ L,t.2.2.2.2=L.map mk∧oZ s L∧L.length≤xs.length) ∧
      (∀ e,xs[k]?=some e→∃ L,oZ (cut s e) L∧L.length≤k∧t.2.1=A (e-1)∧t.2.2.1=B (e-1)∧(t.2.1=t.2.2.1→t.2.2.2.2=L.map mk)∧(t.2.1≠t.2.2.1→∃ L0,L=L0++[(t.1,e)]∧t.2.2.2.2=L0.map mk)))
    (fun r=>∃ L,r=L.map mk∧oZ s L∧L.length≤xs.length) (QZ xs side line) (by
      rintro ⟨bg,one,two,k',out⟩ ⟨k,hk',hk,hend,hI⟩
      simp only at hk' hend hI ⊢
      subst hk'
      unfold QZ
      by_cases hkn:k<xs.length
      case neg =>
        right
        have hd:¬ (k:Int)<(xs.length:Int):=by omega
        exact ⟨out,by simp only [hd,decide_false,Bool.false_eq_true,if_false],hend (by omega)⟩
      left
      have hd:(k:Int)<(xs.length:Int):=by omega
      obtain ⟨e,he⟩:∃ e,xs[k]?=some e:=⟨_,List.getElem?_eq_getElem hkn⟩
      obtain ⟨L,hL,hLk,h1,h2,hzero,hopen⟩:=hI e he
      have hout:out.length≤1000000:=by
        rcases Classical.em (one=two) with q | q
        · rw [hzero q,List.length_map];omega
        · obtain ⟨L0,e1,e2⟩:=hopen q
          rw [e2,List.length_map]
          have:=congrArg List.length e1
          simp at this;omega
      have sone:s (e-1)=0↔one=two:=by rw [s0,h1,h2]
      -- what is closed
      have closed:one≠two→out++[mkE (ln bg e) one two]=L.map mk:=fun q=>by
        obtain ⟨L0,e1,e2⟩:=hopen q
        have hr:=tK.1 ((hL.2 bg e).1 (by rw [e1];simp))
        have hne:s (e-1)≠0:=fun z=>q (sone.1 z)
        have hb:=sinj (e-1) bg hne (hr.2.2.2.1 (e-1) (by omega) (by omega))
        rw [e1,e2,List.map_append,hmk]
        simp only [List.map_cons,List.map_nil]
        rw [h1,h2,hb.1,hb.2]
      have kk:((k:Int)+1)=((k+1:Nat):Int):=by omega
      by_cases hkl:k+1<xs.length
      · obtain ⟨e',he'⟩:∃ e',xs[k+1]?=some e':=⟨_,List.getElem?_eq_getElem hkl⟩
        obtain ⟨hee,hst'⟩:=zK hst he he'
        obtain ⟨b1,b2⟩:=h.before he he'
        have hd2:aF (k:Int) 1<(xs.length:Int):=by rw [aS k (by omega)];omega
        simp only [hd,decide_true,if_true,aJ he,Option.bind_some,hd2,hside k e he hkl,FB hline (show k≤1000 by omega) hout e (A e) (B e)]
        have hprev:s (e'-1)=s e:=hst' _ (by omega) (by omega)
        by_cases hc:A e=one∧B e=two
        · refine ⟨_,rfl, ?_,by rw [if_pos hc];simp only;omega⟩
          rw [if_pos hc]
          have es:s e=s (e-1):=by rw [hs];simp only;rw [← h1,← h2,hc.1,hc.2]
          refine ⟨k+1,rfl,by omega,fun q=>by omega,fun e2 he2=>?_⟩
          rw [he'] at he2;injection he2 with he2;subst he2
          simp only
          rcases Classical.em (one=two) with q | q
          · have e0:s e=0:=by rw [es];exact sone.2 q
            exact ⟨L,Uo hL hee hst' e0,by omega,by rw [b1,hc.1],by rw [b2,hc.2],hzero,fun q'=>absurd q q'⟩
          · have e0:s e≠0:=by rw [es];exact fun z=>q (sone.1 z)
            obtain ⟨l0,a,hla,hrun⟩:=CP hL hee hst' hlo e0 es.symm
            obtain ⟨L0,e1,e2⟩:=hopen q
            rw [hla] at e1
            obtain ⟨rfl,e3⟩:=List.append_inj' e1 rfl
            injection e3 with e3 _
            injection e3 with e3 _
            subst e3
            exact ⟨l0++[(a,e')],hrun,by rw [hla] at hLk;simp at hLk ⊢;omega,by rw [b1,hc.1],by rw [b2,hc.2],fun q'=>absurd q' q,fun _=>⟨l0,rfl,e2⟩⟩
        · refine ⟨_,rfl, ?_,by rw [if_neg hc];simp only;omega⟩
          rw [if_neg hc]
          refine ⟨k+1,rfl,by omega,fun q=>by omega,fun e2 he2=>?_⟩
          rw [he'] at he2;injection he2 with he2;subst he2
          simp only
          have hout':(if one=two then out else out++[mkE (ln bg e) one two])=L.map mk:=by
            split
            · rename_i q;exact hzero q
            · rename_i q;exact closed q
          rcases Classical.em (A e=B e) with q | q
          · exact ⟨L,Uo hL hee hst' ((s0 e).2 q),by omega,b1.symm,b2.symm,fun _=>hout',fun q'=>absurd q q'⟩
          · have e0:s e≠0:=fun z=>q ((s0 e).1 z)
            have hne:s (e-1)≠s e:=fun z=>by
              have:=sinj e (e-1) e0 z.symm
              exact hc ⟨by rw [h1];exact this.1,by rw [h2];exact this.2⟩
            exact ⟨L++[(e,e')],IK hL hee hst' e0 hne,by simp;omega,b1.symm,b2.symm,fun q'=>absurd q' q,fun _=>⟨L,rfl,hout'⟩⟩
      · have hd2:¬ aF (k:Int) 1<(xs.length:Int):=by rw [aS k (by omega)];omega
        simp only [hd,decide_true,if_true,aJ he,Option.bind_some,hd2,decide_false,Bool.false_eq_true,if_false,FB hline (show k≤1000 by omega) hout e none none]
        have hz:∀ z,e≤z→s z=0:=fun z hz=>by
          have:=h.high e (by rw [show xs.length-1=k from by omega];exact he) z hz
          rw [s0,this.1,this.2]
        refine ⟨_,rfl,⟨k+1, ?_,by omega,fun _=>⟨L, ?_,Zo hL hz,by omega⟩,fun e2 he2=>by have:=aP he2;omega⟩, ?_⟩
        · split <;> rfl
        · by_cases hc:(none:Option Int)=one∧(none:Option Int)=two
          · rw [if_pos hc];exact hzero (by rw [← hc.1,← hc.2])
          · rw [if_neg hc]
            simp only
            split
            · rename_i q;exact hzero q
            · rename_i q;exact closed q
        · split <;> simp only <;> omega) (0,none,none,0,[])
      ⟨0,rfl,by omega,fun q=>⟨[],rfl,by
        have:xs=[]:=List.eq_nil_of_length_eq_zero q.symm
        refine ⟨.nil,fun a b=>⟨fun m=>by simp at m,fun m=>absurd ((s0 a).2 ?_) m.2.1⟩⟩
        rw [(h.emp this a).1,(h.emp this a).2],by simp⟩,fun e he=>by
        have hl:=h.low e he
        exact ⟨[],Zp fun z hz=>by rw [s0,(hl z hz).1,(hl z hz).2],by simp,(hl (e-1) (by omega)).1.symm,(hl (e-1) (by omega)).2.symm,fun _=>rfl,fun q=>absurd rfl q⟩⟩
  obtain ⟨L,rfl,q3,q4⟩:=q2
  exact ⟨L,by unfold al;rw [q1];rfl,q3,q4⟩
end Go.SM
namespace Go.SM
open Go Go.VI Go.Cells
def nm:Option Int→Int
  | some i=>i
  | none=>-1
theorem ED {a b:Option Int} (ha:SmO a) (hb:SmO b):nm a=nm b↔a=b:=by
  constructor
  · intro h
    cases a with
    | none=>cases b with
      | none=>rfl
      | some j=>have:=hb j rfl;simp only [nm] at h;omega
    | some i=>cases b with
      | none=>have:=ha i rfl;simp only [nm] at h;omega
      | some j=>simp only [nm] at h;rw [h]
  · intro h;rw [h]
theorem EE (R:List (List Rect)) (x y:Int):nm (jM R x y)=KD R x y:=by rw [A9];rfl
theorem FY {β:Type} {R:List β} {z v:β} {j:Nat} (h:R[j]?=some v):(R.take j++List.replicate (R.length-j) z)[j]?=some z:=by
  have:=aP h
  rw [List.getElem?_append_right (by rw [List.length_take];omega),List.length_take,List.getElem?_replicate,if_pos (by omega)]
theorem Yl {β:Type} {R:List β} {z v:β} {j:Nat} (h:R[j]?=some v):(R.take j++List.replicate (R.length-j) z).set j v=R.take (j+1)++List.replicate (R.length-(j+1)) z:=by
  have:=aP h
  rw [List.set_append_right _ _ (by rw [List.length_take];omega),List.length_take,show j-min j R.length=0 from by omega,mZ h,show R.length-j=R.length-(j+1)+1 from by omega,List.replicate_succ,List.set_cons_zero,List.append_assoc]
  rfl
theorem set_self {β:Type} {l:List β} {i:Nat} {v:β} (h:l[i]?=some v):l.set i v=l:=by
  refine List.ext_getElem? fun n=>?_
  rw [List.getElem?_set]
  split
  · rename_i e;subst e
    rw [if_pos (aP h),h]
  · rfl
section
variable {R:List (List Rect)} (hv:AC R.flatten) (hm:R.length≤900) (hn:∀ l ∈ R,l.length≤1000)
include hv hm hn
theorem NN {l:List Rect} (hl:l ∈ R) (x y:Int):tO l x y=some (cov l x y):=by
  unfold tO cov
  have:=hn l hl
  rw [Za l (kV l x y) (fun r=>inC r x y) (.inr ()) (.inl ()) (fun k r hr=>?s) ?f]
  · cases l.any (fun r=>inC r x y) <;> rfl
  case s =>
    have h1:=aP hr
    obtain ⟨e1,e2⟩:=EP (hv r (List.mem_flatten.2 ⟨l,hl,List.mem_of_getElem? hr⟩))
    unfold kV
    simp only [h1,Int.ofNat_lt,decide_true,if_true,aJ hr,Option.bind_some,e1,e2]
    have hb':(if decide (r.X≤x) then (if decide (x<r.X+r.W) then (if decide (r.Y≤y) then some (decide (y<r.Y+r.H)) else some false) else some false) else some false)=some (inC r x y):=by
      unfold inC
      cases decide (r.X≤x) <;> cases decide (x<r.X+r.W) <;> cases decide (r.Y≤y) <;> simp
    rw [hb',Option.bind_some,aS k (by omega)]
  case f=>simp [kV]
theorem UA (x y:Int):uK R x y=some (KD R x y):=by
  unfold uK
  rw [Ud R (mD R x y) (fun l=>cov l x y) (fun k=>.inl (k:Int)) (.inr ()) (fun k l hl=>?s) ?f]
  · unfold KD xR
    cases R.findIdx? (fun l=>cov l x y) <;> rfl
  case s =>
    have h1:=aP hl
    unfold mD
    simp only [h1,Int.ofNat_lt,decide_true,if_true,aJ hl,Option.bind_some,NN hv hm hn (List.mem_of_getElem? hl),aS k (by omega)]
  case f=>simp [mD]
def cellV (R:List (List Rect)) (xs ys:List Int) (i j:Nat):Int:=if 0<i∧0<j∧i<xs.length∧j<ys.length then KD R (xs.getD (i-1) 0) (ys.getD (j-1) 0) else -1
def Vd (R:List (List Rect)) (xs ys:List Int) (i:Nat):List Int:=(List.range (ys.length+1)).map fun j=>cellV R xs ys i j
def Hf (R:List (List Rect)) (xs ys:List Int):List (List Int):=(List.range (xs.length+1)).map fun i=>Vd R xs ys i
omit hv hm hn in
theorem Hg (xs ys:List Int) (i j:Nat) (hj:j≤ys.length):(Vd R xs ys i)[j]?=some (cellV R xs ys i j):=by
  unfold Vd;rw [List.getElem?_map,List.getElem?_range (by omega)];rfl
omit hv hm hn in
theorem Nj (xs ys:List Int) (i:Nat) (hi:i≤xs.length):(Hf R xs ys)[i]?=some (Vd R xs ys i):=by
  unfold Hf;rw [List.getElem?_map,List.getElem?_range (by omega)];rfl
theorem PM        {xs ys:List Int} (hx:xs.length≤1000) (hy:ys.length≤1000):tQ R xs ys=some (Hf R xs ys):=by
  have inner:∀   (i:Nat) (M0:List (List Int)) (base:List (List Int)),i≤xs.length→base[i]?=some (List.replicate (ys.length+1) 0) →
      aD (iK R xs ys ((i:Int),M0)) (0,base)=some (base.set i (Vd R xs ys i)):=fun i M0 base hi hb=>by
    obtain ⟨C,hC⟩:∃ C,Vd R xs ys i=C:=⟨_,rfl⟩
    have hCl:C.length=ys.length+1:=by rw [← hC];simp [Vd]
    have hil:=aP hb
    obtain ⟨r,q1,q2⟩:=uF (List.range (ys.length+1)) (fun k (s:List (List Int))=>((k:Int),s)) (iK R xs ys ((i:Int),M0)) (fun s=>s) (fun k s=>s=base.set i (C.take k++List.replicate (C.length-k) 0)) base (by
        rw [List.take_zero,List.nil_append,Nat.sub_zero,hCl,set_self hb])
      (fun k y s hy' hI=>by
        have hk:=aP hy'
        rw [List.length_range] at hk
        have hd:decide ((k:Int)≤(ys.length:Int))=true:=by simp;omega
        have hCk:C[k]?=some (cellV R xs ys i k):=by rw [← hC];exact Hg xs ys i k (by omega)
        have gb:s[i]?=some (C.take k++List.replicate (C.length-k) 0):=by rw [hI,List.getElem?_set,if_pos rfl,if_pos hil]
        have gz:(C.take k++List.replicate (C.length-k) 0)[k]?=some (0:Int):=FY hCk
        have hlk:=aP gz
        have hsl:s.length=base.length:=by rw [hI,List.length_set]
        unfold iK
        simp only [hd,if_true,aJ gb,aJ gz,Option.bind_some,Int.toNat_natCast]
        by_cases hc:0<i∧0<k∧i<xs.length∧k<ys.length
        · obtain ⟨c1,c2,c3,c4⟩:=hc
          have e1:aH (i:Int) 1=((i-1:Nat):Int):=by rw [aT (by omega) (by omega)];omega
          have e2:aH (k:Int) 1=((k-1:Nat):Int):=by rw [aT (by omega) (by omega)];omega
          have g1:xs[i-1]?=some (xs.getD (i-1) 0):=by rw [List.getD_eq_getElem?_getD,List.getElem?_eq_getElem (by omega)];rfl
          have g2:ys[k-1]?=some (ys.getD (k-1) 0):=by rw [List.getD_eq_getElem?_getD,List.getElem?_eq_getElem (by omega)];rfl
          have g3:(s.set i ((C.take k++List.replicate (C.length-k) 0).set k (-1)))[i]?=some ((C.take k++List.replicate (C.length-k) 0).set k (-1)):=by rw [List.getElem?_set,if_pos rfl,if_pos (by omega)]
          have g4:((C.take k++List.replicate (C.length-k) 0).set k (-1))[k]?=some (-1:Int):=by rw [List.getElem?_set,if_pos rfl,if_pos hlk]
          have d1:decide ((i:Int)>0)=true:=by simp;omega
          have d2:decide ((k:Int)>0)=true:=by simp;omega
          have d3:decide ((i:Int)<(xs.length:Int))=true:=by simp;omega
          have d4:decide ((k:Int)<(ys.length:Int))=true:=by simp;omega
          simp only [d1,d2,d3,d4,if_true,Option.bind_some,aJ g3,e1,e2,aJ g1,aJ g2,UA hv hm hn,aJ g4,kW,aS k (by omega)]
          refine ⟨_,rfl, ?_⟩
          rw [List.set_set,List.set_set,hI,List.set_set]
          have:cellV R xs ys i k=KD R (xs.getD (i-1) 0) (ys.getD (k-1) 0):=by unfold cellV;rw [if_pos ⟨c1,c2,c3,c4⟩]
          rw [← this,Yl hCk]
        · have hcv:cellV R xs ys i k=-1:=by unfold cellV;rw [if_neg hc]
          have hb':(if decide ((i:Int)>0) then (if decide ((k:Int)>0) then (if decide ((i:Int)<(xs.length:Int)) then some (decide ((k:Int)<(ys.length:Int))) else some false) else some false) else some false)=some false:=by
            by_cases c1:0<i
            · by_cases c2:0<k
              · by_cases c3:i<xs.length
                · have c4:¬ k<ys.length:=fun q=>hc ⟨c1,c2,c3,q⟩
                  simp [c1,c2,c3,c4]
                · simp [c1,c2,c3]
              · simp [c1,c2]
            · simp [c1]
          rw [hb']
          simp only [Option.bind_some,Bool.false_eq_true,if_false,kW,aS k (by omega)]
          refine ⟨_,rfl, ?_⟩
          rw [hI,List.set_set,← hcv,Yl hCk]) (fun s _=>by
        have:¬ ((List.range (ys.length+1)).length:Int)≤(ys.length:Int):=by rw [List.length_range];omega
        unfold iK
        simp only [this,decide_false,Bool.false_eq_true,if_false])
    rw [List.length_range,← hCl,List.take_length,Nat.sub_self,List.replicate_zero,List.append_nil] at q2
    rw [show ((0:Int),base)=(((0:Nat):Int),base) from rfl,q1,q2,hC]
  obtain ⟨C,hC⟩:∃ C,Hf R xs ys=C:=⟨_,rfl⟩
  have hCl:C.length=xs.length+1:=by rw [← hC];simp [Hf]
  have mk1:∀ {β:Type} (n:Nat) (z:β),n≤1000→mk (aF (n:Int) 1) z=some (List.replicate (n+1) z):=fun {β} n z hn'=>by
    rw [aS n (by omega)]
    unfold mk
    rw [if_pos ⟨by omega,by simp [LIM];omega⟩,Int.toNat_natCast]
  obtain ⟨r,q1,q2⟩:=uF (List.range (xs.length+1)) (fun k (s:List (List Int))=>((k:Int),s)) (kX R xs ys) (fun s=>s) (fun k s=>s=C.take k++List.replicate (C.length-k) []) (List.replicate (xs.length+1) []) (by
      rw [List.take_zero,List.nil_append,Nat.sub_zero,hCl])
    (fun k x s hx' hI=>by
      have hk:=aP hx'
      rw [List.length_range] at hk
      have hd:decide ((k:Int)≤(xs.length:Int))=true:=by simp;omega
      have hCk:C[k]?=some (Vd R xs ys k):=by rw [← hC];exact Nj xs ys k (by omega)
      have g0:s[k]?=some []:=by rw [hI];exact FY hCk
      have hks:=aP g0
      have g1:(s.set k (List.replicate (ys.length+1) 0))[k]?=some (List.replicate (ys.length+1) 0):=by rw [List.getElem?_set,if_pos rfl,if_pos hks]
      unfold kX
      simp only [hd,if_true,mk1 ys.length (0:Int) hy,Option.bind_some,aJ g0,Int.toNat_natCast,inner k s _ (by omega) g1,aS k (by omega)]
      refine ⟨_,rfl, ?_⟩
      rw [List.set_set,hI,Yl hCk]) (fun s _=>by
      have:¬ ((List.range (xs.length+1)).length:Int)≤(xs.length:Int):=by rw [List.length_range];omega
      unfold kX
      simp only [this,decide_false,Bool.false_eq_true,if_false])
  rw [List.length_range,← hCl,List.take_length,Nat.sub_self,List.replicate_zero,List.append_nil] at q2
  unfold tQ
  rw [mk1 xs.length ([]:List Int) hx]
  simp only [Option.bind_some]
  rw [show ((0:Int),List.replicate (xs.length+1) ([]:List Int))=(((0:Nat):Int),List.replicate (xs.length+1) []) from rfl,q1,q2,hC]
  rfl
end
def cS (q x:Segment):Prop:=q.X2=x.X1∧q.Y2=x.Y1∧(q.Y1=x.Y2∨q.X1=x.X2)
instance (q x:Segment):Decidable (cS q x):=by unfold cS;infer_instance
abbrev Ln:=sheetmetalref06_Line
def jn (q x:Ln):Prop:=q.Low=x.Low∧q.High=x.High∧cS q.At x.At
instance (q x:Ln):Decidable (jn q x):=by unfold jn;infer_instance
theorem join_nil (x:Ln) (h:x.Low≠x.High):bM x []=some [x]:=by
  unfold bM
  have e1:(x.Low==x.High)=false:=by simp [h]
  have e2:aH (([]:List Ln).length:Int) 1=-1:=aT (by simp) (by simp)
  rw [e2]
  simp only [e1,Bool.false_eq_true,if_false,show decide ((-1:Int) ≥ 0)=false from rfl,Option.bind_some]
  rw [nA (by simp [LIM])]
  rfl
theorem PL (x:Ln) (l:List Ln) (h:x.Low=x.High):bM x l=some l:=by
  unfold bM
  simp [h]
theorem Uc (x q:Ln) (o:List Ln) (ho:o.length≤10000000) (h:x.Low≠x.High):bM x (o++[q])=some (if jn q x then o++[⟨⟨q.At.X1,q.At.Y1,x.At.X2,x.At.Y2⟩,q.Low,q.High⟩] else o++[q]++[x]):=by
  unfold bM
  have e1:(x.Low==x.High)=false:=by simp [h]
  have hlen:((o++[q]).length:Int)=(o.length:Int)+1:=by simp
  have e2:aH ((o++[q]).length:Int) 1=(o.length:Int):=by rw [hlen,aT (by omega) (by omega)];omega
  have g:(o++[q])[o.length]?=some q:=by simp
  have d:decide ((o.length:Int) ≥ 0)=true:=by simp
  rw [e2]
  simp only [e1,Bool.false_eq_true,if_false,d,if_true,aJ g,Option.bind_some,Int.toNat_natCast]
  have hj : (if (q.Low==x.Low)=true then (if (q.High==x.High)=true then (if (q.At.X2==x.At.X1)=true then (if (q.At.Y2==x.At.Y1)=true then (if (q.At.Y1==x.At.Y2)=true then some true else some (q.At.X1==x.At.X2)) else some false) else some false) else some false) else some false)=some (decide (jn q x)):=by
    unfold jn cS
    by_cases h1:q.Low=x.Low
    · by_cases h2:q.High=x.High
      · by_cases h3:q.At.X2=x.At.X1
        · by_cases h4:q.At.Y2=x.At.Y1
          · by_cases h5:q.At.Y1=x.At.Y2
            · simp [h1,h2,h3,h4,h5]
            · by_cases h6:q.At.X1=x.At.X2
              · simp [h1,h2,h3,h4,h5,h6]
              · simp [h1,h2,h3,h4,h5,h6]
          · simp [h1,h2,h3,h4]
        · simp [h1,h2,h3]
      · simp [h1,h2]
    · simp [h1]
  rw [hj,Option.bind_some]
  by_cases hc:jn q x
  · have s1:(o++[q]).set o.length (⟨⟨q.At.X1,q.At.Y1,x.At.X2,q.At.Y2⟩,q.Low,q.High⟩:Ln)=o++[⟨⟨q.At.X1,q.At.Y1,x.At.X2,q.At.Y2⟩,q.Low,q.High⟩]:=by rw [List.set_append_right _ _ (Nat.le_refl _)];simp
    have g2:(o++[(⟨⟨q.At.X1,q.At.Y1,x.At.X2,q.At.Y2⟩,q.Low,q.High⟩:Ln)])[o.length]?=some ⟨⟨q.At.X1,q.At.Y1,x.At.X2,q.At.Y2⟩,q.Low,q.High⟩:=by simp
    simp only [hc,decide_true,if_true,s1,aJ g2,Option.bind_some]
    rw [List.set_append_right _ _ (Nat.le_refl _)]
    simp
  · simp only [hc,decide_false,Bool.false_eq_true,if_false]
    rw [nA (by simp [LIM];omega)]
    simp
theorem VJ {A B:Int→Option Int} {xs:List Int} (h:Al A B xs) {ln:Int→Int→Segment} {body:Int×List Ln→Option (Int×List Ln ⊕ List Ln)}
    (hb:∀ (k:Nat) x x' (out:List Ln),xs[k]?=some x→xs[k+1]?=some x'→body ((k:Int),out)=(bM ⟨ln x x',nm (B x),nm (A x)⟩ out).bind fun r=>some (.inl (((k+1:Nat):Int),r)))
    (hend:∀ (k:Nat) (out:List Ln),k<100000→xs.length≤k+1→body ((k:Int),out)=some (.inr out)) (hcs:∀ a b e e',cS (ln a b) (ln e e')↔b=e) (hmg:∀ a e e',(⟨(ln a e).X1,(ln a e).Y1,(ln e e').X2,(ln e e').Y2⟩:Segment)=ln a e')
    {out0:List Ln} (h0:out0.length≤5000000) (hout:∀ q ∈ out0,∀ x x',x<x'→¬ cS q.At (ln x x')) :
    ∃ L,aD body (0,out0)=some (out0++L.map fun p=>⟨ln p.1 p.2,nm (B p.1),nm (A p.1)⟩)∧oZ (fun z=>cod (A z) (B z)) L∧L.length≤xs.length:=by
  obtain ⟨s,hs⟩:∃ s:Int→Int,s=fun z=>cod (A z) (B z):=⟨_,rfl⟩
  have hlen:=h.len
  have s0:∀ z,s z=0↔A z=B z:=fun z=>by rw [hs];exact h.s0 z
  have sinj:∀ z w,s z≠0→s z=s w→A z=A w∧B z=B w:=fun z w q1 q2=>by subst hs;exact h.inj q1 q2
  obtain ⟨lo,hlo⟩:=h.lo
  replace hlo:∀ z,z<lo→s z=0:=fun z hz=>by rw [hs];exact hlo z hz
  have hst:Gn s xs:=by rw [hs];exact Iy (fun p:Option Int×Option Int=>cod p.1 p.2) (g:=fun z=>(A z,B z)) h.st
  rw [← hs]
  obtain ⟨mk,hmk⟩:∃ mk:Int×Int→Ln,mk=fun p=>⟨ln p.1 p.2,nm (B p.1),nm (A p.1)⟩:=⟨_,rfl⟩
  rw [← hmk]
  obtain ⟨r,q1,q2⟩:=lX (fun t:Int×List Ln=>((xs.length:Int)-t.1).toNat)
    (fun t:Int×List Ln=>∃ k:Nat,t.1=k∧(k<xs.length∨k=0)∧(xs=[]→t.2=out0)∧(∀ e,xs[k]?=some e→∃ L,oZ (cut s e) L∧L.length≤k∧t.2=out0++L.map mk))
    (fun r=>∃ L,r=out0++L.map mk∧oZ s L∧L.length≤xs.length) body (by
      rintro ⟨k',out⟩ ⟨k,hk',hk,hnil,hI⟩
      simp only at hk' hnil hI ⊢
      subst hk'
      by_cases hkl:k+1<xs.length
      case neg =>
        right
        refine ⟨out,hend k out (by omega) (by omega), ?_⟩
        rcases hk with hk | rfl
        · obtain ⟨e,he⟩:∃ e,xs[k]?=some e:=⟨_,List.getElem?_eq_getElem hk⟩
          obtain ⟨L,hL,hLk,ho⟩:=hI e he
          refine ⟨L,ho,Zo hL fun z hz=>?_,by omega⟩
          have:=h.high e (by rw [show xs.length-1=k from by omega];exact he) z hz
          rw [s0,this.1,this.2]
        · rcases Classical.em (xs=[]) with q | q
          · refine ⟨[],by rw [hnil q];simp,⟨.nil,fun a b=>⟨fun m=>by simp at m,fun m=>absurd ((s0 a).2 ?_) m.2.1⟩⟩,by simp⟩
            rw [(h.emp q a).1,(h.emp q a).2]
          · have hp:=List.length_pos_iff.2 q
            obtain ⟨e,he⟩:∃ e,xs[0]?=some e:=⟨_,List.getElem?_eq_getElem hp⟩
            obtain ⟨L,hL,hLk,ho⟩:=hI e he
            refine ⟨L,ho,Zo hL fun z hz=>?_,by omega⟩
            have:=h.high e (by rw [show xs.length-1=0 from by omega];exact he) z hz
            rw [s0,this.1,this.2]
      left
      obtain ⟨e,he⟩:∃ e,xs[k]?=some e:=⟨_,List.getElem?_eq_getElem (by omega)⟩
      obtain ⟨e',he'⟩:∃ e',xs[k+1]?=some e':=⟨_,List.getElem?_eq_getElem hkl⟩
      obtain ⟨hee,hst'⟩:=zK hst he he'
      obtain ⟨L,hL,hLk,ho⟩:=hI e he
      rw [hb k e e' out he he']
      have fin:∀ L',oZ (cut s e') L'→L'.length≤k+1→bM ⟨ln e e',nm (B e),nm (A e)⟩ out=some (out0++L'.map mk) →
          ∃ s',(bM ⟨ln e e',nm (B e),nm (A e)⟩ out).bind (fun r=>some (.inl (((k+1:Nat):Int),r)))=some (.inl s':Int×List Ln ⊕ List Ln)∧(∃ k:Nat,s'.1=k∧(k<xs.length∨k=0)∧(xs=[]→s'.2=out0)∧(∀ e,xs[k]?=some e→∃ L,oZ (cut s e) L∧L.length≤k∧s'.2=out0++L.map mk))∧((xs.length:Int)-s'.1).toNat<((xs.length:Int)-(k:Int)).toNat:=fun L' h1 h2 h3=>by
        rw [h3]
        refine ⟨(((k+1:Nat):Int),out0++L'.map mk),rfl,⟨k+1,rfl,.inl hkl,fun q=>by rw [q] at hkl;simp at hkl,fun e2 he2=>?_⟩,by simp only;omega⟩
        rw [he'] at he2;injection he2 with he2;subst he2
        exact ⟨L',h1,h2,rfl⟩
      have hne_iff:nm (B e)=nm (A e)↔s e=0:=by rw [s0,ED (h.sb e) (h.sa e)];exact eq_comm
      rcases Classical.em (s e=0) with e0 | e0
      · refine fin L (Uo hL hee hst' e0) (by omega) ?_
        rw [PL _ _ (hne_iff.2 e0),ho]
      · have hlh:(⟨ln e e',nm (B e),nm (A e)⟩:Ln).Low≠(⟨ln e e',nm (B e),nm (A e)⟩:Ln).High:=fun q=>e0 (hne_iff.1 q)
        rcases Classical.em (s (e-1)=s e) with e1 | e1
        · obtain ⟨l0,a,hla,hrun⟩:=CP hL hee hst' hlo e0 e1
          have hr:=tK.1 ((hL.2 a e).1 (by rw [hla];simp))
          have hb2:=sinj (e-1) a (by rw [e1];exact e0) (hr.2.2.2.1 (e-1) (by omega) (by omega))
          have hb3:=sinj (e-1) e (by rw [e1];exact e0) e1
          refine fin (l0++[(a,e')]) hrun (by rw [hla] at hLk;simp at hLk ⊢;omega) ?_
          have hout':out=(out0++l0.map mk)++[mk (a,e)]:=by rw [ho,hla];simp
          rw [hout',Uc _ _ _ (by rw [hla] at hLk;simp at hLk ⊢;omega) hlh,if_pos,List.map_append,← List.append_assoc]
          · rw [hmk]
            simp only [List.map_cons,List.map_nil]
            rw [hmg]
          · rw [hmk]
            refine ⟨?_, ?_,(hcs _ _ _ _).2 rfl⟩
            · show nm (B a)=nm (B e);rw [← hb2.2,hb3.2]
            · show nm (A a)=nm (A e);rw [← hb2.1,hb3.1]
        · refine fin (L++[(e,e')]) (IK hL hee hst' e0 e1) (by simp;omega) ?_
          have hres:(out0++L.map mk)++[(⟨ln e e',nm (B e),nm (A e)⟩:Ln)]=out0++(L++[(e,e')]).map mk:=by rw [List.map_append,← List.append_assoc,hmk];rfl
          rw [← hres,ho]
          rcases List.eq_nil_or_concat L with rfl | ⟨l0,p,hLp⟩
          · rcases List.eq_nil_or_concat out0 with rfl | ⟨o,q,hoq⟩
            · simp only [List.map_nil,List.append_nil,List.nil_append]
              exact join_nil _ hlh
            · have hoq':out0=o++[q]:=by rw [hoq];exact List.concat_eq_append
              simp only [List.map_nil,List.append_nil]
              rw [hoq',Uc _ _ _ (by rw [hoq'] at h0;simp at h0;omega) hlh,if_neg]
              exact fun z=>hout q (by rw [hoq'];simp) e e' hee z.2.2
          · have hLp':L=l0++[p]:=by rw [hLp];exact List.concat_eq_append
            have hout':out0++L.map mk=(out0++l0.map mk)++[mk p]:=by rw [hLp'];simp
            rw [hout',Uc _ _ _ (by rw [hLp'] at hLk;simp at hLk ⊢;omega) hlh,if_neg]
            intro z
            have hr:=tK.1 ((hL.2 p.1 p.2).1 (by rw [hLp'];simp))
            rw [hmk] at z
            obtain ⟨z1,z2,z3⟩:=z
            have z3':=(hcs p.1 p.2 e e').1 z3
            have z1':nm (B p.1)=nm (B e):=z1
            have z2':nm (A p.1)=nm (A e):=z2
            have y1:=(ED (h.sb _) (h.sb _)).1 z1'
            have y2:=(ED (h.sa _) (h.sa _)).1 z2'
            refine e1 ?_
            have:=hr.2.2.2.1 (e-1) (by omega) (by omega)
            rw [this,hs]
            simp only
            rw [y1,y2]) (0,out0)
      ⟨0,rfl,by omega,fun _=>rfl,fun e he=>by
        have hl:=h.low e he
        exact ⟨[],Zp fun z hz=>by rw [s0,(hl z hz).1,(hl z hz).2],by simp,by simp⟩⟩
  obtain ⟨L,rfl,q3,q4⟩:=q2
  exact ⟨L,q1,q3,q4⟩
end Go.SM
namespace Go.SM
open Go Go.VI
def Vv (l:List Rect):Int×Int×Int×Int:=l.foldl (fun s r=>if vR r then (if s.2.2.1=0 then (r.X,r.Y,r.W,r.H) else (min s.1 r.X,min s.2.1 r.Y,max (s.1+s.2.2.1) (r.X+r.W)-min s.1 r.X,max (s.2.1+s.2.2.2) (r.Y+r.H)-min s.2.1 r.Y)) else s) (0,0,0,0)
def Tm (l:List Rect):Bool×Int×Int×Int×Int:=l.foldl (fun s r=>if vR r then (if s.1 then (true,min s.2.1 r.X,min s.2.2.1 r.Y,max s.2.2.2.1 (r.X+r.W),max s.2.2.2.2 (r.Y+r.H)) else (true,r.X,r.Y,r.X+r.W,r.Y+r.H)) else s) (false,0,0,0,0)
def QW (p:Int×Int×Int×Int) (d:Bool×Int×Int×Int×Int):Prop:=
  (d.1=false∧p=(0,0,0,0))∨(d.1=true∧p=(d.2.1,d.2.2.1,d.2.2.2.1-d.2.1,d.2.2.2.2-d.2.2.1)∧-1048576≤d.2.1∧d.2.1<d.2.2.2.1∧d.2.2.2.1≤1048576∧-1048576≤d.2.2.1∧d.2.2.1<d.2.2.2.2∧d.2.2.2.2≤1048576)
theorem take_snoc' {α:Type} {l:List α} {k:Nat} {x:α} (h:l[k]?=some x):l.take (k+1)=l.take k++[x]:=by
  rw [List.take_add_one,h];rfl
def stP (s:Int×Int×Int×Int) (r:Rect):Int×Int×Int×Int:=if vR r then (if s.2.2.1=0 then (r.X,r.Y,r.W,r.H) else (min s.1 r.X,min s.2.1 r.Y,max (s.1+s.2.2.1) (r.X+r.W)-min s.1 r.X,max (s.2.1+s.2.2.2) (r.Y+r.H)-min s.2.1 r.Y)) else s
def stD (s:Bool×Int×Int×Int×Int) (r:Rect):Bool×Int×Int×Int×Int:=if vR r then (if s.1 then (true,min s.2.1 r.X,min s.2.2.1 r.Y,max s.2.2.2.1 (r.X+r.W),max s.2.2.2.2 (r.Y+r.H)) else (true,r.X,r.Y,r.X+r.W,r.Y+r.H)) else s
theorem WN {p:Int×Int×Int×Int} {d:Bool×Int×Int×Int×Int} (ih:QW p d) (r:Rect):QW (stP p r) (stD d r):=by
  unfold stP stD
  by_cases hv:vR r
  · rw [if_pos hv,if_pos hv]
    unfold vR at hv
    rcases ih with ⟨h1,rfl⟩ | ⟨h1,rfl,hb⟩
    · rw [h1]
      refine .inr ⟨by simp, ?_, ?_⟩
      · simp
        omega
      · simp;omega
    · rw [h1]
      simp only [if_true]
      rw [if_neg (by omega)]
      refine .inr ⟨rfl, ?_, ?_⟩
      · simp only [Prod.mk.injEq,true_and]
        omega
      · simp only;omega
  · rw [if_neg hv,if_neg hv];exact ih
theorem YW:∀ (l:List Rect) {p:Int×Int×Int×Int} {d:Bool×Int×Int×Int×Int},QW p d→QW (l.foldl stP p) (l.foldl stD d)
  | [],_,_,h=>h
  | r::l,_,_,h=>YW l (WN h r)
theorem H6 (l:List Rect):QW (Vv l) (Tm l):=YW l (.inl ⟨rfl,rfl⟩)
theorem OA {l:List Rect} {k:Nat} {r:Rect} (h:l[k]?=some r):Vv (l.take (k+1))=stP (Vv (l.take k)) r:=by
  rw [take_snoc' h];unfold Vv;rw [List.foldl_append];rfl
theorem NZ {l:List Rect} {k:Nat} {r:Rect} (h:l[k]?=some r):Tm (l.take (k+1))=stD (Tm (l.take k)) r:=by
  rw [take_snoc' h];unfold Tm;rw [List.foldl_append];rfl
theorem JF (x:Piece) (h:x.Rects.length≤9223372036854775806):aD (xZ x) (0,0,0,0,0)=some (Vv x.Rects):=by
  refine xU x.Rects (xZ x) (fun k=>((k:Int),Vv (x.Rects.take k))) _ (fun k r hr=>?_) ?_
  · have hk:=(List.getElem?_eq_some_iff.1 hr).1
    have hb:=H6 (x.Rects.take k)
    rw [OA hr]
    unfold xZ
    have h1:decide ((k:Int)<(x.Rects.length:Int))=true:=by simp;omega
    generalize Vv (x.Rects.take k)=p at hb ⊢
    generalize Tm (x.Rects.take k)=d at hb
    simp only [h1,if_true,aJ hr,Option.bind_some,tF,xY,stP]
    rw [aL (a:=(k:Int)) (by omega) (by omega)]
    by_cases hv:vR r
    · have hv':=hv
      unfold vR at hv'
      simp only [hv,decide_true,Bool.not_true,Bool.false_eq_true,if_false,if_true]
      by_cases h0:p.2.2.1=0
      · simp [h0]
      · rcases hb with ⟨_,rfl⟩ | ⟨_,rfl,hb⟩
        · exact absurd rfl h0
        · simp only at h0 ⊢
          have h0':(d.2.2.2.1-d.2.1==0)=false:=by rw [beq_eq_false_iff_ne];exact h0
          simp only [h0',h0,Bool.false_eq_true,if_false,Cc,Rq]
          rw [aL (a:=d.2.1) (by omega) (by omega),aL (a:=d.2.2.1) (by omega) (by omega),aL (a:=r.X) (by omega) (by omega),aL (a:=r.Y) (by omega) (by omega),aT (by omega) (by omega),aT (by omega) (by omega)]
          rfl
    · simp [hv]
  · simp [xZ]
theorem QX (x:Piece) (h:x.Rects.length≤9223372036854775806):Hq x=some (decide (min (Vv x.Rects).2.2.1 (Vv x.Rects).2.2.2<7200)):=by
  unfold Hq
  rw [JF x h]
  simp [Cc]
theorem IG (x:Piece) (h:x.Rects.length≤9223372036854775806):aD (jA x) (false,0,0,0,0,0)=some (Tm x.Rects):=by
  refine xU x.Rects (jA x) (fun k=>((Tm (x.Rects.take k)).1,(Tm (x.Rects.take k)).2.1,(Tm (x.Rects.take k)).2.2.1,(Tm (x.Rects.take k)).2.2.2.1,(Tm (x.Rects.take k)).2.2.2.2,(k:Int))) _ (fun k r hr=>?_) ?_
  · have hk:=(List.getElem?_eq_some_iff.1 hr).1
    rw [NZ hr]
    unfold jA
    have h1:decide ((k:Int)<(x.Rects.length:Int))=true:=by simp;omega
    generalize Tm (x.Rects.take k)=d
    obtain ⟨d1,d2,d3,d4,d5⟩:=d
    simp only [h1,if_true,aJ hr,Option.bind_some,Kv,rM,rO,stD]
    rw [aL (a:=(k:Int)) (by omega) (by omega)]
    by_cases hv:vR r
    · have hv':=hv
      unfold vR at hv'
      simp only [hv,decide_true,Bool.not_true,Bool.false_eq_true,if_false,if_true,Cc,Rq]
      rw [aL (a:=r.X) (by omega) (by omega),aL (a:=r.Y) (by omega) (by omega)]
      cases d1 with
      | false =>
        simp
      | true=>simp
    · simp [hv]
  · simp [jA]
theorem QC (x:Piece) (h:x.Rects.length≤9223372036854775806):oQ x=some (decide (min (Vv x.Rects).2.2.1 (Vv x.Rects).2.2.2<7200)):=by
  unfold oQ
  rw [IG x h]
  have hb:=H6 x.Rects
  simp only [Option.bind_some]
  generalize Vv x.Rects=p at hb ⊢
  generalize Tm x.Rects=d at hb ⊢
  rcases hb with ⟨h1,rfl⟩ | ⟨h1,rfl,hb⟩
  · simp [h1]
  · simp only [h1,if_true,Option.bind_some,Cc]
    rw [aT (by omega) (by omega),aT (by omega) (by omega)]
def xV (l:List Rect) (x y:Int):Bool:=l.any fun r=>decide (uI ⟨x,y,1,1⟩ r)
theorem QQ (l:List Rect) (x y:Int) (h:l.length≤9223372036854775806):iF l x y=some (xV l x y):=by
  unfold iF
  have hL:aD (iL l x y) 0=some (if l.any (fun r=>decide (uI ⟨x,y,1,1⟩ r)) then .inl () else .inr ()):=by
   refine Za l (iL l x y) (fun r=>decide (uI ⟨x,y,1,1⟩ r)) (.inr ()) (.inl ()) (fun k r hr=>?_) ?_
   · have hk:=(List.getElem?_eq_some_iff.1 hr).1
     have h1:decide ((k:Int)<(l.length:Int))=true:=by simp;omega
     unfold iL
     simp only [h1,if_true,aJ hr,Option.bind_some,Tf]
     rw [aL (by omega) (by omega)]
     rfl
   · simp [iL]
  rw [hL]
  unfold xV
  cases l.any fun r=>decide (uI ⟨x,y,1,1⟩ r) <;> rfl
theorem FM (l:List Rect) (x y:Int) (h:l.length≤9223372036854775806):bD l x y 1 1=some (xV l x y):=by
  unfold bD bW
  have key:∀ n k,k+n=l.length→∃ r:Int ⊕ Unit,aD (aY l x y 1 1) (k:Int)=some r∧(match r with | .inl j=>0≤j∧xV (l.drop k) x y=true | .inr _=>xV (l.drop k) x y=false):=by
    intro n
    induction n with
    | zero =>
      intro k hk
      obtain rfl:k=l.length:=by omega
      exact ⟨.inr (),dD (by simp [aY]),by simp [xV]⟩
    | succ n ih =>
      intro k hk
      have hlt:k<l.length:=by omega
      have hr:l[k]?=some l[k]:=by simp
      have h1:decide ((k:Int)<(l.length:Int))=true:=by simp;omega
      have hb:aY l x y 1 1 (k:Int)=if decide (uI ⟨x,y,1,1⟩ l[k]) then some (.inr (.inl (k:Int))) else some (.inl ((k+1:Nat):Int)):=by
        unfold aY Dt
        simp only [h1,if_true,aJ hr,Option.bind_some,Td]
        rw [aL (by omega) (by omega)]
        rfl
      have e:xV (l.drop k) x y=(decide (uI ⟨x,y,1,1⟩ l[k]) || xV (l.drop (k+1)) x y):=by
        unfold xV;rw [List.drop_eq_getElem_cons hlt,List.any_cons]
      by_cases hq:uI ⟨x,y,1,1⟩ l[k]
      · rw [if_pos (by simpa using hq)] at hb
        exact ⟨.inl k,dD hb,by omega,by rw [e];simp [hq]⟩
      · rw [if_neg (by simpa using hq)] at hb
        obtain ⟨r,q1,q2⟩:=ih (k+1) (by omega)
        refine ⟨r,(jJ hb).trans q1, ?_⟩
        cases r with
        | inl j=>exact ⟨q2.1,by rw [e,q2.2];simp⟩
        | inr u=>simp only at q2 ⊢;rw [e,q2];simp [hq]
  obtain ⟨r,q1,q2⟩:=key l.length 0 (by omega)
  rw [show (0:Int)=((0:Nat):Int) from rfl,q1]
  cases r with
  | inl j=>simp only [List.drop_zero] at q2;simp [q2.1,q2.2]
  | inr u=>simp only [List.drop_zero] at q2;simp [q2]
theorem TU (l:List Rect) (s:Spot) (h:l.length≤9223372036854775806) (hb : -4194304≤s.X∧s.X≤4194304∧-4194304≤s.Y∧s.Y≤4194304):lW l s=some (xV l (s.X-1) (s.Y-1)&&(xV l s.X (s.Y-1)&&(xV l (s.X-1) s.Y&&xV l s.X s.Y))):=by
  unfold lW
  have b1:¬ s.X < -4194304:=by omega
  have b2:¬ s.X>4194304:=by omega
  have b3:¬ s.Y < -4194304:=by omega
  have b4:¬ s.Y>4194304:=by omega
  simp only [b1,b2,b3,b4,decide_false,Bool.false_eq_true,if_false,Option.bind_some]
  have hL:aD (tX l s) 0=some (if [(⟨s.X-1,s.Y-1,1,1⟩:Rect),⟨s.X,s.Y-1,1,1⟩,⟨s.X-1,s.Y,1,1⟩,⟨s.X,s.Y,1,1⟩].all (fun q=>xV l q.X q.Y) then .inr () else .inl ()):=by
   refine Io [(⟨s.X-1,s.Y-1,1,1⟩:Rect),⟨s.X,s.Y-1,1,1⟩,⟨s.X-1,s.Y,1,1⟩,⟨s.X,s.Y,1,1⟩] (tX l s) (fun q=>xV l q.X q.Y) (.inl ()) (.inr ()) (fun k q hq=>?_) ?_
   · have hk:=(List.getElem?_eq_some_iff.1 hq).1
     have h1:decide ((k:Int)<4)=true:=by simp at hk ⊢;omega
     have hwh:q.W=1∧q.H=1:=by
       have:=List.mem_of_getElem? hq
       simp only [List.mem_cons,List.not_mem_nil,or_false] at this
       rcases this with rfl | rfl | rfl | rfl <;> exact ⟨rfl,rfl⟩
     unfold tX
     rw [aT (by omega) (by omega),aT (by omega) (by omega)]
     simp only [List.length_cons,List.length_nil,Int.reduceAdd,Int.natCast_add,Int.cast_ofNat_Int,h1,if_true,aJ hq,Option.bind_some,hwh.1,hwh.2,FM l _ _ h]
     rw [aL (by simp at hk;omega) (by simp at hk;omega)]
     cases xV l q.X q.Y <;> rfl
   · unfold tX
     simp
  rw [hL]
  simp only [List.all_cons,List.all_nil,Bool.and_true,Option.bind_some]
  cases xV l (s.X-1) (s.Y-1)&&(xV l s.X (s.Y-1)&&(xV l (s.X-1) s.Y&&xV l s.X s.Y)) <;> rfl
theorem VX (l:List Rect) (x y:Int) (h:¬ (-1048576≤x∧x<1048576∧-1048576≤y∧y<1048576)):xV l x y=false:=by
  unfold xV
  rw [List.any_eq_false]
  intro r _
  simp only [decide_eq_true_eq]
  rintro ⟨hv,_⟩
  unfold vR at hv
  simp only at hv
  omega
theorem Om (l:List Rect) (s:Spot) (h:l.length≤9223372036854775806):∃ b,lW l s=some b∧fM l s=some b:=by
  by_cases hb : -4194304≤s.X∧s.X≤4194304∧-4194304≤s.Y∧s.Y≤4194304
  · refine ⟨_,TU l s h hb, ?_⟩
    unfold fM
    by_cases hn : -1048576<s.X∧s.X<1048576∧-1048576<s.Y∧s.Y<1048576
    · have b1:¬ s.X≤-1048576:=by omega
      have b2:¬ s.X ≥ 1048576:=by omega
      have b3:¬ s.Y≤-1048576:=by omega
      have b4:¬ s.Y ≥ 1048576:=by omega
      rw [aT (by omega) (by omega),aT (by omega) (by omega)]
      simp only [b1,b2,b3,b4,decide_false,Bool.false_eq_true,if_false,Option.bind_some,QQ l _ _ h]
      cases xV l s.X s.Y <;> cases xV l (s.X-1) s.Y <;> cases xV l s.X (s.Y-1) <;> cases xV l (s.X-1) (s.Y-1) <;> rfl
    · have hf:(xV l (s.X-1) (s.Y-1)&&(xV l s.X (s.Y-1)&&(xV l (s.X-1) s.Y&&xV l s.X s.Y)))=false:=by
        by_cases q:s.X≤-1048576∨s.Y≤-1048576
        · rw [VX l (s.X-1) (s.Y-1) (by omega)];rfl
        · rw [VX l s.X s.Y (by omega)];simp
      rw [hf]
      by_cases q1:s.X≤-1048576
      · simp [q1]
      · by_cases q2:s.X ≥ 1048576
        · simp [q1,q2]
        · by_cases q3:s.Y≤-1048576
          · simp [q1,q2,q3]
          · have q4:s.Y ≥ 1048576:=by omega
            simp [q1,q2,q3,q4]
  · refine ⟨false, ?_, ?_⟩
    · unfold lW
      by_cases q1:s.X < -4194304
      · simp [q1]
      · by_cases q2:s.X>4194304
        · simp [q1,q2]
        · by_cases q3:s.Y < -4194304
          · simp [q1,q2,q3]
          · have q4:s.Y>4194304:=by omega
            simp [q1,q2,q3,q4]
    · unfold fM
      by_cases q1:s.X≤-1048576
      · simp [q1]
      · by_cases q2:s.X ≥ 1048576
        · simp [q1,q2]
        · by_cases q3:s.Y≤-1048576
          · simp [q1,q2,q3]
          · have q4:s.Y ≥ 1048576:=by omega
            simp [q1,q2,q3,q4]
end Go.SM
namespace Go.SM
open Go Go.VI Go.Cells
theorem Ny {l:List Int} (h:l.Pairwise fun x y=>x<y) (hl:l.length≤10000) (n:Int) :
    ∃ r,iE n l=some r∧r.Pairwise (fun x y=>x<y)∧(∀ x,x ∈ r↔x ∈ l∨x=n)∧r.length≤l.length+1:=by
  obtain ⟨i',q1,i,rfl,hi,ha,hb⟩:=lX (fun s:Int=>s.toNat)
    (fun s:Int=>∃ k:Nat,s=k∧k≤l.length∧∀ x ∈ l.drop k,n<x)
    (fun r:Int=>∃ k:Nat,r=k∧k≤l.length∧(∀ x ∈ l.drop k,n<x)∧(0<k→∀ y,l[k-1]?=some y→y≤n)) (pG n l) (by
      rintro s ⟨k,rfl,hk,hI⟩
      unfold pG
      by_cases h0:0<k
      · obtain ⟨x,hx⟩:∃ x,l[k-1]?=some x:=⟨_,List.getElem?_eq_getElem (by omega)⟩
        have e1:aH (k:Int) 1=((k-1:Nat):Int):=by rw [aT (by omega) (by omega)];omega
        have d:decide ((k:Int)>0)=true:=by simp;omega
        simp only [d,if_true,e1,aJ hx,Option.bind_some]
        by_cases hg:x>n
        · left
          refine ⟨((k-1:Nat):Int),by simp [hg],⟨k-1,rfl,by omega,fun y hy=>?_⟩,by omega⟩
          rw [List.drop_eq_getElem_cons (show k-1<l.length by omega),show k-1+1=k by omega] at hy
          rcases List.mem_cons.1 hy with rfl | hy
          · rw [List.getElem?_eq_getElem (by omega)] at hx;injection hx with hx;rw [hx];exact hg
          · exact hI y hy
        · right
          refine ⟨(k:Int),by simp [hg],k,rfl,hk,hI,fun _ y hy=>?_⟩
          rw [hx] at hy;injection hy with hy;omega
      · right
        have d:decide ((k:Int)>0)=false:=by simp;omega
        exact ⟨(k:Int),by simp only [d,Bool.false_eq_true,if_false,Option.bind_some],k,rfl,hk,hI,fun q=>absurd q h0⟩) (l.length:Int) ⟨l.length,rfl,Nat.le_refl _,by simp⟩
  unfold iE
  rw [q1,Option.bind_some]
  have hj:∃ b:Bool,(if decide ((i:Int)>0) then (idx l (aH (i:Int) 1)).bind (fun x48=>some (x48==n)) else some false)=some b∧(b=true↔0<i∧l[i-1]?=some n):=by
    by_cases h0:0<i
    · obtain ⟨x,hx⟩:∃ x,l[i-1]?=some x:=⟨_,List.getElem?_eq_getElem (by omega)⟩
      have e1:aH (i:Int) 1=((i-1:Nat):Int):=by rw [aT (by omega) (by omega)];omega
      have d:decide ((i:Int)>0)=true:=by simp;omega
      refine ⟨x==n,by simp only [d,if_true,e1,aJ hx,Option.bind_some], ?_⟩
      rw [beq_iff_eq,hx]
      exact ⟨fun q=>⟨h0,by rw [q]⟩,fun q=>Option.some.inj q.2⟩
    · have d:decide ((i:Int)>0)=false:=by simp;omega
      exact ⟨false,by simp only [d,Bool.false_eq_true,if_false],by simp;omega⟩
  obtain ⟨b,hj1,hj2⟩:=hj
  rw [hj1,Option.bind_some]
  cases b with
  | true =>
    obtain ⟨h0,hn⟩:=hj2.1 rfl
    refine ⟨l,rfl,h,fun x=>⟨.inl,fun q=>q.elim id fun e=>by rw [e];exact List.mem_of_getElem? hn⟩,by omega⟩
  | false =>
    have hnot:¬ (0<i∧l[i-1]?=some n):=fun q=>by have:=hj2.2 q;cases this
    rw [if_neg (by simp),nA (by simp [LIM];omega)]
    have hlen:aH ((l++[0]).length:Int) 1=(l.length:Int):=by rw [List.length_append,List.length_singleton,aT (by omega) (by omega)];omega
    obtain ⟨r,t1,z,rfl⟩:=lX (fun s:Int×List Int=>(s.1-(i:Int)).toNat)
      (fun s:Int×List Int=>∃ j:Nat,s.1=j∧i≤j∧j≤l.length∧∃ z,s.2=l.take j++z::l.drop j)
      (fun r:List Int=>∃ z,r=l.take i++z::l.drop i) (pI (i:Int)) (by
        rintro ⟨s,c⟩ ⟨j,hs,hij,hjl,z,hc⟩
        simp only at hs hc
        subst hs hc
        unfold pI
        by_cases hg:i<j
        · left
          have d:decide ((j:Int)>(i:Int))=true:=by simp;omega
          have e1:aH (j:Int) 1=((j-1:Nat):Int):=by rw [aT (by omega) (by omega)];omega
          have ht:(l.take j).length=j:=by rw [List.length_take];omega
          have g1:(l.take j++z::l.drop j)[j-1]?=some (l[j-1]'(by omega)):=by
            rw [List.getElem?_append_left (by omega),List.getElem?_take,if_pos (by omega),List.getElem?_eq_getElem (by omega)]
          have g2:(l.take j++z::l.drop j)[j]?=some z:=by rw [List.getElem?_append_right (by omega),ht];simp
          simp only [d,if_true,e1,aJ g1,aJ g2,Option.bind_some,Int.toNat_natCast]
          refine ⟨_,rfl,⟨j-1,rfl,by omega,by omega,l[j-1]'(by omega), ?_⟩,by simp only;omega⟩
          simp only
          rw [List.set_append_right _ _ (by omega),ht]
          have e2:l.take j=l.take (j-1)++[l[j-1]'(by omega)]:=by
            conv=>lhs;rw [show j=(j-1)+1 by omega]
            rw [List.take_add_one,List.getElem?_eq_getElem (by omega)];rfl
          have e3:l.drop (j-1)=l[j-1]'(by omega)::l.drop j:=by
            rw [List.drop_eq_getElem_cons (show j-1<l.length by omega),show j-1+1=j by omega]
          rw [e2,e3,Nat.sub_self,List.set_cons_zero,List.append_assoc];rfl
        · right
          have d:decide ((j:Int)>(i:Int))=false:=by simp;omega
          obtain rfl:j=i:=by omega
          exact ⟨l.take j++z::l.drop j,by simp only [d,Bool.false_eq_true,if_false],z,rfl⟩) (aH ((l++[0]).length:Int) 1,l++[0]) ⟨l.length,hlen,hi,Nat.le_refl _,0,by simp⟩
    have ht:(l.take i).length=i:=by rw [List.length_take];omega
    have g2:(l.take i++z::l.drop i)[i]?=some z:=by rw [List.getElem?_append_right (by omega),ht];simp
    have e4:(l.take i++z::l.drop i).set i n=l.take i++n::l.drop i:=by rw [List.set_append_right _ _ (by omega),ht];simp
    simp only [Option.bind_some,t1,aJ g2,Int.toNat_natCast,e4]
    have hlow:∀ x ∈ l.take i,x<n:=fun x hx=>by
      rcases Nat.eq_zero_or_pos i with q | q
      · subst q;simp at hx
      · obtain ⟨y,hy⟩:∃ y,l[i-1]?=some y:=⟨_,List.getElem?_eq_getElem (by omega)⟩
        have hyn:y<n:=by
          have h1:=hb q y hy
          have h2:y≠n:=fun e=>hnot ⟨q,by rw [hy,e]⟩
          omega
        obtain ⟨k,hk⟩:=List.mem_iff_getElem?.1 hx
        have hkl:=aP hk
        rw [List.getElem?_take,if_pos (by omega)] at hk
        by_cases e:k=i-1
        · subst e;rw [hy] at hk;injection hk with hk;omega
        · have:=Qq h (show k<i-1 by omega) hk hy;omega
    refine ⟨_,rfl, ?_,fun x=>?_,by rw [List.length_append,List.length_cons,List.length_take,List.length_drop];omega⟩
    · have hp:=h
      rw [← List.take_append_drop i l,List.pairwise_append] at hp
      rw [List.pairwise_append,List.pairwise_cons]
      refine ⟨hp.1,⟨ha,hp.2.1⟩,fun x hx y hy=>?_⟩
      rcases List.mem_cons.1 hy with rfl | hy
      · exact hlow x hx
      · exact hp.2.2 x hx y hy
    · conv=>rhs;rw [← List.take_append_drop i l]
      simp only [List.mem_append,List.mem_cons]
      grind
theorem WE {l:List Rect} (hv:AC l) (hl:l.length≤400):∃ xs ys,vX l=some (xs,ys)∧Bf xs (xsL l)∧Bf ys (ysL l):=by
  obtain ⟨⟨xs,ys⟩,q1,⟨gx1,gx2⟩,⟨gy1,gy2⟩,lx,ly⟩:=uF l (fun k (s:List Int×List Int)=>((k:Int),s.1,s.2)) (mW l) (fun s=>(s.1,s.2)) (fun k s=>Bf s.1 (xsL (l.take k))∧Bf s.2 (ysL (l.take k))∧s.1.length≤2*k∧s.2.length≤2*k) ([],[])
    ⟨⟨.nil,by simp [xsL]⟩,⟨.nil,by simp [ysL]⟩,by simp,by simp⟩
    (fun k r s hr hI=>by
      obtain ⟨⟨a1,a2⟩,⟨b1,b2⟩,la,lb⟩:=hI
      have h1:=aP hr
      have hd:decide ((k:Int)<(l.length:Int))=true:=by simp [h1]
      obtain ⟨e1,e2⟩:=EP (hv r (List.mem_of_getElem? hr))
      obtain ⟨c1,i1,p1,m1,n1⟩:=Ny a1 (by omega) r.X
      obtain ⟨c2,i2,p2,m2,n2⟩:=Ny p1 (by omega) (r.X+r.W)
      obtain ⟨c3,i3,p3,m3,n3⟩:=Ny b1 (by omega) r.Y
      obtain ⟨c4,i4,p4,m4,n4⟩:=Ny p3 (by omega) (r.Y+r.H)
      unfold mW
      simp only [hd,if_true,aJ hr,Option.bind_some,e1,e2,i1,i2,i3,i4,aS k (by omega)]
      refine ⟨(c2,c4),rfl,⟨p2,fun x=>?_⟩,⟨p4,fun x=>?_⟩,by simp only;omega,by simp only;omega⟩
      · rw [m2,m1,a2,mZ hr,Qm]
        simp [xsL,or_assoc]
      · rw [m4,m3,b2,mZ hr,Qn]
        simp [ysL,or_assoc]) (fun s _=>by simp [mW])
  rw [List.take_length] at gx2 gy2
  simp only at gx1 gx2 gy1 gy2
  refine ⟨xs,ys, ?_,⟨gx1,gx2⟩,⟨gy1,gy2⟩⟩
  unfold vX
  rw [show ((0:Int),([]:List Int),([]:List Int))=(((0:Nat):Int),(([],[]):List Int×List Int).1,(([],[]):List Int×List Int).2) from rfl,q1]
  rfl
end Go.SM
namespace Go.SM
open Go Go.VI
theorem UL {s sub:List UInt8} {i:Nat} (hne:sub≠[]) (h:Go.Lib.occAt s sub i=true):i+sub.length≤s.length:=by
  rcases Go.Lib.occAt_room h with h' | h'
  · omega
  · exact absurd h' hne
theorem Xy {s sub:List UInt8} (hne:sub≠[]):Go.Lib.contains s sub=(List.range (s.length+1-sub.length)).any (Go.Lib.occAt s sub):=by
  unfold Go.Lib.contains
  rcases Go.Lib.index_spec s sub with ⟨h1,h2⟩ | ⟨i,h1,h2,h3,h4⟩
  · rw [h1]
    have:(List.range (s.length+1-sub.length)).any (Go.Lib.occAt s sub)=false:=by
      rw [List.any_eq_false];intro j hj
      rw [h2 j (by have:=List.mem_range.1 hj;omega)];simp
    rw [this];rfl
  · rw [h1]
    have:(List.range (s.length+1-sub.length)).any (Go.Lib.occAt s sub)=true:=List.any_eq_true.2 ⟨i,List.mem_range.2 (by have:=UL hne h3;omega),h3⟩
    rw [this];simp
theorem Xi {a b:ByteArray} (h:a.size+b.size≤9223372036854775807):Wm a b=some (a++b):=by unfold Wm;rw [if_pos h]
theorem PI (T s1:ByteArray) (hT:T.size<4294967281) (hs:s1.size≤8):tL T s1=some (Go.Lib.contains T.data.toList ((ByteArray.mk #[32]++s1)++ByteArray.mk #[32]).data.toList):=by
  have hsz:((ByteArray.mk #[32]++s1)++ByteArray.mk #[32]).size=s1.size+2:=by
    rw [ByteArray.size_append,ByteArray.size_append];show 1+s1.size+1=_;omega
  have hsub:s1.size+2=((ByteArray.mk #[32]++s1)++ByteArray.mk #[32]).data.toList.length:=by rw [← hsz];rfl
  have hne:((ByteArray.mk #[32]++s1)++ByteArray.mk #[32]).data.toList≠[]:=by
    intro h;rw [h] at hsub;simp at hsub
  have e1:Wm (ByteArray.mk #[32]) s1=some (ByteArray.mk #[32]++s1):=Xi (by show 1+s1.size≤_;omega)
  have e2:Wm (ByteArray.mk #[32]++s1) (ByteArray.mk #[32])=some ((ByteArray.mk #[32]++s1)++ByteArray.mk #[32]):=Xi (by rw [ByteArray.size_append];show 1+s1.size+1≤_;omega)
  generalize (ByteArray.mk #[32]++s1)++ByteArray.mk #[32]=W at hsz hsub hne e2 ⊢
  rw [Xy hne]
  have hTl:T.data.toList.length=T.size:=rfl
  have key:aD (iH T s1) 0=some (if (List.range (T.data.toList.length+1-W.data.toList.length)).any (Go.Lib.occAt T.data.toList W.data.toList) then .inl () else .inr ()):=by
    refine jP _ (iH T s1) (fun k=>(k:Int)) _ _ _ rfl (fun k hk=>?_) ?_
    · unfold iH
      rw [hTl,← hsub] at hk
      rw [aL (a:=(k:Int)) (by omega) (by omega),aL (b:=2) (by omega) (by omega)]
      have h1:decide ((k:Int)+(s1.size:Int)+2≤(T.size:Int))=true:=by simp;omega
      simp only [h1,if_true]
      have e3:F5 T k ((k:Int)+(s1.size:Int)+2)=some (T.extract k (k+W.size)):=by
        unfold F5
        rw [if_pos (by omega)]
        have:((k:Int)+(s1.size:Int)+2).toNat=k+W.size:=by omega
        rw [this];simp
      rw [e3]
      simp only [Option.bind_some,e1,e2]
      rw [Go.Lib.occ_of_piece T W k (by omega),aL (a:=(k:Int)) (by omega) (by omega)]
      cases (T.extract k (k+W.size)).toList==W.toList <;> simp
    · unfold iH
      rw [hTl,← hsub]
      rw [aL (b:=(s1.size:Int)) (by omega) (by omega),aL (b:=2) (by omega) (by omega)]
      have h1:decide (((T.size+1-(s1.size+2):Nat):Int)+(s1.size:Int)+2≤(T.size:Int))=false:=by simp;omega
      simp only [h1];rfl
  unfold tL
  rw [key]
  cases (List.range (T.data.toList.length+1-W.data.toList.length)).any (Go.Lib.occAt T.data.toList W.data.toList) <;> rfl
def ZR (x:Int):Bool:=decide (¬ (97≤x∧x≤122)∧(x<48∨x>57))
theorem EL {s:ByteArray} {k:Nat} (h:k<s.size):Me s (k:Int)=some ((s[k].toNat:Nat):Int):=by
  unfold Me
  rw [if_pos (Int.natCast_nonneg k),Int.toNat_natCast]
  simp [h]
def ZT (s:ByteArray):Bool:=(List.range s.size).any fun k=>if h:k<s.size then ZR s[k].toNat else false
theorem PU (s:ByteArray) (hs:s.size≤8):aD (qK s) 0=some (if ZT s then .inl () else .inr ()):=by
  refine jP s.size (qK s) (fun k=>(k:Int)) _ _ _ rfl (fun k hk=>?_) ?_
  · unfold qK
    have h1:decide ((k:Int)<(s.size:Int))=true:=by simp;omega
    simp only [h1,if_true,EL hk,Option.bind_some,dif_pos hk]
    rw [aL (a:=(k:Int)) (by omega) (by omega)]
    generalize ((s[k].toNat:Nat):Int)=x
    unfold ZR
    by_cases q1:x<97
    · have:¬ (97≤x∧x≤122):=by omega
      by_cases q2:x<48
      · simp [q1,q2]
      · by_cases q3:x>57 <;> simp [q1,q2,q3]
    · by_cases q4:x>122
      · have q5:¬ x<48:=by omega
        have q6:x>57:=by omega
        simp [q1,q4,q5,q6]
      · simp [q1,q4]
  · simp [qK]
theorem KX (s:ByteArray) (hs:s.size≤8):aD (fH s) 0=some (if ZT s then .inl () else .inr ()):=by
  refine jP s.size (fH s) (fun k=>(k:Int)) _ _ _ rfl (fun k hk=>?_) ?_
  · unfold fH
    have h1:decide ((k:Int)<(s.size:Int))=true:=by simp;omega
    simp only [h1,if_true,EL hk,Option.bind_some,dif_pos hk]
    rw [aL (a:=(k:Int)) (by omega) (by omega)]
    generalize ((s[k].toNat:Nat):Int)=x
    unfold ZR
    by_cases q1:x ≥ 97
    · by_cases q4:x≤122
      · simp [q1,q4]
      · have q5:¬ x<48:=by omega
        have q6:x>57:=by omega
        simp [q1,q4,q5,q6]
    · by_cases q2:x<48
      · simp [q1,q2]
      · by_cases q3:x>57 <;> simp [q1,q2,q3]
  · simp [fH]
theorem Name_same (s:ByteArray):∃ b,kL s=some b∧fF s=some b:=by
  unfold kL fF yM wZ
  by_cases h1:(s.size:Int)<1
  · exact ⟨false,by simp [h1],by simp [show ¬ (s.size:Int) ≥ 1 by omega]⟩
  by_cases h2:(s.size:Int)>8
  · exact ⟨false,by simp [h1,h2],by simp [show (s.size:Int) ≥ 1 by omega,show ¬ (s.size:Int)≤8 by omega]⟩
  have g1:(s.size:Int) ≥ 1:=by omega
  have g2:(s.size:Int)≤8:=by omega
  have e0:Me s 0=some ((s[0]'(by omega)).toNat:Int):=EL (k:=0) (by omega)
  generalize ((s[0]'(by omega)).toNat:Int)=x at e0
  by_cases h3:x<97
  · exact ⟨false,by simp [h1,h2,e0,h3],by simp only [g1,g2,decide_true,if_true,Option.bind_some,e0,h3]⟩
  by_cases h4:x>122
  · exact ⟨false,by simp [h1,h2,e0,h3,h4],by simp only [g1,g2,decide_true,if_true,Option.bind_some,e0,h3,h4,decide_false,Bool.false_eq_true,if_false]⟩
  simp only [g1,g2,h1,h2,h3,h4,decide_true,decide_false,if_true,Bool.false_eq_true,if_false,Option.bind_some,e0,PU s (by omega),KX s (by omega)]
  cases ZT s with
  | true=>exact ⟨false,rfl,rfl⟩
  | false =>
    have e1:Wm (ByteArray.mk #[32]) s=some (ByteArray.mk #[32]++s):=Xi (by show 1+s.size≤_;omega)
    have e2:Wm (ByteArray.mk #[32]++s) (ByteArray.mk #[32])=some ((ByteArray.mk #[32]++s)++ByteArray.mk #[32]):=Xi (by rw [ByteArray.size_append];show 1+s.size+1≤_;omega)
    simp only [Bool.false_eq_true,if_false,e1,e2,Option.bind_some]
    unfold uU
    rw [PI _ s (by decide +kernel) (by omega),if_pos (by decide +kernel)]
    exact ⟨_,rfl,rfl⟩
end Go.SM
namespace Go.SM
open Go Go.VI
theorem DU (n lo hi:Int):zX n lo hi=some (decide (lo≤n∧n≤hi)):=by
  unfold zX
  by_cases h1:lo≤n <;> simp [h1]
theorem Lu (g r:Int):Eh g r=some (decide ((1≤g∧g≤60)∧0≤r∧r≤2)):=by
  unfold Eh
  simp only [DU,Option.bind_some]
  by_cases h1:1≤g∧g≤60
  · simp [h1]
  · simp only [h1,decide_false,false_and];rfl
theorem IZ {n m:ByteArray} {a b:Bool} (hn:fF n=some a) (hm:fF m=some b) (g r:Int):oO n m g r=some (if a&&b then (if (1≤g∧g≤60)∧0≤r∧r≤2 then 0 else 1) else 2):=by
  unfold oO
  rw [hn,hm]
  cases a
  · rfl
  · cases b
    · rfl
    · by_cases h1:g<1
      · have:¬ ((1≤g∧g≤60)∧0≤r∧r≤2):=by omega
        simp [h1,this]
      · by_cases h2:g>60
        · have:¬ ((1≤g∧g≤60)∧0≤r∧r≤2):=by omega
          simp [h1,h2,this]
        · by_cases h3:r<0
          · have:¬ ((1≤g∧g≤60)∧0≤r∧r≤2):=by omega
            simp [h1,h2,h3,this]
          · by_cases h4:r>2
            · have:¬ ((1≤g∧g≤60)∧0≤r∧r≤2):=by omega
              simp [h1,h2,h3,h4,this]
            · have:((1≤g∧g≤60)∧0≤r∧r≤2):=by omega
              simp [h1,h2,h3,h4,this]
theorem valid_eq (l:List Rect) (hl:l.length≤9223372036854775806):vT l=some (!(l.any fun x=>!decide (vR x))):=by
  have key:aD (wW l) 0=some (if (l.any fun x=>!decide (vR x)) then .inl () else .inr ()):=by
    refine fK l (wW l) (fun k=>(k:Int)) _ _ _ rfl (fun k x hx=>?_) ?_
    · have hk:=(List.getElem?_eq_some_iff.1 hx).1
      unfold wW
      have h1:decide ((k:Int)<(l.length:Int))=true:=by simp;omega
      simp only [h1,if_true,aJ hx,Option.bind_some,tF]
      rw [aL (a:=(k:Int)) (by omega) (by omega)]
      rfl
    · simp [wW]
  unfold vT
  rw [key]
  cases (l.any fun x=>!decide (vR x)) <;> rfl
theorem Dc (l:List Rect) (hl:l.length≤9223372036854775806):dM l=some (!(l.any fun x=>!decide (vR x))):=by
  have key:aD (iI l) 0=some (if (l.any fun x=>!decide (vR x)) then .inl () else .inr ()):=by
    refine fK l (iI l) (fun k=>(k:Int)) _ _ _ rfl (fun k x hx=>?_) ?_
    · have hk:=(List.getElem?_eq_some_iff.1 hx).1
      unfold iI
      have h1:decide ((k:Int)<(l.length:Int))=true:=by simp;omega
      simp only [h1,if_true,aJ hx,Option.bind_some,Kv]
      rw [aL (a:=(k:Int)) (by omega) (by omega)]
      rfl
    · simp [iI]
  unfold dM
  rw [key]
  cases (l.any fun x=>!decide (vR x)) <;> rfl
def outs (r:Rect) (l:List Rect):Bool:=l.any fun x=>!decide (uI x r)
theorem TR (r:Rect×Bool) (l:List Rect) (hl:l.length≤9223372036854775806):aD (lC r l) 0=some (if outs r.1 l then .inl () else .inr ()):=by
  refine fK l (lC r l) (fun k=>(k:Int)) _ _ _ rfl (fun k x hx=>?_) ?_
  · have hk:=(List.getElem?_eq_some_iff.1 hx).1
    unfold lC
    have h1:decide ((k:Int)<(l.length:Int))=true:=by simp;omega
    simp only [h1,if_true,aJ hx,Option.bind_some,Td]
    rw [aL (a:=(k:Int)) (by omega) (by omega)]
    rfl
  · simp [lC]
theorem BU (s:Sheet) (l:List Rect) (hl:l.length≤9223372036854775806):nJ s l=some (!(outs ⟨0,0,s.Width,s.Height⟩ l)):=by
  have key:aD (iJ s l) 0=some (if outs ⟨0,0,s.Width,s.Height⟩ l then .inl () else .inr ()):=by
    refine fK l (iJ s l) (fun k=>(k:Int)) _ _ _ rfl (fun k x hx=>?_) ?_
    · have hk:=(List.getElem?_eq_some_iff.1 hx).1
      unfold iJ
      have h1:decide ((k:Int)<(l.length:Int))=true:=by simp;omega
      simp only [h1,if_true,aJ hx,Option.bind_some,Tf]
      rw [aL (a:=(k:Int)) (by omega) (by omega)]
      rfl
    · simp [iJ]
  unfold nJ
  rw [key]
  cases outs ⟨0,0,s.Width,s.Height⟩ l <;> rfl
theorem TS (s:Sheet) (r:Rect×Bool) (h1:s.Clamps.length≤9223372036854775806) (h2:s.Used.length≤9223372036854775806):aD (lD s r) 0=some (if outs r.1 s.Clamps || outs r.1 s.Used then .inl () else .inr ()):=by
  have:=fK [s.Clamps,s.Used] (lD s r) (fun k=>(k:Int)) (fun l=>outs r.1 l) (.inr ()) (.inl ()) rfl (fun k x hx=>?_) ?_
  · refine this.trans ?_;simp
  · have hk:=(List.getElem?_eq_some_iff.1 hx).1
    unfold lD
    have hm:x=s.Clamps∨x=s.Used:=by have:=List.mem_of_getElem? hx;simpa using this
    have hl:x.length≤9223372036854775806:=by rcases hm with rfl | rfl <;> assumption
    have h3:decide ((k:Int)<(([s.Clamps,s.Used]:List (List Rect)).length:Int))=true:=by rw [decide_eq_true_eq];exact Int.ofNat_lt.2 hk
    simp only [h3,if_true,aJ hx,Option.bind_some,TR r x hl]
    have hk':k<2:=hk
    rw [aL (a:=(k:Int)) (by omega) (by omega)]
    cases outs r.1 x <;> simp
  · simp [lD]
theorem Xo (s:Sheet):∃ b,jN s=some b∧mK s=some b:=by
  obtain ⟨a,ha,ha'⟩:=Name_same s.Name
  obtain ⟨b,hb,hb'⟩:=Name_same s.Material
  unfold jN mK
  rw [ha,hb,IZ ha' hb']
  cases a with
  | false=>exact ⟨2,rfl,rfl⟩
  | true =>
  cases b with
  | false=>exact ⟨2,rfl,rfl⟩
  | true =>
  simp only [Option.bind_some,Lu,DU,Bool.and_self,if_true,Bool.not_true,Bool.false_eq_true,if_false]
  by_cases h1:(1≤s.Gauge∧s.Gauge≤60)∧0≤s.Grain∧s.Grain≤2
  · simp only [h1,and_self,decide_true,if_true,Option.bind_some]
    by_cases h2:1≤s.Width∧s.Width≤1048576
    · by_cases h3:1≤s.Height∧s.Height≤1048576
      · have q1:¬ s.Width<1:=by omega
        have q2:¬ s.Width>1048576:=by omega
        have q3:¬ s.Height<1:=by omega
        have q4:¬ s.Height>1048576:=by omega
        simp only [h2,h3,q1,q2,q3,q4,and_self,decide_true,decide_false,if_true,Option.bind_some,Bool.not_true,Bool.false_eq_true,if_false,bne_self_eq_false]
        by_cases h4:(s.Clamps.length:Int)>4
        · exact ⟨4,by simp [h4],by simp [h4]⟩
        by_cases h5:(s.Used.length:Int)>48
        · exact ⟨4,by simp [h5],by simp [h5]⟩
        simp only [h4,h5,decide_false,Bool.false_eq_true,if_false,Option.bind_some,valid_eq s.Clamps (by omega),valid_eq s.Used (by omega),Dc s.Clamps (by omega),Dc s.Used (by omega),BU s s.Clamps (by omega),BU s s.Used (by omega)]
        cases (s.Clamps.any fun x=>!decide (vR x)) with
        | true=>exact ⟨1,rfl,rfl⟩
        | false =>
        cases (s.Used.any fun x=>!decide (vR x)) with
        | true=>exact ⟨1,rfl,rfl⟩
        | false =>
        have hi:Jk s 0=some (⟨0,0,s.Width,s.Height⟩,decide (vR ⟨0,0,s.Width,s.Height⟩)):=by
          unfold Jk
          rw [tF]
          have e0:lL 2 0=0:=by rw [Nw (by omega) (by omega)];rfl
          rw [e0,aT (by omega) (by omega),aT (by omega) (by omega),Int.sub_zero,Int.sub_zero]
          rfl
        simp only [hi,Option.bind_some,TS s _ (show s.Clamps.length≤_ by omega) (show s.Used.length≤_ by omega),Bool.not_false,if_true,Bool.not_true,Bool.false_eq_true,if_false]
        cases outs ⟨0,0,s.Width,s.Height⟩ s.Clamps with
        | true=>exact ⟨13,rfl,rfl⟩
        | false =>
        cases outs ⟨0,0,s.Width,s.Height⟩ s.Used with
        | true=>exact ⟨13,rfl,rfl⟩
        | false=>exact ⟨0,rfl,rfl⟩
      · refine ⟨1,by simp [h2,h3], ?_⟩
        by_cases q3:s.Height<1
        · simp [q3]
        · have q4:s.Height>1048576:=by omega
          simp [q3,q4]
    · refine ⟨1,by simp [h2], ?_⟩
      by_cases q3:s.Width<1
      · simp [q3]
      · have q4:s.Width>1048576:=by omega
        simp [q3,q4]
  · exact ⟨1,by simp only [h1,decide_false];rfl,by simp only [h1,if_false];rfl⟩
end Go.SM
namespace Go.SM
open Go Go.VI
def cnt (l:List Bool):Nat:=l.countP (·==true)
theorem MC {l:List Bool} {k:Nat} (h:l[k]?=some false):cnt (l.set k true)=cnt l+1:=by
  unfold cnt
  have hk:=(List.getElem?_eq_some_iff.1 h).1
  have hv:=(List.getElem?_eq_some_iff.1 h).2
  rw [List.countP_set hk]
  simp [hv]
theorem WP {l:List Bool} (h:cnt l=l.length):∀ x ∈ l,x=true:=by
  have:=List.countP_eq_length.1 h
  intro x hx;simpa using this x hx
theorem Vs (a b:Rect):xA a b=Ei a b:=rfl
theorem LU (a b:Rect):∃ t,Ei a b=some t:=by
  unfold Ei
  split
  · split
    · exact ⟨_,rfl⟩
    · split <;> exact ⟨_,rfl⟩
  · split <;> exact ⟨_,rfl⟩
theorem OH {l:List Rect} (hl:l.length≤1000) {x:Int} {r:Rect} (hx:idx l x=some r) {i:Nat} {b0:Bool×Unit} :
    ∀ (m k:Nat) (seen:List Bool) (w0 l0 ext:List Int) (s:Int×List Bool×List Int),k+m=l.length→seen.length=l.length→l0[i]?=some x→s.1=(i:Int)→w0.length+ext.length≤1000000-m→l0.length+ext.length≤1000000-m →
      ∃ seen' ext',aD (kK l x) ((k:Int),seen,w0++ext)=some (seen',w0++ext')∧aD (bQ l s) ((k:Int),seen,l0++ext)=some (seen',l0++ext')∧seen'.length=l.length∧cnt seen'+ext.length=cnt seen+ext'.length∧(∀ y ∈ ext',y ∈ ext∨(0≤y∧y<l.length)):=by
  intro m
  induction m with
  | zero =>
    intro k seen w0 l0 ext s hk hs hi hsi h1 h2
    obtain rfl:k=l.length:=by omega
    refine ⟨seen,ext,dD ?_,dD ?_,hs,rfl,fun y hy=>.inl hy⟩
    · simp [kK]
    · simp [bQ]
  | succ m ih =>
    intro k seen w0 l0 ext s hk hs hi hsi h1 h2
    have hkl:k<l.length:=by omega
    have hy:l[k]?=some l[k]:=by simp
    have hsn:seen[k]?=some seen[k]:=by simp [hs,hkl]
    have hle:i<l0.length:=(List.getElem?_eq_some_iff.1 hi).1
    have hi':∀ e:List Int,(l0++e)[i]?=some x:=fun e=>by rw [List.getElem?_append_left hle];exact hi
    have hd:decide ((k:Int)<(l.length:Int))=true:=by simp;omega
    have e1:aF (k:Int) 1=((k+1:Nat):Int):=by rw [aL (by omega) (by omega)];rfl
    obtain ⟨t,ht⟩:=LU r l[k]
    by_cases hb:seen[k]=true
    · obtain ⟨seen',ext',p1,p2,p3⟩:=ih (k+1) seen w0 l0 ext s (by omega) hs hi hsi (by omega) (by omega)
      refine ⟨seen',ext', ?_, ?_,p3⟩
      · rw [jJ (s':=(((k+1:Nat):Int),seen,w0++ext))]
        · exact p1
        · unfold kK mR
          simp only [hd,if_true,aJ hsn,hb,Option.bind_some,Bool.false_eq_true,if_false,e1]
      · rw [jJ (s':=(((k+1:Nat):Int),seen,l0++ext))]
        · exact p2
        · unfold bQ fI
          simp only [hd,if_true,aJ hsn,hb,Option.bind_some,Bool.false_eq_true,if_false,e1]
    · have hb':seen[k]=false:=by simpa using hb
      cases t with
      | false =>
        obtain ⟨seen',ext',p1,p2,p3⟩:=ih (k+1) seen w0 l0 ext s (by omega) hs hi hsi (by omega) (by omega)
        refine ⟨seen',ext', ?_, ?_,p3⟩
        · rw [jJ (s':=(((k+1:Nat):Int),seen,w0++ext))]
          · exact p1
          · unfold kK mR
            simp only [hd,if_true,aJ hsn,aJ hy,hx,ht,hb',Option.bind_some,Bool.false_eq_true,if_false,e1]
        · rw [jJ (s':=(((k+1:Nat):Int),seen,l0++ext))]
          · exact p2
          · unfold bQ fI
            simp only [hd,if_true,aJ hsn,aJ hy,hsi,aJ (hi' ext),hx,Vs,ht,hb',Option.bind_some,Bool.false_eq_true,if_false,e1]
      | true =>
        have hset:(seen.set k true).length=l.length:=by rw [List.length_set];exact hs
        obtain ⟨seen',ext',p1,p2,p3,p4,p5⟩:=ih (k+1) (seen.set k true) w0 l0 (ext++[(k:Int)]) s (by omega) hset hi hsi (by simp;omega) (by simp;omega)
        have a1:app (w0++ext) [(k:Int)]=some (w0++(ext++[(k:Int)])):=by rw [nA (by unfold LIM;simp;omega),List.append_assoc]
        have a2:app (l0++ext) [(k:Int)]=some (l0++(ext++[(k:Int)])):=by rw [nA (by unfold LIM;simp;omega),List.append_assoc]
        refine ⟨seen',ext', ?_, ?_,p3, ?_,fun y hy'=>?_⟩
        · rw [jJ (s':=(((k+1:Nat):Int),seen.set k true,w0++(ext++[(k:Int)])))]
          · exact p1
          · unfold kK mR
            simp only [hd,if_true,aJ hsn,aJ hy,hx,ht,hb',Option.bind_some,Bool.false_eq_true,if_false,e1,a1,Int.toNat_natCast]
        · rw [jJ (s':=(((k+1:Nat):Int),seen.set k true,l0++(ext++[(k:Int)])))]
          · exact p2
          · unfold bQ fI
            simp only [hd,if_true,aJ hsn,aJ hy,hsi,aJ (hi' ext),hx,Vs,ht,hb',Option.bind_some,Bool.false_eq_true,if_false,e1,a2,Int.toNat_natCast]
        · rw [MC (by rw [hsn,hb'])] at p4
          simp at p4;omega
        · rcases p5 y hy' with h | h
          · rcases List.mem_append.1 h with h | h
            · exact .inl h
            · right;rw [List.mem_singleton.1 h];omega
          · exact .inr h
theorem OI {l:List Rect} (hl:l.length≤1000):∀ (m i:Nat) (seen:List Bool) (q:List Int),i+m=l.length→i≤q.length→seen.length=l.length→cnt seen=q.length→(∀ y ∈ q,0≤y∧y<l.length) →
    ∃ seen' q',aD (mU l) (seen,q.drop i)=some seen'∧aD (dH l) ((i:Int),seen,q)=some q'∧seen'.length=l.length∧cnt seen'=q'.length:=by
  intro m
  induction m with
  | zero =>
    intro i seen q him hiq hs hc hq
    have hcl:cnt seen≤seen.length:=List.countP_le_length
    obtain rfl:i=q.length:=by omega
    refine ⟨seen,q,dD ?_,dD ?_,hs,hc⟩
    · simp [mU]
    · simp [dH]
  | succ m ih =>
    intro i seen q him hiq hs hc hq
    have hcl:cnt seen≤seen.length:=List.countP_le_length
    by_cases hlt:i<q.length
    · have hx:q[i]?=some q[i]:=by simp
      have hxm:=hq q[i] (List.getElem_mem hlt)
      have ed:q.drop i=q[i]::q.drop (i+1):=List.drop_eq_getElem_cons hlt
      have hr:idx l q[i]=some (l[q[i].toNat]'(by omega)):=by
        unfold idx;rw [if_pos hxm.1];simp [show q[i].toNat<l.length by omega]
      obtain ⟨seen',ext',p1,p2,p3,p4,p5⟩:=OH hl hr (b0:=(true,())) l.length 0 seen (q.drop (i+1)) q [] ((i:Int),seen,q) (by omega) hs hx rfl (by simp;omega) (by simp;omega)
      simp only [List.append_nil,List.length_nil,Nat.add_zero] at p1 p2 p4
      obtain ⟨seen2,q2,r1,r2,r3⟩:=ih (i+1) seen' (q++ext') (by omega) (by simp;omega) p3 (by simp;omega) (fun y hy=>by
        rcases List.mem_append.1 hy with h | h
        · exact hq y h
        · rcases p5 y h with h | h
          · exact absurd h (by simp)
          · exact h)
      refine ⟨seen2,q2, ?_, ?_,r3⟩
      · rw [jJ (s':=(seen',(q++ext').drop (i+1)))]
        · exact r1
        · unfold mU
          have e0:idx (q.drop i) 0=some q[i]:=by rw [ed];rfl
          have e2:List.drop 1 (q.drop i)=q.drop (i+1):=by rw [List.drop_drop]
          have h1:decide (((q.drop i).length:Int)>0)=true:=by rw [ed];simp;omega
          have h2:decide (1≤(q.drop i).length)=true:=by rw [decide_eq_true_eq,List.length_drop];omega
          simp only [h1,if_true,e0,Option.bind_some,h2,e2]
          have p1':aD (kK l q[i]) (0,seen,List.drop (i+1) q)=some (seen',List.drop (i+1) q++ext'):=p1
          rw [p1',List.drop_append_of_le_length (by omega)]
          rfl
      · rw [jJ (s':=(((i+1:Nat):Int),seen',q++ext'))]
        · exact r2
        · unfold dH
          have h1:decide ((i:Int)<(q.length:Int))=true:=by simp;omega
          have p2':aD (bQ l ((i:Int),seen,q)) (0,seen,q)=some (seen',q++ext'):=p2
          simp only [h1,if_true,p2',Option.bind_some]
          rw [aL (by omega) (by omega)]
          rfl
    · obtain rfl:i=q.length:=by omega
      refine ⟨seen,q,dD ?_,dD ?_,hs,hc⟩
      · simp [mU]
      · simp [dH]
theorem SF (l:List Bool) (hl:l.length≤1000):aD (qJ l) 0=some (if l.any (fun x=>!x) then .inl () else .inr ()):=by
  refine fK l (qJ l) (fun k=>(k:Int)) _ _ _ rfl (fun k x hx=>?_) ?_
  · have hk:=(List.getElem?_eq_some_iff.1 hx).1
    unfold qJ
    have h1:decide ((k:Int)<(l.length:Int))=true:=by simp;omega
    simp only [h1,if_true,aJ hx,Option.bind_some]
    rw [aL (a:=(k:Int)) (by omega) (by omega)]
    rfl
  · simp [qJ]
theorem Xx {l:List Rect} (hl:l.length≤1000) (h0:0<l.length):∃ b,yJ l=some b∧pF l=some b:=by
  have hmk:mk (l.length:Int) false=some (List.replicate l.length false):=by
    unfold mk;rw [if_pos (by unfold LIM;omega)];simp
  have hf:(List.replicate l.length false)[0]?=some false:=by simp [h0]
  have hc:cnt ((List.replicate l.length false).set 0 true)=1:=by
    rw [MC hf];unfold cnt;simp [List.countP_replicate]
  obtain ⟨seen',q',p1,p2,p3,p4⟩:=OI hl l.length 0 ((List.replicate l.length false).set 0 true) [0] (by omega) (by simp) (by simp) (by rw [hc];rfl) (by simp;omega)
  unfold yJ pF
  have i0:idx (List.replicate l.length false) 0=some false:=aJ (k:=0) hf
  have p1':aD (mU l) ((List.replicate l.length false).set (Int.toNat 0) true,[0])=some seen':=p1
  have p2':aD (dH l) (0,(List.replicate l.length false).set (Int.toNat 0) true,[0])=some q':=p2
  simp only [hmk,Option.bind_some,i0,p1',p2',SF seen' (by omega)]
  refine ⟨_, ?_,rfl⟩
  by_cases ha:seen'.any (fun x=>!x)=true
  · have:¬ (q'.length:Int)=(l.length:Int):=by
      intro h
      obtain ⟨x,hx,hn⟩:=List.any_eq_true.1 ha
      have:=WP (l:=seen') (by omega) x hx
      subst this;simp at hn
    simp [ha,this]
  · have:(q'.length:Int)=(l.length:Int):=by
      rw [← p4,← p3]
      congr 1
      unfold cnt
      rw [List.countP_eq_length]
      intro x hx
      by_cases h:x=true
      · simp [h]
      · exact absurd (List.any_eq_true.2 ⟨x,hx,by simpa using h⟩) ha
    rw [this]
    simp only [ha,Bool.false_eq_true,if_false,beq_self_eq_true,Option.bind_some]
end Go.SM
namespace Go.SM
open Go Go.VI
def Au (h x:Rect):Bool:=if h.X>x.X then (if h.Y>x.Y then (if aF h.X h.W<aF x.X x.W then decide (aF h.Y h.H<aF x.Y x.H) else false) else false) else false
theorem IY (h:Rect) (l:List Rect) (hl:l.length≤1000):wV h l=some (l.any (Au h)):=by
  have key:aD (sO h l) 0=some (if l.any (Au h) then .inl () else .inr ()):=by
    refine fK l (sO h l) (fun k=>(k:Int)) _ _ _ rfl (fun k x hx=>?_) ?_
    · have hk:=(List.getElem?_eq_some_iff.1 hx).1
      unfold sO
      have h1:decide ((k:Int)<(l.length:Int))=true:=by simp;omega
      simp only [h1,if_true,aJ hx,Option.bind_some]
      rw [aL (a:=(k:Int)) (by omega) (by omega)]
      unfold Au
      by_cases q1:h.X>x.X
      · by_cases q2:h.Y>x.Y
        · by_cases q3:aF h.X h.W<aF x.X x.W
          · by_cases q4:aF h.Y h.H<aF x.Y x.H <;> simp [q1,q2,q3,q4]
          · simp [q1,q2,q3]
        · simp [q1,q2]
      · simp [q1]
    · simp [sO]
  unfold wV
  rw [key]
  cases l.any (Au h) <;> rfl
theorem WV (h:Rect) (l:List Rect) (hl:l.length≤1000):vY h l=some (l.any (Au h)):=by
  have key:aD (jQ h l) 0=some (if l.any (Au h) then .inl () else .inr ()):=by
    refine fK l (jQ h l) (fun k=>(k:Int)) _ _ _ rfl (fun k x hx=>?_) ?_
    · have hk:=(List.getElem?_eq_some_iff.1 hx).1
      unfold jQ
      have h1:decide ((k:Int)<(l.length:Int))=true:=by simp;omega
      simp only [h1,if_true,aJ hx,Option.bind_some]
      rw [aL (a:=(k:Int)) (by omega) (by omega)]
      unfold Au
      by_cases q1:h.X>x.X
      · by_cases q2:h.Y>x.Y
        · by_cases q3:aF h.X h.W<aF x.X x.W
          · by_cases q4:aF h.Y h.H<aF x.Y x.H <;> simp [q1,q2,q3,q4]
          · simp [q1,q2,q3]
        · simp [q1,q2]
      · simp [q1]
    · simp [jQ]
  unfold vY
  rw [key]
  cases l.any (Au h) <;> rfl
def Qs (x0:Piece) (l:List Rect) (k:Nat):Bool:=match l[k]? with
  | some x=>!(x0.Rects.any (Au x)) || (decide ((k:Int)<(x0.Cuts.length:Int))&&((x.W==1) || (x.H==1)))
  | none=>false
theorem PG (x0:Piece) (l:List Rect) (hl:l.length≤1000) (hr:x0.Rects.length≤1000):aD (vO x0 l) 0=some (if (List.range l.length).any (Qs x0 l) then .inl () else .inr ()):=by
  refine jP l.length (vO x0 l) (fun k=>(k:Int)) _ _ _ rfl (fun k hk=>?_) ?_
  · have hx:l[k]?=some l[k]:=by simp
    unfold vO Qs
    have h1:decide ((k:Int)<(l.length:Int))=true:=by simp;omega
    simp only [h1,if_true,aJ hx,hx,Option.bind_some,IY _ _ hr]
    rw [aL (a:=(k:Int)) (by omega) (by omega)]
    by_cases q1:(k:Int)<(x0.Cuts.length:Int)
    · cases q2:(l[k].W==1)
      · cases q3:(l[k].H==1)
        · cases x0.Rects.any (Au l[k]) <;> simp [q1,q2,q3]
        · cases x0.Rects.any (Au l[k]) <;> simp [q1,q2,q3]
      · cases x0.Rects.any (Au l[k]) <;> simp [q1,q2]
    · cases x0.Rects.any (Au l[k]) <;> simp [q1]
  · simp [vO]
theorem KW (x0:Piece) (l:List Rect) (hl:l.length≤1000) (hr:x0.Rects.length≤1000):aD (dP x0 l) 0=some (if (List.range l.length).any (Qs x0 l) then .inl () else .inr ()):=by
  refine jP l.length (dP x0 l) (fun k=>(k:Int)) _ _ _ rfl (fun k hk=>?_) ?_
  · have hx:l[k]?=some l[k]:=by simp
    unfold dP Qs
    have h1:decide ((k:Int)<(l.length:Int))=true:=by simp;omega
    simp only [h1,if_true,aJ hx,hx,Option.bind_some,WV _ _ hr]
    rw [aL (a:=(k:Int)) (by omega) (by omega)]
    by_cases q1:(k:Int)<(x0.Cuts.length:Int)
    · cases q2:(l[k].W==1)
      · cases q3:(l[k].H==1)
        · cases x0.Rects.any (Au l[k]) <;> simp [q1,q2,q3]
        · cases x0.Rects.any (Au l[k]) <;> simp [q1,q2,q3]
      · cases x0.Rects.any (Au l[k]) <;> simp [q1,q2]
    · cases x0.Rects.any (Au l[k]) <;> simp [q1]
  · simp [dP]
def Pg (p:Rect→Rect→Bool) (l:List Rect) (k:Nat):Bool:=match l[k]? with
  | some x=>(l.take k).any (p x)
  | none=>false
def AA (x y:Rect):Bool:=FQ x y==0
def tC (x y:Rect):Bool:=decide (ovR x y)
theorem Zv {l:List Rect} {k:Nat} (h:k≤l.length):slc l 0 (k:Int)=some (l.take k):=by
  unfold slc;rw [if_pos (by omega)];simp
theorem in2 (x:Rect) (l:List Rect) (hl:l.length≤1000):aD (vP x l) 0=some (if l.any (AA x) then .inl () else .inr ()):=by
  refine fK l (vP x l) (fun k=>(k:Int)) _ _ _ rfl (fun k y hy=>?_) ?_
  · have hk:=(List.getElem?_eq_some_iff.1 hy).1
    unfold vP
    have h1:decide ((k:Int)<(l.length:Int))=true:=by simp;omega
    simp only [h1,if_true,aJ hy,Option.bind_some,ES]
    rw [aL (a:=(k:Int)) (by omega) (by omega)]
    rfl
  · simp [vP]
theorem in3 (l:List Rect) (hl:l.length≤1000):aD (vQ l) 0=some (if (List.range l.length).any (Pg AA l) then .inl () else .inr ()):=by
  refine jP l.length (vQ l) (fun k=>(k:Int)) _ _ _ rfl (fun k hk=>?_) ?_
  · have hx:l[k]?=some l[k]:=by simp
    unfold vQ Pg
    have h1:decide ((k:Int)<(l.length:Int))=true:=by simp;omega
    simp only [h1,if_true,aJ hx,hx,Option.bind_some,Zv (Nat.le_of_lt hk),in2 _ (l.take k) (by simp;omega)]
    rw [aL (a:=(k:Int)) (by omega) (by omega)]
    cases (l.take k).any (AA l[k]) <;> simp
  · simp [vQ]
theorem M3 (l:List Rect) (hl:l.length≤1000):aD (dU l) 0=some (if (List.range l.length).any (Pg AA l) then .inl () else .inr ()):=by
  have inner:∀ (k:Nat) (hk:k<l.length),aD (dQ l (k:Int)) 0=some (if (l.take k).any (AA l[k]) then .inl () else .inr ()):=by
    intro k hk
    have hx:l[k]?=some l[k]:=by simp
    refine fK (l.take k) (dQ l (k:Int)) (fun k=>(k:Int)) _ _ _ rfl (fun j y hy=>?_) ?_
    · have hj:=(List.getElem?_eq_some_iff.1 hy).1
      rw [List.length_take] at hj
      have hy':l[j]?=some y:=by rw [List.getElem?_take] at hy;simpa [show j<k by omega] using hy
      unfold dQ
      have h1:decide ((j:Int)<(k:Int))=true:=by simp;omega
      simp only [h1,if_true,aJ hx,aJ hy',Option.bind_some,QV]
      rw [aL (a:=(j:Int)) (by omega) (by omega)]
      rfl
    · have:(l.take k).length=k:=by simp;omega
      simp [dQ,this]
  refine jP l.length (dU l) (fun k=>(k:Int)) _ _ _ rfl (fun k hk=>?_) ?_
  · have hx:l[k]?=some l[k]:=by simp
    unfold dU Pg
    have h1:decide ((k:Int)<(l.length:Int))=true:=by simp;omega
    simp only [h1,if_true,hx,Option.bind_some,inner k hk]
    rw [aL (a:=(k:Int)) (by omega) (by omega)]
    cases (l.take k).any (AA l[k]) <;> simp
  · simp [dU]
theorem ov2 (x:Rect) (l:List Rect) (hl:l.length≤1000):aD (kY x l) 0=some (if l.any (tC x) then .inl () else .inr ()):=by
  refine fK l (kY x l) (fun k=>(k:Int)) _ _ _ rfl (fun k y hy=>?_) ?_
  · have hk:=(List.getElem?_eq_some_iff.1 hy).1
    unfold kY
    have h1:decide ((k:Int)<(l.length:Int))=true:=by simp;omega
    simp only [h1,if_true,aJ hy,Option.bind_some,Xk]
    rw [aL (a:=(k:Int)) (by omega) (by omega)]
    rfl
  · simp [kY]
theorem ov3 (x0:Piece) (hl:x0.Rects.length≤1000):aD (kZ x0) 0=some (if (List.range x0.Rects.length).any (Pg tC x0.Rects) then .inl () else .inr ()):=by
  refine jP x0.Rects.length (kZ x0) (fun k=>(k:Int)) _ _ _ rfl (fun k hk=>?_) ?_
  · have hx:x0.Rects[k]?=some x0.Rects[k]:=by simp
    unfold kZ Pg
    have h1:decide ((k:Int)<(x0.Rects.length:Int))=true:=by simp;omega
    simp only [h1,if_true,aJ hx,hx,Option.bind_some,Zv (Nat.le_of_lt hk),ov2 _ (x0.Rects.take k) (by simp;omega)]
    rw [aL (a:=(k:Int)) (by omega) (by omega)]
    cases (x0.Rects.take k).any (tC x0.Rects[k]) <;> simp
  · simp [kZ]
theorem Qp (x:Rect) (l:List Rect) (hl:l.length≤1000):iX x l=some (l.any (tC x)):=by
  have key:aD (iY x l) 0=some (if l.any (tC x) then .inl () else .inr ()):=by
    refine fK l (iY x l) (fun k=>(k:Int)) _ _ _ rfl (fun k y hy=>?_) ?_
    · have hk:=(List.getElem?_eq_some_iff.1 hy).1
      unfold iY
      have h1:decide ((k:Int)<(l.length:Int))=true:=by simp;omega
      simp only [h1,if_true,aJ hy,Option.bind_some,EU]
      rw [aL (a:=(k:Int)) (by omega) (by omega)]
      rfl
    · simp [iY]
  unfold iX
  rw [key]
  cases l.any (tC x) <;> rfl
theorem M4 (x0:Piece) (hl:x0.Rects.length≤1000):aD (dO x0) 0=some (if (List.range x0.Rects.length).any (Pg tC x0.Rects) then .inl () else .inr ()):=by
  refine jP x0.Rects.length (dO x0) (fun k=>(k:Int)) _ _ _ rfl (fun k hk=>?_) ?_
  · have hx:x0.Rects[k]?=some x0.Rects[k]:=by simp
    unfold dO Pg
    have h1:decide ((k:Int)<(x0.Rects.length:Int))=true:=by simp;omega
    simp only [h1,if_true,aJ hx,hx,Option.bind_some,Zv (Nat.le_of_lt hk),Qp _ (x0.Rects.take k) (by simp;omega)]
    rw [aL (a:=(k:Int)) (by omega) (by omega)]
    rfl
  · simp [dO]
def Rw (l:List Rect) (a:Int):Int:=l.foldl (fun s r=>min s r.X) a
def Rx (l:List Rect) (a:Int):Int:=l.foldl (fun s r=>min s r.Y) a
theorem GX (x0:Piece) (hl:x0.Rects.length≤1000) (a b:Int):aD (bO x0) (a,b,0)=some (Rw x0.Rects a,Rx x0.Rects b):=by
  refine xU x0.Rects (bO x0) (fun k=>(Rw (x0.Rects.take k) a,Rx (x0.Rects.take k) b,(k:Int))) _ (fun k r hr=>?_) ?_
  · have hk:=(List.getElem?_eq_some_iff.1 hr).1
    unfold bO
    have h1:decide ((k:Int)<(x0.Rects.length:Int))=true:=by simp;omega
    have e:x0.Rects.take (k+1)=x0.Rects.take k++[r]:=by rw [List.take_add_one,hr];rfl
    simp only [h1,if_true,aJ hr,Option.bind_some,e,Cc]
    rw [aL (a:=(k:Int)) (by omega) (by omega)]
    unfold Rw Rx
    rw [List.foldl_append,List.foldl_append]
    rfl
  · simp [bO]
theorem KE (x0:Piece):rJ x0.Rects=bO x0:=by
  funext s
  unfold rJ bO
  cases idx x0.Rects s.2.2 <;> rfl
theorem UE (x0:Piece) (hl:x0.Rects.length≤1000) {r:Rect} (hr:x0.Rects[0]?=some r):uL x0.Rects=some (Rw x0.Rects r.X,Rx x0.Rects r.Y):=by
  unfold uL
  have i0:idx x0.Rects 0=some r:=aJ (k:=0) hr
  have hk:=(List.getElem?_eq_some_iff.1 hr).1
  have h1:aD (bO x0) (r.X,r.Y,0)=aD (bO x0) (r.X,r.Y,1):=by
    refine jJ ?_
    unfold bO
    have hd:decide ((0:Int)<(x0.Rects.length:Int))=true:=by simp;omega
    simp only [hd,if_true,i0,Option.bind_some,Cc,Int.min_self]
    rfl
  rw [i0,KE]
  simp only [Option.bind_some]
  rw [← h1,GX x0 hl]
  rfl
theorem Po (x:Piece):∃ b,dV x=some b∧cZ x=some b:=by
  obtain ⟨a,ha,ha'⟩:=Name_same x.Name
  obtain ⟨b,hb,hb'⟩:=Name_same x.Material
  unfold dV cZ
  rw [ha,hb,IZ ha' hb']
  cases a with
  | false=>exact ⟨2,rfl,rfl⟩
  | true =>
  cases b with
  | false=>exact ⟨2,rfl,rfl⟩
  | true =>
  simp only [Option.bind_some,Lu,Bool.and_self,if_true,Bool.not_true,Bool.false_eq_true,if_false]
  by_cases h1:(1≤x.Gauge∧x.Gauge≤60)∧0≤x.Grain∧x.Grain≤2
  · simp only [h1,and_self,decide_true,if_true,Option.bind_some,Bool.not_true,Bool.false_eq_true,if_false,bne_self_eq_false]
    by_cases l1:(x.Rects.length:Int)>12
    · exact ⟨4,by simp [l1],by simp [l1]⟩
    by_cases l2:(x.Cuts.length:Int)>12
    · exact ⟨4,by simp [l2],by simp [l2]⟩
    by_cases l3:(x.Forms.length:Int)>12
    · exact ⟨4,by simp [l3],by simp [l3]⟩
    have k1:x.Rects.length≤12:=by omega
    have k2:x.Cuts.length≤12:=by omega
    have k3:x.Forms.length≤12:=by omega
    simp only [l1,l2,l3,decide_false,Bool.false_eq_true,if_false,Option.bind_some]
    by_cases h0:(x.Rects.length:Int)=0
    · exact ⟨1,by simp [h0],by simp [h0]⟩
    have h0':((x.Rects.length:Int)==0)=false:=by rw [beq_eq_false_iff_ne];exact h0
    simp only [h0',Bool.false_eq_true,if_false,valid_eq x.Rects (by omega),valid_eq x.Cuts (by omega),valid_eq x.Forms (by omega),Dc x.Rects (by omega),Dc x.Cuts (by omega),Dc x.Forms (by omega),Option.bind_some]
    cases (x.Rects.any fun x=>!decide (vR x)) with
    | true=>exact ⟨1,rfl,rfl⟩
    | false =>
    cases (x.Cuts.any fun x=>!decide (vR x)) with
    | true=>exact ⟨1,rfl,rfl⟩
    | false =>
    cases (x.Forms.any fun x=>!decide (vR x)) with
    | true=>exact ⟨1,rfl,rfl⟩
    | false =>
    have hr:x.Rects[0]?=some (x.Rects[0]'(by omega)):=by simp [show 0<x.Rects.length by omega]
    have i0:idx x.Rects 0=some (x.Rects[0]'(by omega)):=aJ (k:=0) hr
    obtain ⟨cn,c1,c2⟩:=Xx (l:=x.Rects) (by omega) (by omega)
    have ap1:app [] x.Cuts=some x.Cuts:=by rw [nA (by unfold LIM;simp;omega)];rfl
    have ap2:app x.Cuts x.Forms=some (x.Cuts++x.Forms):=nA (by unfold LIM;omega)
    have k4:(x.Cuts++x.Forms).length≤1000:=by simp;omega
    simp only [Bool.not_false,Bool.not_true,if_true,Bool.false_eq_true,if_false,Option.bind_some,i0,GX x (by omega),UE x (by omega) hr,ov3 x (by omega),M4 x (by omega),c1,c2]
    generalize x.Rects[0]'(by omega)=r0
    by_cases m1:Rw x.Rects r0.X=0
    · by_cases m2:Rx x.Rects r0.Y=0
      · simp only [m1,m2,bne_self_eq_false,Bool.false_eq_true,if_false,Option.bind_some]
        cases (List.range x.Rects.length).any (Pg tC x.Rects) with
        | true=>exact ⟨7,rfl,rfl⟩
        | false =>
        cases cn with
        | false=>exact ⟨6,rfl,rfl⟩
        | true =>
        simp only [Bool.not_true,Bool.false_eq_true,if_false,Option.bind_some]
        unfold Ls
        simp only [ap1,ap2,Option.bind_some,PG x _ k4 (show x.Rects.length≤1000 by omega),KW x _ k4 (show x.Rects.length≤1000 by omega),in3 _ k4,M3 _ k4]
        cases (List.range (x.Cuts++x.Forms).length).any (Qs x (x.Cuts++x.Forms)) with
        | true=>exact ⟨13,rfl,rfl⟩
        | false =>
        cases (List.range (x.Cuts++x.Forms).length).any (Pg AA (x.Cuts++x.Forms)) with
        | true=>exact ⟨7,rfl,rfl⟩
        | false=>exact ⟨0,rfl,rfl⟩
      · have m2':(Rx x.Rects r0.Y != 0)=true:=by rw [bne_iff_ne];exact m2
        simp only [m1,m2',bne_self_eq_false,Bool.false_eq_true,if_false,Option.bind_some,if_true]
        exact ⟨1,rfl,rfl⟩
    · have m1':(Rw x.Rects r0.X != 0)=true:=by rw [bne_iff_ne];exact m1
      simp only [m1',Option.bind_some,if_true]
      exact ⟨1,rfl,rfl⟩
  · exact ⟨1,by simp only [h1,decide_false];rfl,by simp only [h1,if_false];rfl⟩
end Go.SM
