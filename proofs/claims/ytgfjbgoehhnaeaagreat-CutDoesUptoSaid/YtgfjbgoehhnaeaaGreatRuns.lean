/- The runs of a function on the integers: where it is the same and not 0, as long as possible. -/
set_option linter.unusedVariables false
set_option linter.unusedSimpArgs false
set_option linter.unusedSectionVars false
namespace Go.Cells
def GJ (s:Int→Int) (a b:Int):Prop:=a<b∧s a≠0∧(∀ z,a≤z→z<b→s z=s a)∧s (a-1)≠s a∧s b≠s a
def qU (s:Int→Int) (l:List (Int×Int)):Prop:=l.Pairwise (fun p q=>p.1<q.1)∧∀ a b,(a,b) ∈ l↔GJ s a b
theorem Jn {α:Type} {lt:α→α→Prop} (irr:∀ x,¬ lt x x) (tr:∀ x y z,lt x y→lt y z→lt x z):∀ {l l':List α},l.Pairwise lt→l'.Pairwise lt→(∀ x,x ∈ l↔x ∈ l')→l=l'
  | [],[],_,_,_=>rfl
  | [],y::t,_,_,h=>absurd ((h y).2 List.mem_cons_self) (by simp)
  | x::t,[],_,_,h=>absurd ((h x).1 List.mem_cons_self) (by simp)
  | x::t,y::t',h1,h2,h=>by
    rw [List.pairwise_cons] at h1 h2
    have e:x=y:=by
      rcases List.mem_cons.1 ((h x).1 List.mem_cons_self) with e | m
      · exact e
      · rcases List.mem_cons.1 ((h y).2 List.mem_cons_self) with e | m'
        · exact e.symm
        · exact absurd (tr _ _ _ (h1.1 y m') (h2.1 x m)) (irr x)
    subst e
    congr 1
    refine Jn irr tr h1.2 h2.2 fun z=>?_
    constructor
    · intro m
      rcases List.mem_cons.1 ((h z).1 (List.mem_cons_of_mem _ m)) with e | m'
      · subst e;exact absurd (h1.1 _ m) (irr _)
      · exact m'
    · intro m
      rcases List.mem_cons.1 ((h z).2 (List.mem_cons_of_mem _ m)) with e | m'
      · subst e;exact absurd (h2.1 _ m) (irr _)
      · exact m'
theorem JW {s:Int→Int} {l l':List (Int×Int)} (h:qU s l) (h':qU s l'):l=l':=
  Jn (lt:=fun p q=>p.1<q.1) (fun _=>Int.lt_irrefl _) (fun _ _ _=>Int.lt_trans) h.1 h'.1 fun x=>(h.2 x.1 x.2).trans (h'.2 x.1 x.2).symm
def cut (s:Int→Int) (e:Int):Int→Int:=fun z=>if z<e then s z else 0
theorem Np {s:Int→Int} {e z:Int} (h:z<e):cut s e z=s z:=if_pos h
theorem Zt {s:Int→Int} {e z:Int} (h:e≤z):cut s e z=0:=if_neg (by omega)
theorem uX {s:Int→Int} {e a b:Int}:GJ (cut s e) a b↔a<b∧b≤e∧s a≠0∧(∀ z,a≤z→z<b→s z=s a)∧s (a-1)≠s a∧(b=e∨s b≠s a):=by
  unfold GJ
  constructor
  · rintro ⟨h1,h2,h3,h4,h5⟩
    have ha:a<e:=by
      rcases Int.lt_or_le a e with q | q
      · exact q
      · exact absurd (Zt q) h2
    have hb:b≤e:=by
      rcases Int.lt_or_le e b with q | q
      · have:=h3 e (by omega) q
        rw [Zt (Int.le_refl e)] at this
        exact absurd this.symm h2
      · exact q
    rw [Np ha] at h2 h3 h4 h5
    rw [Np (by omega)] at h4
    refine ⟨h1,hb,h2,fun z p q=>?_,h4, ?_⟩
    · have:=h3 z p q;rwa [Np (by omega)] at this
    · rcases Int.lt_or_le b e with q | q
      · right;rwa [Np q] at h5
      · left;omega
  · rintro ⟨h1,hb,h2,h3,h4,h5⟩
    have ha:a<e:=by omega
    rw [Np ha,Np (show a-1<e by omega)]
    refine ⟨h1,h2,fun z p q=>?_,h4, ?_⟩
    · rw [Np (by omega)];exact h3 z p q
    · rcases h5 with rfl | h5
      · rw [Zt (Int.le_refl _)];exact fun q=>h2 q.symm
      · rcases Int.lt_or_le b e with q | q
        · rwa [Np q]
        · rw [Zt q];exact fun q=>h2 q.symm
theorem BN {s:Int→Int} {e:Int} (h:∀ z,z<e→s z=0):qU (cut s e) []:=by
  refine ⟨.nil,fun a b=>⟨fun m=>by simp at m,fun m=>?_⟩⟩
  rw [uX] at m
  exact absurd (h a (by omega)) m.2.2.1
theorem BM {s:Int→Int} {e:Int} {l:List (Int×Int)} (h:qU (cut s e) l) (h0:∀ z,e≤z→s z=0):qU s l:=by
  have:cut s e=s:=funext fun z=>by
    rcases Int.lt_or_le z e with q | q
    · exact Np q
    · rw [Zt q,h0 z q]
  rwa [this] at h
theorem YM {s:Int→Int} {e:Int} {l:List (Int×Int)} (h:qU (cut s e) l):∀ p ∈ l,p.1<e∧p.2≤e:=fun p hp=>by
  have:=uX.1 ((h.2 p.1 p.2).1 hp)
  omega
section
variable {s:Int→Int} {e e':Int} {l:List (Int×Int)} (h:qU (cut s e) l) (he:e<e') (hs:∀ z,e≤z→z<e'→s z=s e)
include h he hs
theorem Wy (h0:s e=0):qU (cut s e') l:=by
  refine ⟨h.1,fun a b=>(h.2 a b).trans ?_⟩
  rw [uX,uX]
  constructor
  · rintro ⟨h1,hb,h2,h3,h4,h5⟩
    refine ⟨h1,by omega,h2,h3,h4, ?_⟩
    rcases h5 with rfl | h5
    · right;rw [h0];exact fun q=>h2 q.symm
    · exact .inr h5
  · rintro ⟨h1,hb,h2,h3,h4,h5⟩
    have ha:a<e:=by
      rcases Int.lt_or_le a e with q | q
      · exact q
      · have:=hs a q (by omega);rw [h0] at this;exact absurd this h2
    have hbe:b≤e:=by
      rcases Int.lt_or_le e b with q | q
      · have:=h3 e (by omega) q;rw [h0] at this;exact absurd this.symm h2
      · exact q
    refine ⟨h1,hbe,h2,h3,h4, ?_⟩
    rcases h5 with rfl | h5
    · left;omega
    · exact .inr h5
theorem JV (h0:s e≠0) (hd:s (e-1)≠s e):qU (cut s e') (l++[(e,e')]):=by
  have hl:=YM h
  refine ⟨?_,fun a b=>?_⟩
  · rw [List.pairwise_append]
    refine ⟨h.1,by simp,fun p hp q hq=>?_⟩
    simp at hq
    subst hq
    exact (hl p hp).1
  · rw [List.mem_append,List.mem_singleton,h.2 a b,uX,uX]
    constructor
    · rintro (⟨h1,hb,h2,h3,h4,h5⟩ | q)
      · refine ⟨h1,by omega,h2,h3,h4, ?_⟩
        rcases h5 with rfl | h5
        · right;rw [← h3 (b-1) (by omega) (by omega)];exact fun q=>hd q.symm
        · exact .inr h5
      · injection q with q1 q2
        subst q1 q2
        exact ⟨he,Int.le_refl _,h0,hs,hd,.inl rfl⟩
    · rintro ⟨h1,hb,h2,h3,h4,h5⟩
      rcases Int.lt_or_le a e with q | q
      · left
        have hbe:b≤e:=by
          rcases Int.lt_or_le e b with q' | q'
          · have e1:=h3 e (by omega) q'
            have e2:=h3 (e-1) (by omega) (by omega)
            exact absurd (e2.trans e1.symm) hd
          · exact q'
        refine ⟨h1,hbe,h2,h3,h4, ?_⟩
        rcases h5 with rfl | h5
        · left;omega
        · exact .inr h5
      · right
        have ea:a=e:=by
          rcases Int.lt_or_le e a with q' | q'
          · have e1:=hs a q (by omega)
            have e2:=hs (a-1) (by omega) (by omega)
            exact absurd (e2.trans e1.symm) h4
          · omega
        subst ea
        have eb:b=e':=by
          rcases h5 with q' | q'
          · exact q'
          · rcases Int.lt_or_le b e' with w | w
            · exact absurd (hs b (by omega) w) q'
            · omega
        rw [eb]
theorem EH        {lo:Int} (hlo:∀ z,z<lo→s z=0) (h0:s e≠0) (hd:s (e-1)=s e):∃ l0 a,l=l0++[(a,e)]∧qU (cut s e') (l0++[(a,e')]):=by
  -- the run that ends at e
  have open_:∃ a,GJ (cut s e) a e:=by
    rcases Classical.em (∃ a,GJ (cut s e) a e) with q | q
    · exact q
    · exfalso
      have key:∀ n:Nat,∀ z,e-1-n≤z→z<e→s z=s e:=by
        intro n
        induction n with
        | zero => intro z p1 p2;obtain rfl:z = e-1 := by omega
                  exact hd
        | succ n ih =>
          intro z p1 p2
          rcases Int.lt_or_le z (e-1-n) with w | w
          · obtain rfl:z=e-1-n-1:=by omega
            rcases Classical.em (s (e-1-n-1)=s e) with r | r
            · exact r
            · refine absurd ⟨e-1-n, ?_⟩ q
              have ea:=ih (e-1-n) (by omega) (by omega)
              rw [uX]
              exact ⟨by omega,Int.le_refl _,by rw [ea];exact h0,fun z a b=>by rw [ea];exact ih z a b,by rw [ea];exact r,.inl rfl⟩
          · exact ih z w p2
      have hz:=key (e-1-(min (lo-1) (e-1))).toNat (min (lo-1) (e-1)) (by omega) (by omega)
      rw [hlo _ (by omega)] at hz
      exact h0 hz.symm
  obtain ⟨a,ha⟩:=open_
  obtain ⟨a1,_,a2,a3,a4,_⟩:=uX.1 ha
  have sa:∀ z,a≤z→z<e'→s z=s a:=fun z p q=>by
    rcases Int.lt_or_le z e with w | w
    · exact a3 z p w
    · rw [hs z w q,← hd];exact a3 _ (by omega) (by omega)
  obtain ⟨l1,l2,rfl⟩:=List.append_of_mem ((h.2 a e).2 ha)
  have hp:=h.1
  rw [List.pairwise_append,List.pairwise_cons] at hp
  obtain ⟨p1,⟨p2,p3⟩,p4⟩:=hp
  have l2n:l2=[]:=by
    cases l2 with
    | nil=>rfl
    | cons q t =>
      exfalso
      have hq:=p2 q List.mem_cons_self
      have hr:=uX.1 ((h.2 q.1 q.2).1 (by simp))
      obtain ⟨r1,r2,r3,r4,r5,_⟩:=hr
      have hq:a<q.1:=hq
      refine r5 ?_
      rw [sa (q.1-1) (by omega) (by omega),sa q.1 (by omega) (by omega)]
  subst l2n
  refine ⟨l1,a,rfl, ?_,fun x y=>?_⟩
  · rw [List.pairwise_append]
    refine ⟨p1,by simp,fun q hq r hr=>?_⟩
    simp at hr
    subst hr
    exact p4 q hq (a,e) List.mem_cons_self
  · rw [List.mem_append,List.mem_singleton,uX]
    constructor
    · rintro (m | m)
      · have hx:x<a:=p4 (x,y) m (a,e) List.mem_cons_self
        obtain ⟨r1,r2,r3,r4,r5,r6⟩:=uX.1 ((h.2 x y).1 (List.mem_append_left _ m))
        have hy:y≤a:=by
          rcases Int.lt_or_le a y with q | q
          · exact absurd ((r4 (a-1) (by omega) (by omega)).trans (r4 a (by omega) q).symm) a4
          · exact q
        refine ⟨r1,by omega,r3,r4,r5, ?_⟩
        rcases r6 with r6 | r6
        · omega
        · exact .inr r6
      · injection m with m1 m2
        subst m1 m2
        exact ⟨by omega,Int.le_refl _,a2,sa,a4,.inl rfl⟩
    · rintro ⟨r1,r2,r3,r4,r5,r6⟩
      have hxe:x<e:=by
        rcases Int.lt_or_le x e with q | q
        · exact q
        · refine absurd ?_ r5
          rw [sa (x-1) (by omega) (by omega),sa x (by omega) (by omega)]
      rcases Int.lt_or_le y e with q | q
      · left
        have:(x,y) ∈ l1++[(a,e)]:=(h.2 x y).2 (uX.2 ⟨r1,by omega,r3,r4,r5,by
          rcases r6 with r6 | r6
          · omega
          · exact .inr r6⟩)
        rcases List.mem_append.1 this with m | m
        · exact m
        · simp at m;omega
      · right
        have ex:x=a:=by
          rcases Int.lt_or_le x a with w | w
          · exact absurd ((r4 (a-1) (by omega) (by omega)).trans (r4 a (by omega) (by omega)).symm) a4
          · rcases Int.lt_or_le a x with w' | w'
            · refine absurd ?_ r5
              rw [sa (x-1) (by omega) (by omega),sa x (by omega) (by omega)]
            · omega
        subst ex
        have ey:y=e':=by
          rcases r6 with r6 | r6
          · exact r6
          · rcases Int.lt_or_le y e' with w | w
            · exact absurd (sa y (by omega) w) r6
            · omega
        rw [ey]
end
end Go.Cells
