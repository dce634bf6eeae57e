/- The other parts of pdqsort, over any comparison. -/
import Derived.Test.YtgfjbgoehhnaeaaGreatSortC
set_option linter.unusedVariables false
set_option linter.unusedSimpArgs false
set_option linter.unusedSectionVars false
namespace Go.SM
open Go Go.VI
theorem wrap_u64 {x:Int} (h0:0≤x) (h1:x<18446744073709551616):IntKind.wrap .u64 x=x:=by
  simp only [IntKind.wrap,IntKind.signed,IntKind.bits,IntKind.min,IntKind.max]
  first | omega | (simp;omega)
theorem I4:((List.range 256).all fun c=>match uJ ((c:Int),0) with | some t=>decide (0≤t∧t≤8∧2^t.toNat≤max 1 (2*c)) | none=>false)=true:=by decide +kernel
theorem UO (c n:Int) (h0:0≤n) (h1:n≤64) (hc:0≤c) (hc2:c<256):∃ t:Int,uJ (c,n)=some (n+t)∧0≤t∧t≤8∧2^t.toNat≤max 1 (2*c.toNat):=by
  have h:=List.all_eq_true.1 I4 c.toNat (List.mem_range.2 (by omega))
  rw [show ((c.toNat:Nat):Int)=c from by omega] at h
  obtain ⟨T,hT⟩:∃ T:Int→Option Int,∀ c n,uJ (c,n)=(T c).bind fun x=>some (aL n (IntKind.wrap .i64 x)):=⟨fun c=>Qd (ByteArray.mk #[0,1,2,2,3,3,3,3,4,4,4,4,4,4,4,4,5,5,5,5,5,5,5,5,5,5,5,5,5,5,5,5,6,6,6,6,6,6,6,6,6,6,6,6,6,6,6,6,6,6,6,6,6,6,6,6,6,6,6,6,6,6,6,6,7,7,7,7,7,7,7,7,7,7,7,7,7,7,7,7,7,7,7,7,7,7,7,7,7,7,7,7,7,7,7,7,7,7,7,7,7,7,7,7,7,7,7,7,7,7,7,7,7,7,7,7,7,7,7,7,7,7,7,7,7,7,7,7,8,8,8,8,8,8,8,8,8,8,8,8,8,8,8,8,8,8,8,8,8,8,8,8,8,8,8,8,8,8,8,8,8,8,8,8,8,8,8,8,8,8,8,8,8,8,8,8,8,8,8,8,8,8,8,8,8,8,8,8,8,8,8,8,8,8,8,8,8,8,8,8,8,8,8,8,8,8,8,8,8,8,8,8,8,8,8,8,8,8,8,8,8,8,8,8,8,8,8,8,8,8,8,8,8,8,8,8,8,8,8,8,8,8,8,8,8,8,8,8,8,8,8,8,8,8,8,8]) (IntKind.wrap .u8 c),fun _ _=>rfl⟩
  rw [hT] at h ⊢
  cases hs:T c with
  | none=>rw [hs] at h;simp at h
  | some t =>
    rw [hs] at h
    simp only [Option.bind_some,decide_eq_true_eq] at h ⊢
    generalize hw:IntKind.i64.wrap t=v at h ⊢
    have hv:aL 0 v=v:=by
      unfold aL
      rw [Int.zero_add,← hw]
      simp only [IntKind.wrap,IntKind.signed,IntKind.bits,IntKind.min,IntKind.max]
      first | omega | (simp only [Int.reducePow,if_true];omega) | (simp;omega)
    rw [hv] at h
    exact ⟨v,by rw [aS (by omega) (by omega)],h.1,h.2.1,h.2.2⟩
theorem UX {x:Int} (h0:0≤x) (h1:x≤1073741824):∃ v:Int,Il (IntKind.wrap .u64 x)=some v∧0≤v∧v≤40∧2^v.toNat≤max 1 (2*x.toNat):=by
  have hw:IntKind.wrap .u64 x=x:=by
    exact wrap_u64 (by omega) (by omega)
  have c8:(2^(min (Int.toNat 8) 64):Int)=256:=by decide
  have c16:(2^(min (Int.toNat 16) 64):Int)=65536:=by decide
  have step:∀ (c n:Int),0≤c→0≤n→n≤30→c<65536→∃ t:Int,xH (c,n)=some (n+t)∧0≤t∧t≤16∧2^t.toNat≤max 1 (2*c.toNat):=fun c n h0 hn hn2 hc=>by
    unfold xH
    by_cases q:c ≥ 256
    · simp only [q,decide_true,if_true,c8]
      have e:Int.fdiv c 256=c / 256:=Int.fdiv_eq_ediv_of_nonneg _ (by omega)
      rw [e,aS (by omega) (by omega)]
      obtain ⟨t,t1,t2,t3,t4⟩:=UO (c / 256) (n+8) (by omega) (by omega) (by omega) (by omega)
      refine ⟨8+t,by rw [t1];congr 1;omega,by omega,by omega, ?_⟩
      rw [show (8+t).toNat=8+t.toNat from by omega,Nat.pow_add]
      omega
    · simp only [q,decide_false,Bool.false_eq_true,if_false]
      obtain ⟨t,t1,t2,t3,t4⟩:=UO c n (by omega) (by omega) (by omega) (by omega)
      exact ⟨t,t1,t2,by omega,t4⟩
  unfold Il Rl Bg
  rw [hw]
  have q:¬ x ≥ 4294967296:=by omega
  simp only [q,decide_false,Bool.false_eq_true,if_false]
  by_cases q:x ≥ 65536
  · simp only [q,decide_true,if_true,c16]
    have e:Int.fdiv x 65536=x / 65536:=Int.fdiv_eq_ediv_of_nonneg _ (by omega)
    rw [e,show aL 0 16=16 from rfl]
    obtain ⟨t,t1,t2,t3,t4⟩:=step (x / 65536) 16 (by omega) (by omega) (by omega) (by omega)
    refine ⟨16+t,by rw [t1];rfl,by omega,by omega, ?_⟩
    rw [show (16+t).toNat=16+t.toNat from by omega,Nat.pow_add]
    omega
  · simp only [q,decide_false,Bool.false_eq_true,if_false]
    obtain ⟨t,t1,t2,t3,t4⟩:=step x 0 h0 (by omega) (by omega) (by omega)
    refine ⟨t,by rw [t1,Int.zero_add];rfl,t2,by omega,t4⟩
section
variable {α:Type} {br:Br α} {lt:α→α→Bool} {P:α→Prop} {d:α} (hbr:∀ (β:Type) (x y:α) (k:Bool→Option β),P x→P y→br β x y k=k (lt x y)) (w:Xv lt)
theorem MI {a b:Int} {l0:List α} (ha:0≤a) (hb:b≤l0.length) (hL:(l0.length:Int)≤1073741824) (hab:a≤b):∃ l',Dv br a b l0=some l'∧On d a b l0 l':=by
  obtain ⟨l',r1,r2⟩:=nA (fun s:Int×Int×List α=>(s.2.1+1-s.1).toNat) (fun s:Int×Int×List α=>a≤s.1∧s.2.1<b∧s.1≤b∧a-1≤s.2.1∧On d a b l0 s.2.2) (fun l'=>On d a b l0 l') (yO br) (by
    rintro ⟨i,j,l⟩ ⟨h1,h2,h3,h4,hon⟩
    simp only at h1 h2 h3 h4 hon ⊢
    have hl:=hon.len
    unfold yO
    by_cases q:i<j
    · left
      refine ⟨(i+1,j-1,sw d l i j), ?_,⟨by simp only;omega,by simp only;omega,by simp only;omega,by simp only;omega,.step hon i j h1 (by omega) (by omega) h2 ha (by omega)⟩,by simp only;omega⟩
      simp (disch:=first | omega | (simp only [List.length_set];omega)) only [q,decide_true,if_true,jD d,Option.bind_some,aS,aY]
      rfl
    · right
      exact ⟨l,by simp only [q,decide_false,Bool.false_eq_true,if_false],hon⟩) (a,b-1,l0) ⟨by simp only;omega,by simp only;omega,by simp only;omega,by simp only;omega,.refl _⟩
  refine ⟨l', ?_,r2⟩
  unfold Dv
  rw [aY (by omega) (by omega),r1];rfl
theorem ZW (r m:Int) (h0:0≤m) (h1:m<9223372036854775808):0≤Uz .u64 r m∧Uz .u64 r m≤m:=by
  unfold Uz
  have hb:(BitVec.ofInt 64 m).toNat=m.toNat:=by
    rw [BitVec.toNat_ofInt]
    omega
  have hle:(BitVec.ofInt IntKind.u64.bits r &&& BitVec.ofInt IntKind.u64.bits m).toNat≤m.toNat:=by
    show (BitVec.ofInt 64 r &&& BitVec.ofInt 64 m).toNat≤m.toNat
    rw [BitVec.toNat_and,hb]
    exact Nat.and_le_right
  generalize (BitVec.ofInt IntKind.u64.bits r &&& BitVec.ofInt IntKind.u64.bits m).toNat=v at hle ⊢
  have hw:IntKind.wrap .u64 (v:Int)=v:=by
    exact wrap_u64 (by omega) (by omega)
  rw [hw];omega
theorem J9 {n:Int} (h:0≤n) (h2:n≤1073741824):xN n 4=n / 4:=by
  unfold xN
  rw [Int.tdiv_eq_ediv_of_nonneg h]
  exact Oj _ (by omega) (by omega)
theorem SS {a b:Int} {l0:List α} (ha:0≤a) (hb:b≤l0.length) (hL:(l0.length:Int)≤1073741824) (hab:a≤b):∃ l',Bh br a b l0=some l'∧On d a b l0 l':=by
  have s1:aJ b a=b-a:=aY (by omega) (by omega)
  unfold Bh
  rw [s1]
  by_cases h8:b-a ≥ 8
  case neg=>simp only [h8,decide_false,Bool.false_eq_true,if_false];exact ⟨l0,rfl,.refl _⟩
  simp only [h8,decide_true,if_true]
  obtain ⟨v,v1,v2,v3,v4⟩:=UX (x:=b-a) (by omega) (by omega)
  have hpow:1≤2^v.toNat:=Nat.one_le_two_pow
  have hr2:zY (b-a)=some ((2^v.toNat:Nat):Int):=by
    unfold zY
    rw [v1]
    simp only [Option.bind_some,v2,decide_true,if_true]
    congr 1
    rw [show min v.toNat 64=v.toNat from by omega,Int.one_mul,show (2:Int)^v.toNat=((2^v.toNat:Nat):Int) from by simp]
    exact wrap_u64 (by omega) (by omega)
  rw [hr2,Option.bind_some]
  obtain ⟨R,hR⟩:∃ R:Int,((2^v.toNat:Nat):Int)=R:=⟨_,rfl⟩
  rw [hR]
  have hR1:1≤R:=by omega
  have hR2:R≤2*(b-a):=by omega
  have hm:IntKind.wrap .u64 (R-1)=R-1:=by
    exact wrap_u64 (by omega) (by omega)
  have q4:=J9 (n:=b-a) (by omega) (by omega)
  have q2:mZ ((b-a) / 4) 2=(b-a) / 4*2:=Qq (by omega) (by omega)
  have q3:aL a ((b-a) / 4*2)=a+(b-a) / 4*2:=aS (by omega) (by omega)
  have q5:aL (a+(b-a) / 4*2) 1=a+(b-a) / 4*2+1:=aS (by omega) (by omega)
  have q6:aJ (a+(b-a) / 4*2) 1=a+(b-a) / 4*2-1:=aY (by omega) (by omega)
  obtain ⟨l',r1,r2⟩:=nA (fun s:Int×Int×List α=>(a+(b-a) / 4*2+2-s.1).toNat) (fun s:Int×Int×List α=>a≤s.1∧On d a b l0 s.2.2) (fun l'=>On d a b l0 l') (xL br a b R) (by
    rintro ⟨i,rr,l⟩ ⟨h1,hon⟩
    simp only at h1 hon ⊢
    have hl:=hon.len
    unfold xL
    simp only [s1,q4,q2,q3,q5,hm]
    by_cases q:i≤a+(b-a) / 4*2+1
    · left
      simp only [q,decide_true,if_true,Kw,Option.bind_some]
      generalize hz:(jT IntKind.u64 _ _:Int)=z
      obtain ⟨a1,a2⟩:=ZW z (R-1) (by omega) (by omega)
      have hw:IntKind.wrap .i64 (Uz .u64 z (R-1))=Uz .u64 z (R-1):=Oj _ (by omega) (by omega)
      rw [hw]
      obtain ⟨o,ho⟩:∃ o,Uz .u64 z (R-1)=o:=⟨_,rfl⟩
      rw [ho] at a1 a2 ⊢
      have key:∀ t:Int,0≤t→t<b-a→∃ s',uD br a (i,rr,l) t=some (.inl s')∧(a≤s'.1∧On d a b l0 s'.2.2)∧(a+(b-a) / 4*2+2-s'.1).toNat<(a+(b-a) / 4*2+2-i).toNat:=fun t t1 t2=>by
        have e:aL a t=a+t:=aS (by omega) (by omega)
        unfold uD
        simp (disch:=first | omega | (simp only [List.length_set];omega)) only [e,jD d,Option.bind_some]
        refine ⟨_,rfl,⟨?_, ?_⟩, ?_⟩
        · simp only;rw [aS (by omega) (by omega)];omega
        · exact .step hon i (a+t) (by omega) (by omega) (by omega) (by omega) ha (by omega)
        · simp only;rw [aS (by omega) (by omega)];omega
      by_cases hge:o ≥ b-a
      · simp only [hge,decide_true,if_true]
        rw [aY (by omega) (by omega)]
        exact key (o-(b-a)) (by omega) (by omega)
      · simp only [hge,decide_false,Bool.false_eq_true,if_false]
        exact key o a1 (by omega)
    · right
      exact ⟨l,by simp only [q,decide_false,Bool.false_eq_true,if_false],hon⟩) (a+(b-a) / 4*2-1,IntKind.wrap .u64 (b-a),l0) ⟨by simp only;omega,.refl _⟩
  refine ⟨l', ?_,r2⟩
  simp only [q4,q2,q3,q6,r1,Option.bind_some]
include hbr
theorem Wt {l:List α} (hf:Fine P d l) {x y:Int} (s:Int) (hx:0≤x) (hx':x<l.length) (hy:0≤y) (hy':y<l.length):∃ r,Kv br l x y s=some r∧((r.1=x∧r.2.1=y)∨(r.1=y∧r.2.1=x)):=by
  unfold Kv
  rw [jD d hy hy',Option.bind_some,jD d hx hx',Option.bind_some,hbr _ _ _ _ (hf.all _ hy hy') (hf.all _ hx hx')]
  cases lt (gz d l y) (gz d l x) with
  | true=>exact ⟨_,rfl,.inr ⟨rfl,rfl⟩⟩
  | false=>exact ⟨_,rfl,.inl ⟨rfl,rfl⟩⟩
theorem EB {l:List α} (hf:Fine P d l) {lo hi x y z:Int} (s:Int) (hlo:0≤lo) (hhi:hi≤l.length) (hx:lo≤x∧x<hi) (hy:lo≤y∧y<hi) (hz:lo≤z∧z<hi):∃ r,Qo br l x y z s=some r∧lo≤r.1∧r.1<hi:=by
  unfold Qo
  obtain ⟨r1,e1,q1⟩:=Wt hbr hf (x:=x) (y:=y) s (by omega) (by omega) (by omega) (by omega)
  rw [e1,Option.bind_some]
  obtain ⟨r2,e2,q2⟩:=Wt hbr hf (x:=r1.2.1) (y:=z) r1.2.2 (by omega) (by omega) (by omega) (by omega)
  rw [e2,Option.bind_some]
  obtain ⟨r3,e3,q3⟩:=Wt hbr hf (x:=r1.1) (y:=r2.1) r2.2.2 (by omega) (by omega) (by omega) (by omega)
  rw [e3,Option.bind_some]
  exact ⟨_,rfl,by simp only;omega,by simp only;omega⟩
theorem PM {l:List α} (hf:Fine P d l) {a b:Int} (ha:0≤a) (hb:b≤l.length) (hab:a+12<b):∃ p h,Gh br l a b=some (p,h)∧a≤p∧p<b:=by
  have hL:=hf.len
  have s1:aJ b a=b-a:=aY (by omega) (by omega)
  have q4:=J9 (n:=b-a) (by omega) (by omega)
  have m1:mZ ((b-a) / 4) 1=(b-a) / 4*1:=Qq (by omega) (by omega)
  have m2:mZ ((b-a) / 4) 2=(b-a) / 4*2:=Qq (by omega) (by omega)
  have m3:mZ ((b-a) / 4) 3=(b-a) / 4*3:=Qq (by omega) (by omega)
  have a1:aL a ((b-a) / 4*1)=a+(b-a) / 4*1:=aS (by omega) (by omega)
  have a2:aL a ((b-a) / 4*2)=a+(b-a) / 4*2:=aS (by omega) (by omega)
  have a3:aL a ((b-a) / 4*3)=a+(b-a) / 4*3:=aS (by omega) (by omega)
  have k1:∀ p n:Int,∃ h,vX br (p,n)=some (p,h):=fun p n=>by
    unfold vX
    simp only
    split
    · exact ⟨_,rfl⟩
    · split
      · exact ⟨_,rfl⟩
      · exact ⟨_,rfl⟩
  have k2:∀ x y z s:Int,(a≤x∧x<b)→(a≤y∧y<b)→(a≤z∧z<b)→∃ p h,vY br l (x,y,z,s)=some (p,h)∧a≤p∧p<b:=fun x y z s hx hy hz=>by
    unfold vY
    obtain ⟨r,e,r1,r2⟩:=EB hbr hf (lo:=a) (hi:=b) s ha hb hx hy hz
    simp only [e,Option.bind_some]
    obtain ⟨h,e2⟩:=k1 r.1 r.2
    exact ⟨_,h,e2,r1,r2⟩
  have adj:∀ x s:Int,a+1≤x→x+1<b→∃ r,rU br l x s=some r∧a≤r.1∧r.1<b:=fun x s h1 h2=>by
    unfold rU
    rw [aY (by omega) (by omega),aS (by omega) (by omega)]
    obtain ⟨r,e,r1,r2⟩:=EB hbr hf (lo:=a) (hi:=b) (x:=x-1) (y:=x) (z:=x+1) s ha hb (by omega) (by omega) (by omega)
    rw [e]
    exact ⟨_,rfl,r1,r2⟩
  unfold Gh
  have h8:b-a ≥ 8:=by omega
  simp only [s1,q4,m1,m2,m3,a1,a2,a3,h8,decide_true,if_true]
  by_cases h50:b-a ≥ 50
  · simp only [h50,decide_true,if_true]
    obtain ⟨r1,e1,p1,p2⟩:=adj (a+(b-a) / 4*1) 0 (by omega) (by omega)
    rw [e1,Option.bind_some]
    obtain ⟨r2,e2,p3,p4⟩:=adj (a+(b-a) / 4*2) r1.2 (by omega) (by omega)
    rw [e2,Option.bind_some]
    obtain ⟨r3,e3,p5,p6⟩:=adj (a+(b-a) / 4*3) r2.2 (by omega) (by omega)
    rw [e3,Option.bind_some]
    exact k2 _ _ _ _ ⟨p1,p2⟩ ⟨p3,p4⟩ ⟨p5,p6⟩
  · simp only [h50,decide_false,Bool.false_eq_true,if_false]
    exact k2 _ _ _ _ (by omega) (by omega) (by omega)
end
end Go.SM
