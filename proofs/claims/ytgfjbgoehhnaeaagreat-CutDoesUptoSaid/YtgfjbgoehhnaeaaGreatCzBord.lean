/- The lines between regions: how the document finds them. -/
import Derived.Test.YtgfjbgoehhnaeaaGreatCzAlong
set_option linter.unusedVariables false
set_option linter.unusedSimpArgs false
set_option linter.unusedSectionVars false
namespace Go.SM
open Go Go.VI Go.Cells
def nm:Option Int→Int
  | some i=>i
  | none=>-1
theorem FN {a b:Option Int} (ha:SmO a) (hb:SmO b):nm a=nm b↔a=b:=by
  constructor
  · intro h
    cases a with
    | none=>cases b with
      | none=>rfl
      | some j=>have:=hb j rfl;simp only [nm] at h;omega
    | some i=>cases b with
      | none=>have:=ha i rfl;simp only [nm] at h;omega
      | some j=>simp only [nm] at h;rw [h]
  · intro h;rw [h]
theorem FO (R:List (List Rect)) (x y:Int):nm (lM R x y)=LG R x y:=by rw [E9];rfl
theorem IQ {β:Type} {R:List β} {z v:β} {j:Nat} (h:R[j]?=some v):(R.take j++List.replicate (R.length-j) z)[j]?=some z:=by
  have:=bC h
  rw [List.getElem?_append_right (by rw [List.length_take];omega),List.length_take,List.getElem?_replicate,if_pos (by omega)]
theorem Zz {β:Type} {R:List β} {z v:β} {j:Nat} (h:R[j]?=some v):(R.take j++List.replicate (R.length-j) z).set j v=R.take (j+1)++List.replicate (R.length-(j+1)) z:=by
  have:=bC h
  rw [List.set_append_right _ _ (by rw [List.length_take];omega),List.length_take,show j-min j R.length=0 from by omega,nY h,show R.length-j=R.length-(j+1)+1 from by omega,List.replicate_succ,List.set_cons_zero,List.append_assoc]
  rfl
theorem set_self {β:Type} {l:List β} {i:Nat} {v:β} (h:l[i]?=some v):l.set i v=l:=by
  refine List.ext_getElem? fun n=>?_
  rw [List.getElem?_set]
  split
  · rename_i e;subst e
    rw [if_pos (bC h),h]
  · rfl
section
variable {R:List (List Rect)} (hv:CE R.flatten) (hm:R.length≤900) (hn:∀ l ∈ R,l.length≤1000)
include hv hm hn
theorem OT {l:List Rect} (hl:l ∈ R) (x y:Int):oL l x y=some (cov l x y):=by
  unfold oL cov
  have:=hn l hl
  rw [AY l (lT l x y) (fun r=>inC r x y) (.inr ()) (.inl ()) (fun k r hr=>?s) ?f]
  · cases l.any (fun r=>inC r x y) <;> rfl
  case s =>
    have h1:=bC hr
    obtain ⟨e1,e2⟩:=GD (hv r (List.mem_flatten.2 ⟨l,hl,List.mem_of_getElem? hr⟩))
    unfold lT
    simp only [h1,Int.ofNat_lt,decide_true,if_true,aP hr,Option.bind_some,e1,e2]
    have hb':(if decide (r.X≤x) then (if decide (x<r.X+r.W) then (if decide (r.Y≤y) then some (decide (y<r.Y+r.H)) else some false) else some false) else some false)=some (inC r x y):=by
      unfold inC
      cases decide (r.X≤x) <;> cases decide (x<r.X+r.W) <;> cases decide (r.Y≤y) <;> simp
    rw [hb',Option.bind_some,aZ k (by omega)]
  case f=>simp [lT]
theorem UR (x y:Int):qF R x y=some (LG R x y):=by
  unfold qF
  rw [Wp R (nH R x y) (fun l=>cov l x y) (fun k=>.inl (k:Int)) (.inr ()) (fun k l hl=>?s) ?f]
  · unfold LG Ad
    cases R.findIdx? (fun l=>cov l x y) <;> rfl
  case s =>
    have h1:=bC hl
    unfold nH
    simp only [h1,Int.ofNat_lt,decide_true,if_true,aP hl,Option.bind_some,OT hv hm hn (List.mem_of_getElem? hl),aZ k (by omega)]
  case f=>simp [nH]
def cellV (R:List (List Rect)) (xs ys:List Int) (i j:Nat):Int:=if 0<i∧0<j∧i<xs.length∧j<ys.length then LG R (xs.getD (i-1) 0) (ys.getD (j-1) 0) else -1
def Xh (R:List (List Rect)) (xs ys:List Int) (i:Nat):List Int:=(List.range (ys.length+1)).map fun j=>cellV R xs ys i j
def Jr (R:List (List Rect)) (xs ys:List Int):List (List Int):=(List.range (xs.length+1)).map fun i=>Xh R xs ys i
omit hv hm hn in
theorem Js (xs ys:List Int) (i j:Nat) (hj:j≤ys.length):(Xh R xs ys i)[j]?=some (cellV R xs ys i j):=by
  unfold Xh;rw [List.getElem?_map,List.getElem?_range (by omega)];rfl
omit hv hm hn in
theorem Qg (xs ys:List Int) (i:Nat) (hi:i≤xs.length):(Jr R xs ys)[i]?=some (Xh R xs ys i):=by
  unfold Jr;rw [List.getElem?_map,List.getElem?_range (by omega)];rfl
theorem QH        {xs ys:List Int} (hx:xs.length≤1000) (hy:ys.length≤1000):oO R xs ys=some (Jr R xs ys):=by
  have inner:∀   (i:Nat) (M0:List (List Int)) (base:List (List Int)),i≤xs.length→base[i]?=some (List.replicate (ys.length+1) 0) →
      aM (iZ R xs ys ((i:Int),M0)) (0,base)=some (base.set i (Xh R xs ys i)):=fun i M0 base hi hb=>by
    obtain ⟨C,hC⟩:∃ C,Xh R xs ys i=C:=⟨_,rfl⟩
    have hCl:C.length=ys.length+1:=by rw [← hC];simp [Xh]
    have hil:=bC hb
    obtain ⟨r,q1,q2⟩:=vP (List.range (ys.length+1)) (fun k (s:List (List Int))=>((k:Int),s)) (iZ R xs ys ((i:Int),M0)) (fun s=>s) (fun k s=>s=base.set i (C.take k++List.replicate (C.length-k) 0)) base (by
        rw [List.take_zero,List.nil_append,Nat.sub_zero,hCl,set_self hb])
      (fun k y s hy' hI=>by
        have hk:=bC hy'
        rw [List.length_range] at hk
        have hd:decide ((k:Int)≤(ys.length:Int))=true:=by simp;omega
        have hCk:C[k]?=some (cellV R xs ys i k):=by rw [← hC];exact Js xs ys i k (by omega)
        have gb:s[i]?=some (C.take k++List.replicate (C.length-k) 0):=by rw [hI,List.getElem?_set,if_pos rfl,if_pos hil]
        have gz:(C.take k++List.replicate (C.length-k) 0)[k]?=some (0:Int):=IQ hCk
        have hlk:=bC gz
        have hsl:s.length=base.length:=by rw [hI,List.length_set]
        unfold iZ
        simp only [hd,if_true,aP gb,aP gz,Option.bind_some,Int.toNat_natCast]
        by_cases hc:0<i∧0<k∧i<xs.length∧k<ys.length
        · obtain ⟨c1,c2,c3,c4⟩:=hc
          have e1:aJ (i:Int) 1=((i-1:Nat):Int):=by rw [aY (by omega) (by omega)];omega
          have e2:aJ (k:Int) 1=((k-1:Nat):Int):=by rw [aY (by omega) (by omega)];omega
          have g1:xs[i-1]?=some (xs.getD (i-1) 0):=by rw [List.getD_eq_getElem?_getD,List.getElem?_eq_getElem (by omega)];rfl
          have g2:ys[k-1]?=some (ys.getD (k-1) 0):=by rw [List.getD_eq_getElem?_getD,List.getElem?_eq_getElem (by omega)];rfl
          have g3:(s.set i ((C.take k++List.replicate (C.length-k) 0).set k (-1)))[i]?=some ((C.take k++List.replicate (C.length-k) 0).set k (-1)):=by rw [List.getElem?_set,if_pos rfl,if_pos (by omega)]
          have g4:((C.take k++List.replicate (C.length-k) 0).set k (-1))[k]?=some (-1:Int):=by rw [List.getElem?_set,if_pos rfl,if_pos hlk]
          have d1:decide ((i:Int)>0)=true:=by simp;omega
          have d2:decide ((k:Int)>0)=true:=by simp;omega
          have d3:decide ((i:Int)<(xs.length:Int))=true:=by simp;omega
          have d4:decide ((k:Int)<(ys.length:Int))=true:=by simp;omega
          simp only [d1,d2,d3,d4,if_true,Option.bind_some,aP g3,e1,e2,aP g1,aP g2,UR hv hm hn,aP g4,iY,aZ k (by omega)]
          refine ⟨_,rfl, ?_⟩
          rw [List.set_set,List.set_set,hI,List.set_set]
          have:cellV R xs ys i k=LG R (xs.getD (i-1) 0) (ys.getD (k-1) 0):=by unfold cellV;rw [if_pos ⟨c1,c2,c3,c4⟩]
          rw [← this,Zz hCk]
        · have hcv:cellV R xs ys i k=-1:=by unfold cellV;rw [if_neg hc]
          have hb':(if decide ((i:Int)>0) then (if decide ((k:Int)>0) then (if decide ((i:Int)<(xs.length:Int)) then some (decide ((k:Int)<(ys.length:Int))) else some false) else some false) else some false)=some false:=by
            by_cases c1:0<i
            · by_cases c2:0<k
              · by_cases c3:i<xs.length
                · have c4:¬ k<ys.length:=fun q=>hc ⟨c1,c2,c3,q⟩
                  simp [c1,c2,c3,c4]
                · simp [c1,c2,c3]
              · simp [c1,c2]
            · simp [c1]
          rw [hb']
          simp only [Option.bind_some,Bool.false_eq_true,if_false,iY,aZ k (by omega)]
          refine ⟨_,rfl, ?_⟩
          rw [hI,List.set_set,← hcv,Zz hCk]) (fun s _=>by
        have:¬ ((List.range (ys.length+1)).length:Int)≤(ys.length:Int):=by rw [List.length_range];omega
        unfold iZ
        simp only [this,decide_false,Bool.false_eq_true,if_false])
    rw [List.length_range,← hCl,List.take_length,Nat.sub_self,List.replicate_zero,List.append_nil] at q2
    rw [show ((0:Int),base)=(((0:Nat):Int),base) from rfl,q1,q2,hC]
  obtain ⟨C,hC⟩:∃ C,Jr R xs ys=C:=⟨_,rfl⟩
  have hCl:C.length=xs.length+1:=by rw [← hC];simp [Jr]
  have mk1:∀ {β:Type} (n:Nat) (z:β),n≤1000→mk (aL (n:Int) 1) z=some (List.replicate (n+1) z):=fun {β} n z hn'=>by
    rw [aZ n (by omega)]
    unfold mk
    rw [if_pos ⟨by omega,by simp [LIM];omega⟩,Int.toNat_natCast]
  obtain ⟨r,q1,q2⟩:=vP (List.range (xs.length+1)) (fun k (s:List (List Int))=>((k:Int),s)) (lW R xs ys) (fun s=>s) (fun k s=>s=C.take k++List.replicate (C.length-k) []) (List.replicate (xs.length+1) []) (by
      rw [List.take_zero,List.nil_append,Nat.sub_zero,hCl])
    (fun k x s hx' hI=>by
      have hk:=bC hx'
      rw [List.length_range] at hk
      have hd:decide ((k:Int)≤(xs.length:Int))=true:=by simp;omega
      have hCk:C[k]?=some (Xh R xs ys k):=by rw [← hC];exact Qg xs ys k (by omega)
      have g0:s[k]?=some []:=by rw [hI];exact IQ hCk
      have hks:=bC g0
      have g1:(s.set k (List.replicate (ys.length+1) 0))[k]?=some (List.replicate (ys.length+1) 0):=by rw [List.getElem?_set,if_pos rfl,if_pos hks]
      unfold lW
      simp only [hd,if_true,mk1 ys.length (0:Int) hy,Option.bind_some,aP g0,Int.toNat_natCast,inner k s _ (by omega) g1,aZ k (by omega)]
      refine ⟨_,rfl, ?_⟩
      rw [List.set_set,hI,Zz hCk]) (fun s _=>by
      have:¬ ((List.range (xs.length+1)).length:Int)≤(xs.length:Int):=by rw [List.length_range];omega
      unfold lW
      simp only [this,decide_false,Bool.false_eq_true,if_false])
  rw [List.length_range,← hCl,List.take_length,Nat.sub_self,List.replicate_zero,List.append_nil] at q2
  unfold oO
  rw [mk1 xs.length ([]:List Int) hx]
  simp only [Option.bind_some]
  rw [show ((0:Int),List.replicate (xs.length+1) ([]:List Int))=(((0:Nat):Int),List.replicate (xs.length+1) []) from rfl,q1,q2,hC]
  rfl
end
def cS (q x:Segment):Prop:=q.X2=x.X1∧q.Y2=x.Y1∧(q.Y1=x.Y2∨q.X1=x.X2)
instance (q x:Segment):Decidable (cS q x):=by unfold cS;infer_instance
abbrev Ln:=sheetmetalref06_Line
def jn (q x:Ln):Prop:=q.Low=x.Low∧q.High=x.High∧cS q.At x.At
instance (q x:Ln):Decidable (jn q x):=by unfold jn;infer_instance
theorem join_nil (x:Ln) (h:x.Low≠x.High):bO x []=some [x]:=by
  unfold bO
  have e1:(x.Low==x.High)=false:=by simp [h]
  have e2:aJ (([]:List Ln).length:Int) 1=-1:=aY (by simp) (by simp)
  rw [e2]
  simp only [e1,Bool.false_eq_true,if_false,show decide ((-1:Int) ≥ 0)=false from rfl,Option.bind_some]
  rw [qY (by simp [LIM])]
  rfl
theorem QF (x:Ln) (l:List Ln) (h:x.Low=x.High):bO x l=some l:=by
  unfold bO
  simp [h]
theorem Wn (x q:Ln) (o:List Ln) (ho:o.length≤10000000) (h:x.Low≠x.High):bO x (o++[q])=some (if jn q x then o++[⟨⟨q.At.X1,q.At.Y1,x.At.X2,x.At.Y2⟩,q.Low,q.High⟩] else o++[q]++[x]):=by
  unfold bO
  have e1:(x.Low==x.High)=false:=by simp [h]
  have hlen:((o++[q]).length:Int)=(o.length:Int)+1:=by simp
  have e2:aJ ((o++[q]).length:Int) 1=(o.length:Int):=by rw [hlen,aY (by omega) (by omega)];omega
  have g:(o++[q])[o.length]?=some q:=by simp
  have d:decide ((o.length:Int) ≥ 0)=true:=by simp
  rw [e2]
  simp only [e1,Bool.false_eq_true,if_false,d,if_true,aP g,Option.bind_some,Int.toNat_natCast]
  have hj : (if (q.Low==x.Low)=true then (if (q.High==x.High)=true then (if (q.At.X2==x.At.X1)=true then (if (q.At.Y2==x.At.Y1)=true then (if (q.At.Y1==x.At.Y2)=true then some true else some (q.At.X1==x.At.X2)) else some false) else some false) else some false) else some false)=some (decide (jn q x)):=by
    unfold jn cS
    by_cases h1:q.Low=x.Low
    · by_cases h2:q.High=x.High
      · by_cases h3:q.At.X2=x.At.X1
        · by_cases h4:q.At.Y2=x.At.Y1
          · by_cases h5:q.At.Y1=x.At.Y2
            · simp [h1,h2,h3,h4,h5]
            · by_cases h6:q.At.X1=x.At.X2
              · simp [h1,h2,h3,h4,h5,h6]
              · simp [h1,h2,h3,h4,h5,h6]
          · simp [h1,h2,h3,h4]
        · simp [h1,h2,h3]
      · simp [h1,h2]
    · simp [h1]
  rw [hj,Option.bind_some]
  by_cases hc:jn q x
  · have s1:(o++[q]).set o.length (⟨⟨q.At.X1,q.At.Y1,x.At.X2,q.At.Y2⟩,q.Low,q.High⟩:Ln)=o++[⟨⟨q.At.X1,q.At.Y1,x.At.X2,q.At.Y2⟩,q.Low,q.High⟩]:=by rw [List.set_append_right _ _ (Nat.le_refl _)];simp
    have g2:(o++[(⟨⟨q.At.X1,q.At.Y1,x.At.X2,q.At.Y2⟩,q.Low,q.High⟩:Ln)])[o.length]?=some ⟨⟨q.At.X1,q.At.Y1,x.At.X2,q.At.Y2⟩,q.Low,q.High⟩:=by simp
    simp only [hc,decide_true,if_true,s1,aP g2,Option.bind_some]
    rw [List.set_append_right _ _ (Nat.le_refl _)]
    simp
  · simp only [hc,decide_false,Bool.false_eq_true,if_false]
    rw [qY (by simp [LIM];omega)]
    simp
theorem VW {A B:Int→Option Int} {xs:List Int} (h:Al A B xs) {ln:Int→Int→Segment} {body:Int×List Ln→Option (Int×List Ln ⊕ List Ln)}
    (hb:∀ (k:Nat) x x' (out:List Ln),xs[k]?=some x→xs[k+1]?=some x'→body ((k:Int),out)=(bO ⟨ln x x',nm (B x),nm (A x)⟩ out).bind fun r=>some (.inl (((k+1:Nat):Int),r)))
    (hend:∀ (k:Nat) (out:List Ln),k<100000→xs.length≤k+1→body ((k:Int),out)=some (.inr out)) (hcs:∀ a b e e',cS (ln a b) (ln e e')↔b=e) (hmg:∀ a e e',(⟨(ln a e).X1,(ln a e).Y1,(ln e e').X2,(ln e e').Y2⟩:Segment)=ln a e')
    {out0:List Ln} (h0:out0.length≤5000000) (hout:∀ q ∈ out0,∀ x x',x<x'→¬ cS q.At (ln x x')) :
    ∃ L,aM body (0,out0)=some (out0++L.map fun p=>⟨ln p.1 p.2,nm (B p.1),nm (A p.1)⟩)∧qU (fun z=>cod (A z) (B z)) L∧L.length≤xs.length:=by
  obtain ⟨s,hs⟩:∃ s:Int→Int,s=fun z=>cod (A z) (B z):=⟨_,rfl⟩
  have hlen:=h.len
  have s0:∀ z,s z=0↔A z=B z:=fun z=>by rw [hs];exact h.s0 z
  have sinj:∀ z w,s z≠0→s z=s w→A z=A w∧B z=B w:=fun z w q1 q2=>by subst hs;exact h.inj q1 q2
  obtain ⟨lo,hlo⟩:=h.lo
  replace hlo:∀ z,z<lo→s z=0:=fun z hz=>by rw [hs];exact hlo z hz
  have hst:Iu s xs:=by rw [hs];exact Nb (fun p:Option Int×Option Int=>cod p.1 p.2) (g:=fun z=>(A z,B z)) h.st
  rw [← hs]
  obtain ⟨mk,hmk⟩:∃ mk:Int×Int→Ln,mk=fun p=>⟨ln p.1 p.2,nm (B p.1),nm (A p.1)⟩:=⟨_,rfl⟩
  rw [← hmk]
  obtain ⟨r,q1,q2⟩:=nA (fun t:Int×List Ln=>((xs.length:Int)-t.1).toNat)
    (fun t:Int×List Ln=>∃ k:Nat,t.1=k∧(k<xs.length∨k=0)∧(xs=[]→t.2=out0)∧(∀ e,xs[k]?=some e→∃ L,qU (cut s e) L∧L.length≤k∧t.2=out0++L.map mk))
    (fun r=>∃ L,r=out0++L.map mk∧qU s L∧L.length≤xs.length) body (by
      rintro ⟨k',out⟩ ⟨k,hk',hk,hnil,hI⟩
      simp only at hk' hnil hI ⊢
      subst hk'
      by_cases hkl:k+1<xs.length
      case neg =>
        right
        refine ⟨out,hend k out (by omega) (by omega), ?_⟩
        rcases hk with hk | rfl
        · obtain ⟨e,he⟩:∃ e,xs[k]?=some e:=⟨_,List.getElem?_eq_getElem hk⟩
          obtain ⟨L,hL,hLk,ho⟩:=hI e he
          refine ⟨L,ho,BM hL fun z hz=>?_,by omega⟩
          have:=h.high e (by rw [show xs.length-1=k from by omega];exact he) z hz
          rw [s0,this.1,this.2]
        · rcases Classical.em (xs=[]) with q | q
          · refine ⟨[],by rw [hnil q];simp,⟨.nil,fun a b=>⟨fun m=>by simp at m,fun m=>absurd ((s0 a).2 ?_) m.2.1⟩⟩,by simp⟩
            rw [(h.emp q a).1,(h.emp q a).2]
          · have hp:=List.length_pos_iff.2 q
            obtain ⟨e,he⟩:∃ e,xs[0]?=some e:=⟨_,List.getElem?_eq_getElem hp⟩
            obtain ⟨L,hL,hLk,ho⟩:=hI e he
            refine ⟨L,ho,BM hL fun z hz=>?_,by omega⟩
            have:=h.high e (by rw [show xs.length-1=0 from by omega];exact he) z hz
            rw [s0,this.1,this.2]
      left
      obtain ⟨e,he⟩:∃ e,xs[k]?=some e:=⟨_,List.getElem?_eq_getElem (by omega)⟩
      obtain ⟨e',he'⟩:∃ e',xs[k+1]?=some e':=⟨_,List.getElem?_eq_getElem hkl⟩
      obtain ⟨hee,hst'⟩:=Bj hst he he'
      obtain ⟨L,hL,hLk,ho⟩:=hI e he
      rw [hb k e e' out he he']
      have fin:∀ L',qU (cut s e') L'→L'.length≤k+1→bO ⟨ln e e',nm (B e),nm (A e)⟩ out=some (out0++L'.map mk) →
          ∃ s',(bO ⟨ln e e',nm (B e),nm (A e)⟩ out).bind (fun r=>some (.inl (((k+1:Nat):Int),r)))=some (.inl s':Int×List Ln ⊕ List Ln)∧(∃ k:Nat,s'.1=k∧(k<xs.length∨k=0)∧(xs=[]→s'.2=out0)∧(∀ e,xs[k]?=some e→∃ L,qU (cut s e) L∧L.length≤k∧s'.2=out0++L.map mk))∧((xs.length:Int)-s'.1).toNat<((xs.length:Int)-(k:Int)).toNat:=fun L' h1 h2 h3=>by
        rw [h3]
        refine ⟨(((k+1:Nat):Int),out0++L'.map mk),rfl,⟨k+1,rfl,.inl hkl,fun q=>by rw [q] at hkl;simp at hkl,fun e2 he2=>?_⟩,by simp only;omega⟩
        rw [he'] at he2;injection he2 with he2;subst he2
        exact ⟨L',h1,h2,rfl⟩
      have hne_iff:nm (B e)=nm (A e)↔s e=0:=by rw [s0,FN (h.sb e) (h.sa e)];exact eq_comm
      rcases Classical.em (s e=0) with e0 | e0
      · refine fin L (Wy hL hee hst' e0) (by omega) ?_
        rw [QF _ _ (hne_iff.2 e0),ho]
      · have hlh:(⟨ln e e',nm (B e),nm (A e)⟩:Ln).Low≠(⟨ln e e',nm (B e),nm (A e)⟩:Ln).High:=fun q=>e0 (hne_iff.1 q)
        rcases Classical.em (s (e-1)=s e) with e1 | e1
        · obtain ⟨l0,a,hla,hrun⟩:=EH hL hee hst' hlo e0 e1
          have hr:=uX.1 ((hL.2 a e).1 (by rw [hla];simp))
          have hb2:=sinj (e-1) a (by rw [e1];exact e0) (hr.2.2.2.1 (e-1) (by omega) (by omega))
          have hb3:=sinj (e-1) e (by rw [e1];exact e0) e1
          refine fin (l0++[(a,e')]) hrun (by rw [hla] at hLk;simp at hLk ⊢;omega) ?_
          have hout':out=(out0++l0.map mk)++[mk (a,e)]:=by rw [ho,hla];simp
          rw [hout',Wn _ _ _ (by rw [hla] at hLk;simp at hLk ⊢;omega) hlh,if_pos,List.map_append,← List.append_assoc]
          · rw [hmk]
            simp only [List.map_cons,List.map_nil]
            rw [hmg]
          · rw [hmk]
            refine ⟨?_, ?_,(hcs _ _ _ _).2 rfl⟩
            · show nm (B a)=nm (B e);rw [← hb2.2,hb3.2]
            · show nm (A a)=nm (A e);rw [← hb2.1,hb3.1]
        · refine fin (L++[(e,e')]) (JV hL hee hst' e0 e1) (by simp;omega) ?_
          have hres:(out0++L.map mk)++[(⟨ln e e',nm (B e),nm (A e)⟩:Ln)]=out0++(L++[(e,e')]).map mk:=by rw [List.map_append,← List.append_assoc,hmk];rfl
          rw [← hres,ho]
          rcases List.eq_nil_or_concat L with rfl | ⟨l0,p,hLp⟩
          · rcases List.eq_nil_or_concat out0 with rfl | ⟨o,q,hoq⟩
            · simp only [List.map_nil,List.append_nil,List.nil_append]
              exact join_nil _ hlh
            · have hoq':out0=o++[q]:=by rw [hoq];exact List.concat_eq_append
              simp only [List.map_nil,List.append_nil]
              rw [hoq',Wn _ _ _ (by rw [hoq'] at h0;simp at h0;omega) hlh,if_neg]
              exact fun z=>hout q (by rw [hoq'];simp) e e' hee z.2.2
          · have hLp':L=l0++[p]:=by rw [hLp];exact List.concat_eq_append
            have hout':out0++L.map mk=(out0++l0.map mk)++[mk p]:=by rw [hLp'];simp
            rw [hout',Wn _ _ _ (by rw [hLp'] at hLk;simp at hLk ⊢;omega) hlh,if_neg]
            intro z
            have hr:=uX.1 ((hL.2 p.1 p.2).1 (by rw [hLp'];simp))
            rw [hmk] at z
            obtain ⟨z1,z2,z3⟩:=z
            have z3':=(hcs p.1 p.2 e e').1 z3
            have z1':nm (B p.1)=nm (B e):=z1
            have z2':nm (A p.1)=nm (A e):=z2
            have y1:=(FN (h.sb _) (h.sb _)).1 z1'
            have y2:=(FN (h.sa _) (h.sa _)).1 z2'
            refine e1 ?_
            have:=hr.2.2.2.1 (e-1) (by omega) (by omega)
            rw [this,hs]
            simp only
            rw [y1,y2]) (0,out0)
      ⟨0,rfl,by omega,fun _=>rfl,fun e he=>by
        have hl:=h.low e he
        exact ⟨[],BN fun z hz=>by rw [s0,(hl z hz).1,(hl z hz).2],by simp,by simp⟩⟩
  obtain ⟨L,rfl,q3,q4⟩:=q2
  exact ⟨L,q1,q3,q4⟩
end Go.SM
