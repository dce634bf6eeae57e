/- The evaluator, part 2. -/
import Derived.Test.YtgbiimcgilaklaaGreatVHC1
import Derived.LoopN
import Derived.Scope
set_option linter.unusedVariables false
set_option linter.unusedSimpArgs false
set_option linter.unusedSectionVars false
open Array renaming eq_empty_of_size_eq_zero→P3,getD_eq_getD_getElem?→o7,getElem?_replicate→R2,getElem?_toList→w9,length_toList→K6,range→P6,replicate→N6,toArray_toList→S5,toList_append→O3,toList_inj→E9,toList_map→M3
open Bool renaming and_eq_true→o8,false_eq_true→j9,not_eq_true'→F2,or_eq_false_iff→I7,or_eq_true→F6
open Int renaming toNat_natCast→y9
open List renaming all_eq_true→p7,any_eq_true→E2,append_assoc→K4,cons_append→K8,eq_nil_of_length_eq_zero→H6,ext_getElem?→G0,foldl_cons→y8,getD_eq_getElem?_getD→m8,getElem?_append_left→x6,getElem?_append_right→x8,getElem?_cons_succ→J6,getElem?_cons_zero→I0,getElem?_drop→E8,getElem?_eq_getElem→l8,getElem?_eq_none→s5,getElem?_eq_some_iff→m9,getElem?_map→p8,length→Q2,length_cons→H5,length_map→p9,length_take→x7,map→l7,map_congr_left→G1,map_cons→E1,map_nil→H9,map_toArray→I9,mem_append→q9,mem_cons→H4,mem_cons_of_mem→F7,mem_filterMap→U3,mem_map→E3,mem_of_getElem?→m5,nil_append→I8,pairwise_append→J5,pairwise_cons→J2,range→s9,range'→P8,range'_succ→N5,range_eq_range'→O2
open List.cons renaming injEq→J9
open Nat renaming beq→E4,beq_refl→G9,ble→E6,eq_of_beq_eq_true→t7,le_of_ble_eq_true→J3,le_refl→v7,lt_of_lt_of_le→D8,lt_or_ge→G3,succ_mul→N1,zero_add→I2
open Option renaming bind_some→i9,getD_none→P0,getD_some→H2,isNone_iff_eq_none→Q3,isSome_iff_exists→u9,map_eq_some_iff→s6,map_some→s8
open Option.some renaming injEq→n9
open Prod.mk renaming injEq→t8
open Go.Result renaming andThen→V0,andThen_ok→m6
open Go.Sem renaming run→L3,run_bind→o5,run_pure→o9
namespace Go.VI
open Go.RowKit
section
variable {P:Program} {E:Ent} {S0:Nat→Prop} {N:Nat} {σ:St} {a:Act} {w:World} {c:Ctx}
theorem Dj {x:Option PV} {r:Res} (h:x.map Res.val=some r):∃ pv,x=some pv∧r=.val pv:=by
 cases x with
 | none=>simp at h
 | some pv=>simp at h;exact ⟨pv,rfl,h.symm⟩
theorem Ww {α:Type} (k:Nat):∀ (l:List α) (f:α→List Value),(∀ x ∈ l,(f x).length=k)→∀ i j,j<k→(l.flatMap f)[i*k+j]?=(l[i]?).bind fun x=>(f x)[j]?
 | [],f,_,i,j,_=>by simp
 | x::l,f,h,i,j,hj=>by
   have hx:=h x (by simp)
   rw [List.flatMap_cons]
   cases i with
   | zero=>simp only [Nat.zero_mul,I2];rw [x6 (by omega)];simp
   | succ i =>
     rw [N1,x8 (by omega),hx,show i*k+k+j-k=i*k+j from by omega,Ww k l f (fun y hy=>h y (by simp [hy])) i j hj]
     simp
theorem Gx {t e:TypeId} {len:Nat} {parts:Array (Nat×Operand)} (ht:kL P t=some e) (hidx:parts.toList.map (·.1)=s9 len) (hk:0<aJ P e) (hlim:len*aJ P e≤16777216) (hrow:Hf P e=true)
  (hszp:∀ p ∈ parts.toList,(a.eval p.2).cells.size=aJ P e):(Instr.buildSlice t len (parts.map fun p=>(p.1,a.eval p.2))).run P w=.ok (.slice (some ⟨w.heap.size,0,none⟩) len len) (w.alloc (.cells (parts.toList.flatMap fun p=>(a.eval p.2).cells.toList).toArray e)):=by
 obtain ⟨i,z,hi,hz,hsz,hby,hzs,hsize⟩:=vH hrow
 have hlen:parts.toList.length=len:=by have:=congrArg Q2 hidx;simpa using this
 let cells:List Value:=parts.toList.flatMap fun p=>(a.eval p.2).cells.toList
 have hfill:∀ (l:List (Nat×Operand)) (k:Nat) (pre post:List Value),(∀ p ∈ l,(a.eval p.2).cells.size=aJ P e)→l.map (·.1)=P8 k l.length→pre.length=k*aJ P e→post.length=l.length*aJ P e →
   Instr.fill (fun i=>some (i*aJ P e,aJ P e)) (pre++post).toArray (l.map fun p=>(p.1,a.eval p.2))=some (pre++l.flatMap fun p=>(a.eval p.2).cells.toList).toArray:=by
  intro l
  induction l with
  | nil=>intro k pre post _ _ _ hp;simp at hp;subst hp;simp [Instr.fill]
  | cons x l ih =>
    intro k pre post h1 h2 h3 h4
    obtain ⟨ix,x⟩:=x
    simp only [E1,H5,N5,J9] at h2
    obtain ⟨rfl,h2⟩:=h2
    simp only [H5,N1] at h4
    have hx:=h1 (ix,x) (by simp)
    simp only at hx
    simp only [E1,Instr.fill]
    rw [if_neg (by simp only [F6,decide_eq_true_eq,List.size_toArray,List.length_append];omega)]
    have e1 : (a.eval x).cells.zipIdx.foldl (fun cs (p:Value×Nat)=>cs.setIfInBounds (ix*aJ P e+p.2) p.1) (pre++post).toArray=((pre++(a.eval x).cells.toList)++post.drop (aJ P e)).toArray:=by
     rw [← Array.foldl_toList,Array.toList_zipIdx]
     have st:=fun i=>Ue (a.eval x).cells.toList (pre++post).toArray (ix*aJ P e) 0 i (by simp;omega)
     have hl:(a.eval x).cells.toList.length=aJ P e:=by simp [hx]
     apply Array.ext'
     apply G0
     intro m
     have hsz2:(((a.eval x).cells.toList.zipIdx 0).foldl (fun cs (p:Value×Nat)=>cs.setIfInBounds (ix*aJ P e+p.2) p.1) (pre++post).toArray).size=pre.length+post.length:=by rw [(st 0).1];simp
     by_cases hm:m<pre.length+post.length
     ·have hget:=(st m).2
      rw [w9,La (d:=undef) (by rw [hsz2];exact hm),hget]
      simp only [Nat.add_zero,hl]
      by_cases c1:m<pre.length
      ·rw [if_neg (by omega),K4,x6 c1]
       simp [o7,x6 c1,l8 c1]
      ·by_cases c2:m<pre.length+aJ P e
       ·rw [if_pos (by omega),K4,x8 (by omega),x6 (by omega),h3]
        have:m-ix*aJ P e<(a.eval x).cells.toList.length:=by omega
        rw [m8,l8 this]
        rfl
       ·rw [if_neg (by omega),x8 (by simp;omega),E8]
        have hp:aJ P e+(m-(pre++(a.eval x).cells.toList).length)=m-pre.length:=by simp;omega
        rw [hp]
        have hm2:m-pre.length<post.length:=by omega
        simp [o7,x8 (show pre.length≤m by omega),l8 hm2]
     ·rw [s5 (by rw [K6,hsz2];omega),s5]
      simp;omega
    rw [e1]
    have:=ih (ix+1) (pre++(a.eval x).cells.toList) (post.drop (aJ P e)) (fun p hp=>h1 p (by simp [hp])) h2 (by simp [hx,h3,N1]) (by simp;omega)
    rw [this]
    simp [K4]
 have hfl:=hfill parts.toList 0 [] ((P6 (len*aJ P e)).map (z.cells[· % z.cells.size]!)).toList hszp (by rw [hidx,hlen,O2]) (by simp) (by simp [hlen])
 simp only [I8] at hfl
 have hzv:(zeroValue e).run P w=.ok z w:=by simp [zeroValue,typeInfo,hi,hz]
 have hparts:(parts.map fun p=>(p.1,a.eval p.2)).toList=parts.toList.map fun p=>(p.1,a.eval p.2):=by simp
 have h24:¬ (len*aJ P e>2^24):=by omega
 unfold Instr.buildSlice
 simp only [o5,run_underlying (kM ht),m6,run_sizeOf ⟨i,hi⟩,h24,if_false,hparts]
 by_cases h0:len*aJ P e=0
 ·have hl0:len=0:=by rcases Nat.mul_eq_zero.1 h0 with h | h <;> omega
  have hp0:parts.toList=[]:=H6 (by omega)
  have hc0:cells=[]:=by simp [cells,hp0]
  simp only [h0,if_true,o9,m6,hp0,H9,Instr.fill,newRow,newObj,o5,L3,hc0]
  rw [hl0]
  have:Array.map (fun x=>(#[]:Array Value)[x%(#[]:Array Value).size]!) (P6 0)=#[]:=by simp
  rw [this];rfl
 ·simp only [h0,if_false,o5,hzv,m6,o9]
  have e2:(Array.map (fun x=>z.cells[x%z.cells.size]!) (P6 (len*aJ P e)))=((P6 (len*aJ P e)).map (z.cells[· % z.cells.size]!)).toList.toArray:=by rw [S5]
  rw [e2,hfl]
  simp only [newRow,newObj,o5,L3,m6,o9]
  rfl
theorem Yt {o:Oper} {t e:TypeId} {len:Nat} {parts:Array (Nat×Operand)} (ho:o.op=.buildSlice t len parts) (ht:kL P t=some e) (hidx:parts.toList.map (·.1)=s9 len) (hk:0<aJ P e) (hlim:len*aJ P e≤16777216)
  (hrow:Hf P e=true) (hall:(parts.toList.all fun p=>(pev σ p.2).cells.length==aJ P e&&(pev σ p.2).cells.all PV.still)=true) (h:Inv P E S0 N σ a w c) (hd:∀ k,o.dst=some k→k<N) :
  vJ P E S0 N o a w (Res.put σ o.dst (.val (.sl (parts.toList.map fun p=>(pev σ p.2).cells)))):=by
 obtain ⟨i,z,hi,hz,hsz,hby,hzs,hsize⟩:=vH hrow
 have hlen:parts.toList.length=len:=by have:=congrArg Q2 hidx;simpa using this
 -- the cells
 let cells:List Value:=parts.toList.flatMap fun p=>(a.eval p.2).cells.toList
 have each:∀ p ∈ parts.toList,(pev σ p.2).cells.length=aJ P e∧(pev σ p.2).cells.all PV.still=true:=fun p hp=>by
  have:=p7.1 hall p hp
  simpa using this
 have rep:∀ p ∈ parts.toList,(a.eval p.2).cells.size=aJ P e∧∀ (j:Nat) pv,(pev σ p.2).cells[j]?=some pv→RF w c.S pv ((a.eval p.2).cells.getD j undef)∧((a.eval p.2).cells.getD j undef).oneCell'=true:=fun p hp=>by
  obtain ⟨q1,q2⟩:=each p hp
  obtain ⟨q3,q4⟩:=(h.ev p.2).cells (Gc q2)
  exact ⟨by omega,fun j pv hg=>⟨(q4 j pv hg).1.ZQ (Py (p7.1 q2 pv (m5 hg))),(q4 j pv hg).2⟩⟩
 have hrun:(Instr.buildSlice t len (parts.map fun p=>(p.1,a.eval p.2))).run P w=.ok (.slice (some ⟨w.heap.size,0,none⟩) len len) (w.alloc (.cells cells.toArray e)):=Gx ht hidx hk hlim hrow fun p hp=>(rep p hp).1
 have hexec:(execOp a.eval o).run P w=.ok (.value (.slice (some ⟨w.heap.size,0,none⟩) len len)) (w.alloc (.cells cells.toArray e)):=by
  unfold execOp
  simp only [ho,o5,hrun,m6,o9]
 have hb:Below w.heap.size w (w.alloc (.cells cells.toArray e)):=(Below.refl _ _).alloc (v7 _) _
 have inv':=(h.ext hb).more (fun b=>c.S b∨b=w.heap.size) (fun b hb=>.inl hb) (fun b hb'=>by rcases hb' with q | q;exact D8 (h.ok.hS b q) hb.size;simp [q]) (fun b hb'=>by rcases hb' with q | q;exact h.sup b q;exact .inr (by rw [q];exact h.below.mine (v7 _)))
  (fun k hg hb'=>by rcases hb' with q | q;exact (h.ok.hD k hg).2.2 q;have:=(h.ok.hD k hg).2.1;omega)
 refine mQ hd (.inl hexec) inv' (.free _ _ ?_)
 have hsz:∀ p ∈ parts.toList,(a.eval p.2).cells.toList.length=aJ P e:=fun p hp=>by simpa using (rep p hp).1
 have hg:∀ i j pv,dV (parts.toList.map fun p=>(pev σ p.2).cells) i j=some pv→∃ p,parts.toList[i]?=some p∧p ∈ parts.toList∧(pev σ p.2).cells[j]?=some pv∧j<aJ P e∧i<len∧cells[i*aJ P e+j]?=some ((a.eval p.2).cells.getD j undef):=by
  intro i j pv hg
  unfold dV at hg
  rw [p8] at hg
  cases hp:parts.toList[i]? with
  | none=>simp [hp] at hg
  | some p =>
    simp only [hp,s8,i9] at hg
    have hmem:=m5 hp
    have hj:j<aJ P e:=by
     rcases G3 j (pev σ p.2).cells.length with q | q
     ·rw [(each p hmem).1] at q;exact q
     ·rw [s5 q] at hg;cases hg
    have hi':i<len:=by
     rcases G3 i parts.toList.length with q | q
     ·omega
     ·rw [s5 q] at hp;cases hp
    refine ⟨p,rfl,hmem,hg,hj,hi', ?_⟩
    rw [Ww (aJ P e) parts.toList (fun p=>(a.eval p.2).cells.toList) hsz i j hj,hp]
    simp only [i9]
    rw [w9]
    exact La (by have:=(rep p hmem).1;omega)
 refine .sl _ (aJ P e) _ _ _ (fun i j=>cells.getD (i*aJ P e+j) undef) (by simpa using hlen.symm) (fun l hl=>?_) hk (v7 _) (fun _=>⟨_,rfl,.inr rfl⟩) (fun ad had i j pv hg'=>?_) (fun i j pv hg'=>?_) (fun i j pv hg'=>?_)
 ·rw [E3] at hl
  obtain ⟨p,hp,rfl⟩:=hl
  exact (each p hp).1
 ·injection had with had
  subst had
  obtain ⟨p,_,_,_,_,_,q⟩:=hg i j pv hg'
  rw [add_lit,cell_of_row _ _ _ _ _ _ (heap_alloc_new w _),I2,List.getElem?_toArray,q,m8,q]
  rfl
 ·obtain ⟨p,_,hp,q1,_,_,q⟩:=hg i j pv hg'
  rw [m8,q]
  exact ((rep p hp).2 j pv q1).2
 ·obtain ⟨p,_,hp,q1,_,_,q⟩:=hg i j pv hg'
  rw [m8,q]
  exact (((rep p hp).2 j pv q1).1).same (fun b hS=>hb.block b (h.ok.hS b hS)) fun b hb=>.inl hb
theorem FI (h:Inv P E S0 N σ a w c):∀ (l:List Operand) {k:IntKind} {ns:List Int},Pb (l.map (pev σ))=some (k,ns)→l.map a.eval=ns.map (Value.int k)
 | [],_,_,hp=>by simp [Pb] at hp
 | [x],k,ns,hp=>by
   have rx:=h.ev x
   simp only [E1,H9] at hp ⊢
   generalize pev σ x=v at hp rx
   unfold Pb at hp
   split at hp
   ·rename_i k1 n1 e
    simp only [n9,t8] at hp
    obtain ⟨rfl,rfl⟩:=hp
    simp only [J9,and_true] at e
    subst e
    rw [rx.iB];rfl
   ·rename_i k1 n1 rest hne e
    simp only [J9] at e
    obtain ⟨_,e2⟩:=e
    subst e2
    simp [Pb] at hp
   ·cases hp
 | x::y::l,k,ns,hp=>by
   have rx:=h.ev x
   simp only [E1] at hp ⊢
   generalize pev σ x=v at hp rx
   unfold Pb at hp
   split at hp
   ·rename_i e;simp at e
   ·rename_i k1 n1 rest hne e
    simp only [J9] at e
    obtain ⟨e1,e2⟩:=e
    subst e1 e2
    split at hp
    ·rename_i k2 l2 hr
     split at hp
     ·rename_i ek
      subst ek
      simp only [n9,t8] at hp
      obtain ⟨rfl,rfl⟩:=hp
      have ih:=FI h (y::l) (by simpa using hr)
      simp only [E1] at ih
      rw [rx.iB,ih];rfl
     ·cases hp
    ·cases hp
   ·cases hp
theorem FG {f:Int→Int→Int} {g:Value→Value→Sem Value} (hg:∀ (k:IntKind) (x y:Int),g (.int k x) (.int k y)=pure (.int k (f x y))) (h:Inv P E S0 N σ a w c) {l:Array Operand} {r:Res} (hp:KV f (Pb (l.toList.map (pev σ)))=some r) :
  ∃ k n x rest,(l.map a.eval).toList=x::rest∧(rest.foldlM g x).run P w=.ok (.int k n) w∧r=.val (.lit (.int k n)):=by
 cases hpi:Pb (l.toList.map (pev σ)) with
 | none=>rw [hpi] at hp;cases hp
 | some p =>
   obtain ⟨k,ns⟩:=p
   have e:=FI h l.toList hpi
   rw [hpi] at hp
   cases ns with
   | nil=>cases hp
   | cons x rest =>
     simp only [KV,n9] at hp
     refine ⟨k,rest.foldl f x,.int k x,rest.map (Value.int k),by rw [M3,e];rfl, ?_,hp.symm⟩
     clear e hp hpi
     induction rest generalizing x with
     | nil=>rfl
     | cons y rest ih =>
       simp only [E1,List.foldlM_cons,y8,hg,o5,o9,m6]
       exact ih (f x y)
theorem Vj {eqn:TypeId→Nat} (hE:∀ t,0<eqn t→EqC P t (eqn t)) {o:Oper} {r:Res} (h:Inv P E S0 N σ a w c) (hd:∀ k,o.dst=some k→k<N)
  (hr:kQ P eqn σ (o.dst.getD 0) o.type o.op=some r):vJ P E S0 N o a w (r.put σ o.dst):=by
 generalize hop:o.op=op at hr
 unfold kQ at hr
 split at hr
 case h_1 x =>
  injection hr with hr;subst hr
  exact bY h hd (by unfold execOp;simp only [hop];rfl) (h.ev x)
 case h_2 x =>
  have hexec:(execOp a.eval o).run P w=.ok (.value (a.eval x)) w:=by unfold execOp;simp only [hop];rfl
  split at hr
  ·rename_i e hx ht
   split at hr
   case isFalse=>cases hr
   rename_i hrow
   injection hr with hr;subst hr
   obtain ⟨i,z,hi,hz,hsz,hby,hzs,hsize⟩:=vH hrow
   have rx:=h.ev x
   rw [hx] at rx
   have hv:a.eval x=.slice none 0 0:=rx.RQ
   rw [hv] at hexec
   let c':=c.lay (o.dst.getD 0) 0 (.slice none 0 0) e False
   have hhd:c'.hd (.top (o.dst.getD 0))=.slice none 0 0:=dP.2.1
   have hrep:oW P w c' (o.dst.getD 0) (.row e [] []):=⟨[],dP.2.2.1,by omega,by simp,by rw [hhd];exact World.ownsRow_nil w 0 e _,fun b hb=>by rw [hhd] at hb;simp [Value.ownBlock] at hb,by simp [dV],by simp [dV]⟩
   refine Js (Jt h hd) h hd hexec (Below.refl _ _) (Iz h.ok (v7 _) (fun q=>q.elim) fun q=>q.elim) (fun _=>Iff.rfl) (fun k hk=>⟨kO hk,(Gr hk).2⟩) hrep ?_
   obtain ⟨xs',r'⟩:=hrep
   have:=RV.row (P:=P) (w:=w) (c:=c') (.top (o.dst.getD 0)) e r'.ty r'.Bk
   rwa [hhd] at this
  ·injection hr with hr;subst hr
   exact bY h hd hexec (h.ev x)
 case h_3 c' x y =>
  split at hr
  ·rename_i hc
   injection hr with hr;subst hr
   have hv:=h.ev c'
   rw [hc] at hv
   have:=hv.iB
   exact bY h hd (by unfold execOp;simp [hop,this,asBool]) (h.ev x)
  ·rename_i hc
   injection hr with hr;subst hr
   have hv:=h.ev c'
   rw [hc] at hv
   have:=hv.iB
   exact bY h hd (by unfold execOp;simp [hop,this,asBool]) (h.ev y)
  ·cases hr
 case h_4 e =>
  split at hr
  ·rename_i z hz
   injection hr with hr;subst hr
   have hzv:(zeroValue e).run P w=.ok z w:=by
    unfold Hg at hz
    cases hi:P.info? e with
    | none=>simp [hi] at hz
    | some i=>simp [hi] at hz;simp [zeroValue,typeInfo,hi,hz]
   obtain ⟨z1,z2⟩:=Yo (w:=w) (c:=c) (z:=z)
   refine EA (T:=e) (vs:=z.cells) h hd ?_ z1.symm (fun i pv hg=>.free _ _ (z2 i pv hg)) (Jz _ _ (Qy fun i pv hg=>(z2 i pv hg).free))
   unfold execOp
   simp only [hop,Instr.alloc,o5,hzv,m6,o9,newVar,newRow]
   rfl
  ·cases hr
 case h_5 e x =>
  split at hr
  case isFalse=>cases hr
  rename_i hcell
  injection hr with hr;subst hr
  obtain ⟨q1,q2⟩:=(h.ev x).cells hcell
  refine EA (T:=e) (vs:=(a.eval x).cells) h hd ?_ (by rw [Bn,q1]) (fun i pv hg=>?_) (Gm _ _)
  ·unfold execOp
   simp only [hop,Instr.box,o5,m6,o9,newVar,newRow]
   rfl
  ·rw [Nt] at hg
   cases hc:(pev σ x).cells[i]? with
   | none=>simp [hc] at hg
   | some p=>simp [hc] at hg;subst hg;exact (q2 i p hc).1.kill _
 case h_6 t parts =>
  split at hr
  case h_2=>cases hr
  rename_i z hz
  have key:∀ cs,(match P.underlying t with
   | some (.struct fs)=>if fs.toList.all (fun f=>(P.info? f.type).isSome) then (Oz (fun i=>(fs[i]?).map fun f=>(f.offset,aJ P f.type)) (ofV z).cells (parts.toList.map fun p=>(p.1,pev σ p.2))) else none
   | some (.array _ e)=>if (P.info? e).isSome then (Oz (fun i=>some (i*aJ P e,aJ P e)) (ofV z).cells (parts.toList.map fun p=>(p.1,pev σ p.2))) else none
   | _=>none)=some cs→vJ P E S0 N o a w (Res.put σ o.dst (.val (.agg cs))):=by
   intro cs hcs
   obtain ⟨v,q1,q2⟩:=PF hz h hcs
   refine bY h hd ?_ q2
   unfold execOp
   simp only [hop,o5,q1,m6,o9]
  split at hr
  ·rename_i fs hu
   split at hr
   case isFalse=>cases hr
   rename_i hall
   simp only [s6] at hr
   obtain ⟨cs,h1,rfl⟩:=hr
   exact key cs (by rw [hu];simp only;rw [if_pos hall];exact h1)
  ·rename_i n e hu
   split at hr
   case isFalse=>cases hr
   rename_i hall
   simp only [s6] at hr
   obtain ⟨cs,h1,rfl⟩:=hr
   exact key cs (by rw [hu];simp only;rw [if_pos hall];exact h1)
  ·cases hr
 case h_7 t len parts =>
  split at hr
  case h_2=>cases hr
  rename_i e ht
  split at hr
  case isFalse=>cases hr
  rename_i hc
  injection hr with hr;subst hr
  exact Yt hop ht hc.1 hc.2.1 hc.2.2.1 hc.2.2.2.1 hc.2.2.2.2 h hd
 case h_8 t x =>
  split at hr
  case h_2=>cases hr
  rename_i agg hagg
  obtain ⟨pv,h1,rfl⟩:=Dj hr
  obtain ⟨v,q1,q2⟩:=Xz hagg h (h.ev x) h1
  exact bY h hd (by unfold execOp;simp only [hop,o5,q1,m6,o9]) q2
 case h_9 t ad x =>
  split at hr
  case h_2=>cases hr
  rename_i agg hagg
  exact NM hop hagg h hd hr
 case h_10 op t x y ty =>
  have rx:=h.ev x
  have ry:=h.ev y
  split at hr
  ·rename_i xs ys hx hy
   rw [hx] at rx
   rw [hy] at ry
   split at hr
   case isFalse=>cases hr
   rename_i hlen
   split at hr
   case h_2=>cases hr
   rename_i b hb
   have hE':EqC P t xs.length:=by rw [hlen.1];exact hE t (by rw [← hlen.1];exact hlen.2)
   split at hr
   ·injection hr with hr;subst hr
    have:=XH (x:=x) (y:=y) hE' rx ry hb (.inl rfl)
    exact bY h hd (by unfold execOp;simp only [hop];rw [o5,this];simp) (.free _ _ (.lit _))
   ·injection hr with hr;subst hr
    have:=XH (x:=x) (y:=y) hE' rx ry hb (.inr rfl)
    exact bY h hd (by unfold execOp;simp only [hop];rw [o5,this];simp) (.free _ _ (.lit _))
   ·cases hr
  ·obtain ⟨pv,h1,rfl⟩:=Dj hr
   obtain ⟨v,q1,q2,hg⟩:=SE (op:=op) (t:=t) rx ry h1
   refine bY h hd ?_ q2
   unfold execOp
   simp only [hop,o5,hg,q1,m6,o9]
 case h_11 op t x =>
  obtain ⟨pv,h1,rfl⟩:=Dj hr
  obtain ⟨v,q1,q2⟩:=ZB (h.ev x) h1
  exact bY h hd (by unfold execOp;simp only [hop,o5,q1,m6,o9]) q2
 case h_12 src dst x =>
  split at hr
  case h_2=>cases hr
  rename_i d k k0 n hs hk hx
  injection hr with hr;subst hr
  have rx:=h.ev x
  rw [hx] at rx
  have hv:=rx.iB
  have hu:P.underlying dst=some (.int k):=by
   unfold OH at hk
   split at hk
   ·rename_i he;injection hk with hk;subst hk;exact he
   ·cases hk
  refine bY h hd ?_ (.free _ _ (.lit _))
  unfold execOp
  simp only [hop,hv,convert,o5,run_underlying hs,run_underlying hu,m6,Conv.intToInt,o9]
 case h_13 f first caps =>
  split at hr
  case isFalse=>cases hr
  rename_i hfirst
  obtain rfl:first=#[]:=by simpa using hfirst
  injection hr with hr;subst hr
  have hv:RV P w c (.fn f (caps.toList.map (pev σ))) (.func (.func f) #[] (caps.map a.eval)):=by
   refine .fn f _ _ (by simp) fun i pv hg=>?_
   simp only [p8] at hg
   cases hc:caps.toList[i]? with
   | none=>simp [hc] at hg
   | some x =>
     simp [hc] at hg
     subst hg
     have:(caps.map a.eval).getD i undef=a.eval x:=by
      rw [w9] at hc
      simp [o7,hc]
     rw [this]
     exact h.ev x
  exact bY h hd (by unfold execOp;simp only [hop,Instr.makeFunc,o5,o9,m6,I9,H9]) hv
 case h_14 t l m =>
  split at hr
  case h_2=>cases hr
  rename_i e n k ht hl hm
  split at hr
  case h_2=>cases hr
  rename_i z hz
  split at hr
  case isFalse=>cases hr
  rename_i hc
  injection hr with hr;subst hr
  exact KL hop ht hl hm hz hc.1 hc.2.1 hc.2.2.1 hc.2.2.2 (J:=[]) (fun _ _ h=>nomatch h) h hd
 case h_15 t x lo hi =>
  split at hr
  case h_2=>cases hr
  rename_i e ht
  split at hr
  case isFalse=>cases hr
  rename_i hinfo
  split at hr
  case h_2=>cases hr
  rename_i l h' hl hh
  obtain ⟨pv,h1,rfl⟩:=Dj hr
  exact TM hop ht (u9.1 hinfo) hl hh h hd h1
 case h_16 st x f =>
  split at hr
  case h_2=>cases hr
  rename_i off ft hf
  split at hr
  case isTrue=>cases hr
  rename_i hz
  obtain ⟨pv,h1,rfl⟩:=Dj hr
  obtain ⟨ad,q1,q2⟩:=KT (h.ev x) h1
  unfold WY at hf
  split at hf
  case h_2=>cases hf
  rename_i fs hu
  simp only [s6,t8] at hf
  obtain ⟨fd,hfd,rfl,rfl⟩:=hf
  have hinfo:∃ i,P.info? fd.type=some i:=by
   unfold aJ Program.cellsOf at hz
   cases hi:P.info? fd.type with
   | none=>simp [hi] at hz
   | some i=>exact ⟨i,rfl⟩
  refine bY h hd ?_ q2
  unfold execOp
  simp only [hop,q1,Instr.fieldAt,o5,run_underlying hu,m6,hfd,Instr.sureAddr,o9,fieldPlace,run_sizeOf hinfo,hz,if_false]
 case h_17 st x f =>
  split at hr
  case h_2=>cases hr
  rename_i off ft cs hf hx
  have rx:=h.ev x
  rw [hx] at rx
  obtain ⟨vs,e1,e2,e3⟩:=Zq rx
  have hu:∃ fs fd,P.underlying st=some (.struct fs)∧fs[f]?=some fd∧fd.offset=off∧fd.type=ft:=by
   unfold WY at hf
   split at hf
   case h_2=>cases hf
   rename_i fs hu
   simp only [s6,t8] at hf
   obtain ⟨fd,hfd,q1,q2⟩:=hf
   exact ⟨fs,fd,hu,hfd,q1,q2⟩
  obtain ⟨fs,fd,hu,hfd,rfl,rfl⟩:=hu
  have fin:∀ agg pv,Hm P fd.type=some agg→(if agg=true then (range? cs fd.offset (aJ P fd.type)).map PV.agg else cs[fd.offset]?)=some pv→vJ P E S0 N o a w (Res.put σ o.dst (.val pv)):=by
   intro agg pv hagg hh
   obtain ⟨v,q1,q2⟩:=KU hagg e2 e3 hh
   refine bY h hd ?_ q2
   unfold execOp
   simp only [hop,e1,Instr.field,o5,run_underlying hu,m6,hfd,asAgg,o9,q1]
  split at hr
  ·rename_i hagg
   simp only [s6] at hr
   obtain ⟨l,hl,rfl⟩:=hr
   exact fin true _ hagg (by simp [hl])
  ·rename_i hagg
   obtain ⟨pv,h1,rfl⟩:=Dj hr
   exact fin false _ hagg h1
  ·cases hr
 case h_18 t x ix =>
  split at hr
  case h_3=>cases hr
  case h_1 =>
   rename_i e i ht hi
   split at hr
   case isFalse=>cases hr
   rename_i hinfo
   obtain ⟨pv,h1,rfl⟩:=Dj hr
   obtain ⟨k,hk⟩:=rO (h.ev ix) hi
   obtain ⟨v,q1,q2⟩:=Zl (k:=k) ht (u9.1 hinfo) h.fE (h.ev x) h1
   exact bY h hd (by unfold execOp;simp only [hop,hk,o5,q1,m6,o9]) q2
  case h_2 =>
   rename_i i ht0 hi
   split at hr
   case h_2=>cases hr
   rename_i n e ht
   split at hr
   case isFalse=>cases hr
   rename_i hlt
   obtain ⟨pv,h1,rfl⟩:=Dj hr
   obtain ⟨k,hk⟩:=rO (h.ev ix) hi
   obtain ⟨ad,q1,q2⟩:=KT (h.ev x) h1
   have hu:P.underlying t=some (.array n e):=by
    unfold WX at ht
    split at ht
    ·rename_i he;simp at ht;obtain ⟨rfl,rfl⟩:=ht;exact he
    ·cases ht
   have h2:(0:Int)≤(i:Int)∧(i:Int)<(n:Int):=by omega
   refine bY h hd ?_ q2
   unfold execOp
   simp only [hop,hk,q1,Instr.indexAt,asIntOf,Instr.sureAddr,o5,o9,m6,run_underlying hu,h2,and_self,if_true,run_sizeOf (u9.1 hlt.2),y9]
 case h_19 t x ix =>
  split at hr
  case h_2=>cases hr
  rename_i n e i cs ht hi hx
  have rx:=h.ev x
  rw [hx] at rx
  obtain ⟨vs,e1,e2,e3⟩:=Zq rx
  obtain ⟨k,hk⟩:=rO (h.ev ix) hi
  split at hr
  case isFalse=>cases hr
  rename_i hlt
  have hu:P.underlying t=some (.array n e):=by
   unfold WX at ht
   split at ht
   ·rename_i he;simp at ht;obtain ⟨rfl,rfl⟩:=ht;exact he
   ·cases ht
  have fin:∀ agg pv,Hm P e=some agg→(if agg=true then (range? cs (i*aJ P e) (aJ P e)).map PV.agg else cs[i*aJ P e]?)=some pv→vJ P E S0 N o a w (Res.put σ o.dst (.val pv)):=by
   intro agg pv hagg hh
   obtain ⟨v,q1,q2⟩:=KU hagg e2 e3 hh
   refine bY h hd ?_ q2
   have h2:(0:Int)≤(i:Int)∧(i:Int)<(n:Int):=by omega
   unfold execOp
   simp only [hop,e1,hk,Instr.index,asIntOf,o5,run_underlying hu,m6,o9,h2,and_self,if_true,run_sizeOf (Ar hagg),y9,q1]
  split at hr
  ·rename_i hagg
   simp only [s6] at hr
   obtain ⟨l,hl,rfl⟩:=hr
   exact fin true _ hagg (by simp [hl])
  ·rename_i hagg
   obtain ⟨pv,h1,rfl⟩:=Dj hr
   exact fin false _ hagg h1
  ·cases hr
 case h_20 x i =>
  split at hr
  case h_2=>cases hr
  rename_i cs hx
  obtain ⟨pv,h1,rfl⟩:=Dj hr
  have rx:=h.ev x
  rw [hx] at rx
  obtain ⟨vs,e1,e2,e3⟩:=OI rx
  have hi:i<cs.length:=by
   rcases G3 i cs.length with hh | hh
   ·exact hh
   ·rw [s5 hh] at h1;cases h1
  refine bY h hd ?_ (e3 i pv h1)
  unfold execOp
  simp only [hop,e1,Instr.extract,La (d:=undef) (show i<vs.size by omega),o5,o9,m6]
 case h_21 t =>
  split at hr
  case isFalse=>cases hr
  injection hr with hr;subst hr
  exact HL hop h hd
 case h_22 t x k ok =>
  split at hr
  case isFalse=>cases hr
  rename_i ht
  split at hr
  case h_2=>cases hr
  rename_i m kk hm hk
  obtain ⟨b,hX,hrep⟩:=EC h.fE (h.ev x) hm
  have hK:=Mr (h.ev k) hk
  have hrun:=MY ht hrep kk ok
  have hexec:∀ v,(Instr.lookup t (.map (some b)) (.int .i64 kk) ok).run P w=.ok v w→(execOp a.eval o).run P w=.ok (.value v) w:=fun v hv=>by
   unfold execOp
   simp only [hop,hX,hK,o5,hv,m6,o9]
  split at hr
  ·rename_i hok
   injection hr with hr;subst hr
   rw [if_pos hok] at hrun
   refine bY h hd (hexec _ hrun) (.free _ _ (.tup _ _ rfl fun i pv hg=>?_))
   match i,hg with
   | 0,hg=>simp at hg;subst hg;exact .lit _
   | 1,hg=>simp at hg;subst hg;exact .lit _
  ·rename_i hok
   injection hr with hr;subst hr
   rw [if_neg hok] at hrun
   exact bY h hd (hexec _ hrun) (.free _ _ (.lit _))
 case h_23 t x k v =>
  split at hr
  case isFalse=>cases hr
  rename_i ht
  split at hr
  case h_2=>cases hr
  rename_i g kk vv hx hk hv
  split at hr
  case h_2=>cases hr
  rename_i m hg
  injection hr with hr;subst hr
  have rx:=h.ev x
  rw [hx] at rx
  have hX:a.eval x=.map (some (c.τ (.top g))):=by
   generalize a.eval x=X at rx
   cases rx with
   | free _ _ hf=>cases hf
   | mp=>rfl
  have hK:=Mr (h.ev k) hk
  have hV:=Mr (h.ev v) hv
  obtain ⟨hD,hrep⟩:=h.fE g _ hg
  obtain ⟨w',q1,q2,q3,q4,q5,q6,q7⟩:=BH ht hrep kk vv
  refine mQ (v:=undef) (c':=c) hd (.inr ⟨?_,rfl⟩) (h.turn (k0:=.top g) hD q3 q4 q5 q6 q7 ⟨hD,q2⟩) (.free _ _ (.lit _))
  unfold execOp
  simp only [hop,hX,hK,hV,o5,q1,m6,o9]
 case h_24 t x k v =>
  split at hr
  case isFalse=>cases hr
  rename_i ht
  split at hr
  case h_2=>cases hr
  rename_i g kk vv hx hk hv
  split at hr
  case h_2=>cases hr
  rename_i m hg
  injection hr with hr;subst hr
  have rx:=h.ev x
  rw [hx] at rx
  have hX:a.eval x=.map (some (c.τ (.top g))):=by
   generalize a.eval x=X at rx
   cases rx with
   | free _ _ hf=>cases hf
   | mp=>rfl
  have hK:=Mr (h.ev k) hk
  have hV:=Mr (h.ev v) hv
  obtain ⟨hD,hrep⟩:=h.fE g _ hg
  obtain ⟨w',q1,q2,q3,q4,q5,q6,q7⟩:=BH ht hrep kk vv
  refine mQ (v:=undef) (c':=c) hd (.inr ⟨?_,rfl⟩) (h.turn (k0:=.top g) hD q3 q4 q5 q6 q7 ⟨hD,q2⟩) (.free _ _ (.lit _))
  unfold execOp
  simp only [hop,hX,hK,hV,o5,q1,m6,o9]
 case h_25 cl =>
  obtain ⟨callee,args,argTypes⟩:=cl
  unfold Tb at hr
  simp only at hr
  split at hr
  ·split at hr
   case h_2=>cases hr
   rename_i x t ha ht
   obtain rfl:args=#[x]:=E9.1 ha
   obtain rfl:argTypes=#[t]:=E9.1 ht
   have hexec:∀ n,(Builtin.len_ #[t] o.type #[a.eval x]).run P w=.ok (.int .i64 n) w→(execOp a.eval o).run P w=.ok (.value (.int .i64 n)) w:=by
    intro n hrun
    unfold execOp
    simp only [hop,resolve,invoke,builtin,o5,o9,m6,I9,E1,H9,hrun]
   split at hr
   ·rename_i e hu
    simp only [s6] at hr
    obtain ⟨n,hn,rfl⟩:=hr
    exact bY h hd (hexec n (WI hu h.fE (h.ev x) hn _)) (.free _ _ (.lit _))
   ·rename_i hu
    simp only [s6] at hr
    obtain ⟨n,hn,rfl⟩:=hr
    exact bY h hd (hexec n (SK hu (h.ev x) hn _)) (.free _ _ (.lit _))
   ·cases hr
  ·split at hr
   case h_2=>cases hr
   rename_i s x t t' ha ht
   obtain rfl:args=#[s,x]:=E9.1 ha
   obtain rfl:argTypes=#[t,t']:=E9.1 ht
   split at hr
   case isFalse=>cases hr
   rename_i he
   subst he
   split at hr
   case h_2=>cases hr
   rename_i e ht2
   split at hr
   case isFalse=>cases hr
   rename_i hrow
   exact HU hop ht2 hrow h hd hr
  ·obtain ⟨k,n,x,rest,q0,q1,q2⟩:=FG (f:=imax) (g:=Builtin.max2) (fun k a b=>rfl) h hr
   subst q2
   refine bY h hd ?_ (.free _ _ (.lit _))
   unfold execOp
   simp only [hop,resolve,invoke,builtin,o5,o9,m6,Builtin.max_]
   simp only [q0,q1,o5,o9,m6]
  ·obtain ⟨k,n,x,rest,q0,q1,q2⟩:=FG (f:=wJ) (g:=Builtin.min2) (fun k a b=>rfl) h hr
   subst q2
   refine bY h hd ?_ (.free _ _ (.lit _))
   unfold execOp
   simp only [hop,resolve,invoke,builtin,o5,o9,m6,Builtin.min_]
   simp only [q0,q1,o5,o9,m6]
  ·cases hr
 case h_26 x =>
  have rx:=h.ev x
  have key:∀ p,a.eval x=.pointer (some p)→(execOp a.eval o).run P w=.ok (.value (a.eval x)) w:=fun p hp=>by
   unfold execOp
   simp only [hop,hp];rfl
  split at hr
  ·rename_i g off hx
   injection hr with hr;subst hr
   rw [hx] at rx
   have:∃ p,a.eval x=.pointer (some p):=by
    generalize a.eval x=X at rx
    cases rx with
    | free _ _ hf=>cases hf
    | ptr=>exact ⟨_,rfl⟩
   obtain ⟨p,hp⟩:=this
   exact bY h hd (key p hp) rx
  ·rename_i cs off hx
   injection hr with hr;subst hr
   rw [hx] at rx
   have:∃ p,a.eval x=.pointer (some p):=by
    generalize a.eval x=X at rx
    cases rx with
    | free _ _ hf=>cases hf with
      | vptr=>exact ⟨_,rfl⟩
   obtain ⟨p,hp⟩:=this
   exact bY h hd (key p hp) rx
  ·rename_i kk e i off hx
   injection hr with hr;subst hr
   rw [hx] at rx
   have:∃ p,a.eval x=.pointer (some p):=by
    generalize a.eval x=X at rx
    cases rx with
    | free _ _ hf=>cases hf
    | rptr=>exact ⟨_,rfl⟩
   obtain ⟨p,hp⟩:=this
   exact bY h hd (key p hp) rx
  ·cases hr
 case h_27=>cases hr
end
end Go.VI
namespace Go.VI
open Go.RowKit
def Key.dO (k:Key) (g:Nat):Key:=match k with
 | .top _=>.top g
 | .sub _ i j=>.sub g i j
theorem qZ (k:Key) (g:Nat):(k.dO g).tag=g:=by cases k <;> rfl
theorem Mw (k:Key) (g g':Nat):(k.dO g).dO g'=k.dO g':=by cases k <;> rfl
theorem Ll (k:Key):k.dO k.tag=k:=by cases k <;> rfl
theorem Nz {k k':Key} {g:Nat} (h:k.dO g=k'.dO g) (ht:k.tag=k'.tag):k=k':=by
 have:=congrArg (·.dO k.tag) h
 simp only [Mw] at this
 rwa [Ll,ht,Ll] at this
abbrev TL:=List (Nat×Nat)
def TL.out:TL→Nat→Option Nat
 | [],_=>none
 | (t,g)::R,x=>if E4 x t=true then some g else TL.out R x
def TL.inn:TL→Nat→Option Nat
 | [],_=>none
 | (t,g)::R,x=>if E4 x g=true then some t else TL.inn R x
def TL.okB:TL→Bool
 | []=>true
 | (t,g)::R=>(TL.out R t).isNone&&(TL.inn R g).isNone&&TL.okB R
theorem sC {a b:Nat} (h:a≠b):E4 a b=false:=by cases hq:E4 a b with | false=>rfl | true=>exact absurd (t7 hq) h
theorem TL.lH:∀ {R:TL},R.okB=true→∀ {t g:Nat},(R.out t=some g↔R.inn g=some t)
 | [],_,t,g=>by simp [TL.out,TL.inn]
 | (t0,g0)::R,h,t,g=>by
   simp only [TL.okB,o8,Q3] at h
   obtain ⟨⟨h1,h2⟩,h3⟩:=h
   have ih:=@TL.lH R h3 t g
   simp only [TL.out,TL.inn]
   by_cases ht:t=t0 <;> by_cases hg:g=g0
   ·subst ht hg;simp
   ·subst ht
    simp only [G9,if_true,sC hg,j9,if_false,n9]
    constructor
    ·intro e;exact absurd e.symm hg
    ·intro e;rw [(@TL.lH R h3 t g).2 e] at h1;cases h1
   ·subst hg
    simp only [G9,if_true,sC ht,j9,if_false,n9]
    constructor
    ·intro e;rw [ih.1 e] at h2;cases h2
    ·intro e;exact absurd e.symm ht
   ·simp only [sC ht,sC hg,j9,if_false];exact ih
mutual
def PV.tW (R:TL) (h:HP):Nat→PV→PV
 | 0,_=>.undef
 | n+1,v=>match v with
   | .row k e=>(match R.inn k.tag with | some t=>.row (k.dO t) e | none=>PV.view h (n+1) (.row k e))
   | .part k e lo m=>(match R.inn k.tag with | some t=>.part (k.dO t) e lo m | none=>PV.view h (n+1) (.part k e lo m))
   | .rptr k e i off=>(match R.inn k.tag with | some t=>.rptr (k.dO t) e i off | none=>PV.view h (n+1) (.rptr k e i off))
   | .ptr g off=>(match R.inn g with | some t=>.ptr t off | none=>PV.view h (n+1) (.ptr g off))
   | .mp g=>(match R.inn g with | some t=>.mp t | none=>PV.view h (n+1) (.mp g))
   | .agg cs=>.agg (PV.qD R h n cs)
   | .tup cs=>.tup (PV.qD R h n cs)
   | .fn f cs=>.fn f (PV.qD R h n cs)
   | .nl=>.sl []
   | v=>v
def PV.qD (R:TL) (h:HP):Nat→List PV→List PV
 | 0,cs=>cs.map fun _=>.undef
 | n+1,cs=>match cs with
   | []=>[]
   | c::cs=>PV.tW R h n c::PV.qD R h n cs
end
def HO.tW (R:TL) (h:HP):HO→HO
 | .box cs=>.box (PV.qD R h DEEP cs)
 | .row e J es=>.row e J es
 | .map m=>.map m
 | .it l u=>.it l u
 | .tl e l=>.tl e l
def handed (R:TL) (hv h:HP):TL→HP
 | []=>[]
 | (t,g)::L=>match h.get g with
   | some o=>(t,o.tW R hv)::handed R hv h L
   | none=>handed R hv h L
mutual
def PV.ren (R:TL):PV→PV
 | .row k e=>(match R.out k.tag with | some g=>.row (k.dO g) e | none=>.undef)
 | .part k e lo m=>(match R.out k.tag with | some g=>.part (k.dO g) e lo m | none=>.undef)
 | .rptr k e i off=>(match R.out k.tag with | some g=>.rptr (k.dO g) e i off | none=>.undef)
 | .ptr g off=>(match R.out g with | some g=>.ptr g off | none=>.undef)
 | .mp g=>(match R.out g with | some g=>.mp g | none=>.undef)
 | .agg cs=>.agg (PV.Ut R cs)
 | .tup cs=>.tup (PV.Ut R cs)
 | .fn f cs=>.fn f (PV.Ut R cs)
 | .undef=>.undef
 | .lit v=>.lit v
 | .nl=>.nl
 | .sl es=>.sl es
 | .fmap m=>.fmap m
 | .vptr cs o=>.vptr cs o
def PV.Ut (R:TL):List PV→List PV
 | []=>[]
 | c::cs=>PV.ren R c::PV.Ut R cs
end
def HO.ren (R:TL):HO→HO
 | .box cs=>.box (PV.Ut R cs)
 | .row e J es=>.row e J es
 | .map m=>.map m
 | .it l u=>.it l u
 | .tl e l=>.tl e l
def HP.ren (R:TL):HP→HP
 | []=>[]
 | (t,o)::h=>match R.out t with
   | some g=>(g,o.ren R)::HP.ren R h
   | none=>HP.ren R h
mutual
def PV.ind:PV→Bool
 | .sl _=>false
 | .fmap _=>false
 | .vptr _ _=>false
 | .agg cs=>PV.CF cs
 | .tup cs=>PV.CF cs
 | .fn _ cs=>PV.CF cs
 | _=>true
def PV.CF:List PV→Bool
 | []=>true
 | c::cs=>PV.ind c&&PV.CF cs
end
def YB (es:List (List PV)):Prop:=∀ i j p,dV es i j=some p→∃ v,p=.lit v
def HO.ind:HO→Prop
 | .box cs=>PV.CF cs=true
 | .row _ J es=>∀ i j p,dV es i j=some p→(Jat J j=none∧∃ v,p=.lit v)∨((Jat J j).isSome=true∧∃ es',p=.sl es'∧YB es')
 | .map _=>True
 | .it _ _=>False
 | .tl _ _=>False
def gone (R1:TL) (pins:List Nat) (k:Key):Bool:=(R1.inn k.tag).isSome&&(!(pins.any (fun g=>E4 g k.tag)) || !k.QW)
def HP.del (R1:TL):HP→HP
 | []=>[]
 | (g,o)::h=>if (R1.inn g).isSome=true then HP.del R1 h else (g,o)::HP.del R1 h
def after (R1:TL) (pins:List Nat) (σ:St) (H1:HP):St:=⟨(σ.kill (gone R1 pins)).s,H1.ren R1++((σ.kill (gone R1 pins)).h.del R1)⟩
def HP.only (vis:List Nat) (h:HP):HP:=vis.filterMap fun g=>(h.get g).map fun o=>(g,o)
structure DA (P:Program) (f:FuncId) (args:List PV) (d:Option Nat) (σ:St) (R R1:TL) (vis:List Nat) (qs:List PV) (H0:HP) (r:PV) (H1:HP) (K:St→Prop):Prop where
 pc:PC P f qs H0 r H1
 hR:R.okB=true
 hR1:R1.okB=true
 sub:∀ t g,R.out t=some g→R1.out t=some g
 small:∀ t g,R1.out t=some g→(R.out t=some g∧(PIN≤g→PIN≤t))∨(R.out t=none∧g<PIN)
 MO:vis.all (fun g=>(R.inn g).isNone)=true
 hq:PV.qD R (σ.h.only vis) DEEP args=qs
 hH:handed R (σ.h.only vis) σ.h R=H0
 ind:vis=[]∨(r.ind=true∧∀ g o,H1.get g=some o→o.ind)
 K:K (mU (after R1 ((R.filter fun x=>E6 PIN x.1).map (·.2)) σ H1) d (r.ren R1))
theorem Vf {R:TL} {t g:Nat} (h:R.inn g=some t):(t,g) ∈ R:=by
 induction R with
 | nil=>cases h
 | cons x R ih =>
   obtain ⟨t0,g0⟩:=x
   simp only [TL.inn] at h
   split at h
   ·rename_i hb
    have:=t7 hb
    injection h with h
    subst h this
    simp
   ·exact F7 _ (ih h)
theorem KQ {R:TL} (hR:R.okB=true) {t g:Nat} (h:(t,g) ∈ R):R.out t=some g:=by
 induction R with
 | nil=>cases h
 | cons x R ih =>
   obtain ⟨t0,g0⟩:=x
   simp only [TL.okB,o8,Q3] at hR
   simp only [TL.out]
   rcases H4.1 h with e | e
   ·injection e with e1 e2;subst e1 e2;simp
   ·by_cases ht:t=t0
    ·subst ht;rw [ih hR.2 e] at hR;cases hR.1.1
    ·rw [sC ht];exact ih hR.2 e
theorem JT (R:TL) (h:HP) (g:Nat):(h.del R).get g=if (R.inn g).isSome=true then none else h.get g:=by
 induction h with
 | nil=>simp [HP.del,HP.get]
 | cons x h ih =>
   obtain ⟨g',o⟩:=x
   simp only [HP.del]
   by_cases e:g=g'
   ·subst e
    split
    ·rename_i hp;rw [ih];simp [hp]
    ·rename_i hp;simp [HP.get,hp]
   ·split
    ·rw [ih];simp [HP.get,sC e]
    ·simp only [HP.get,sC e,j9,if_false];rw [ih]
theorem SA {vis:List Nat} {h:HP} {g:Nat} {o:HO} (hg:(h.only vis).get g=some o):g ∈ vis∧h.get g=some o:=by
 unfold HP.only at hg
 induction vis with
 | nil=>cases hg
 | cons x vis ih =>
   rw [List.filterMap_cons] at hg
   cases hx:h.get x with
   | none =>
     rw [hx] at hg
     obtain ⟨q1,q2⟩:=ih hg
     exact ⟨F7 _ q1,q2⟩
   | some o' =>
     rw [hx] at hg
     simp only [s8,HP.get] at hg
     split at hg
     ·rename_i hb
      have:=t7 hb
      subst this
      exact ⟨by simp,hx.trans hg⟩
     ·obtain ⟨q1,q2⟩:=ih hg
      exact ⟨F7 _ q1,q2⟩
theorem Hs (h1 h2:HP) (g:Nat):HP.get (h1++h2) g=match HP.get h1 g with | some o=>some o | none=>HP.get h2 g:=by
 induction h1 with
 | nil=>rfl
 | cons x h1 ih =>
   obtain ⟨g',o⟩:=x
   simp only [K8,HP.get]
   split
   ·rfl
   ·exact ih
theorem KY {R:TL} (hR:R.okB=true) {h:HP} {g:Nat} {o:HO} (hg:(HP.ren R h).get g=some o):∃ t o1,R.out t=some g∧h.get t=some o1∧o=o1.ren R:=by
 induction h with
 | nil=>cases hg
 | cons x h ih =>
   obtain ⟨t0,o0⟩:=x
   simp only [HP.ren] at hg
   split at hg
   ·rename_i g0 h0
    simp only [HP.get] at hg
    split at hg
    ·rename_i hb
     have:=t7 hb
     subst this
     injection hg with hg
     exact ⟨t0,o0,h0,by simp [HP.get],hg.symm⟩
    ·rename_i hb
     obtain ⟨t,o1,q1,q2,q3⟩:=ih hg
     refine ⟨t,o1,q1, ?_,q3⟩
     have:t≠t0:=by
      rintro rfl
      rw [h0] at q1;injection q1 with q1
      subst q1;simp at hb
     simp only [HP.get,sC this,j9,if_false];exact q2
   ·rename_i h0
    obtain ⟨t,o1,q1,q2,q3⟩:=ih hg
    refine ⟨t,o1,q1, ?_,q3⟩
    have:t≠t0:=by rintro rfl;rw [h0] at q1;cases q1
    simp only [HP.get,sC this,j9,if_false];exact q2
theorem Pr {R:TL} {hv h:HP}:∀ {L:TL} {t:Nat} {o':HO},(handed R hv h L).get t=some o'→∃ g o,(t,g) ∈ L∧h.get g=some o∧o'=o.tW R hv
 | [],_,_,hg=>by cases hg
 | (t0,g0)::L,t,o',hg=>by
   simp only [handed] at hg
   split at hg
   ·rename_i o0 h0
    simp only [HP.get] at hg
    split at hg
    ·rename_i hb
     have:=t7 hb
     subst this
     injection hg with hg
     exact ⟨g0,o0,by simp,h0,hg.symm⟩
    ·obtain ⟨g,o,q1,q2,q3⟩:=Pr hg
     exact ⟨g,o,F7 _ q1,q2,q3⟩
   ·obtain ⟨g,o,q1,q2,q3⟩:=Pr hg
    exact ⟨g,o,F7 _ q1,q2,q3⟩
section
variable {P:Program} {E:Ent} {S0:Nat→Prop} {N:Nat} {σ:St} {a:Act} {w:World} {c:Ctx}
theorem jB.dO {c c':Ctx} {k k':Key} {e:Nat} {es:List (List PV)} {R R':Nat→Nat→PV→Value→Prop} {xs:List Value} (h1:c'.τ k'=c.τ k) (h2:c'.hd k'=c.hd k) (h3:c'.ty k'=c.ty k) (hD:c.D k→c'.D k')
  (hR:∀ i j pv v,dV es i j=some pv→R i j pv v→R' i j pv v) (r:jB P w c k e es R xs):jB P w c' k' e es R' xs:=
 ⟨h3.trans r.ty,r.pos,r.len,by rw [h2];exact r.own,fun b hb=>by rw [h2] at hb;obtain ⟨q1,q2⟩:=r.blk b hb;exact ⟨hD q1,h1.trans q2⟩,r.one,fun i j pv hg=>hR _ _ _ _ hg (r.rep i j pv hg)⟩
def Gn (c:Ctx) (R:TL) (S:Nat→Prop):Ctx:=
 ⟨S,fun k=>c.τ (k.dO ((R.out k.tag).getD 0)),fun k=>c.hd (k.dO ((R.out k.tag).getD 0)),fun k=>c.ty (k.dO ((R.out k.tag).getD 0)),fun k=>∃ g,R.out k.tag=some g∧c.D (k.dO g)⟩
theorem wV {R:TL} {S:Nat→Prop} {k:Key} {g:Nat} (h:R.out k.tag=some g):(Gn c R S).τ k=c.τ (k.dO g)∧(Gn c R S).hd k=c.hd (k.dO g)∧(Gn c R S).ty k=c.ty (k.dO g)∧((Gn c R S).D k↔c.D (k.dO g)):=by
 simp [Gn,h]
theorem Ka {R:TL} (hR:R.okB=true) {S:Nat→Prop} {k:Key} {t:Nat} (h:R.inn k.tag=some t):(Gn c R S).τ (k.dO t)=c.τ k∧(Gn c R S).hd (k.dO t)=c.hd k∧(Gn c R S).ty (k.dO t)=c.ty k∧((Gn c R S).D (k.dO t)↔c.D k):=by
 have ho:R.out (k.dO t).tag=some k.tag:=by rw [qZ];exact (TL.lH hR).2 h
 have:=wV (c:=c) (S:=S) ho
 rwa [Mw,Ll] at this
theorem mP (R:TL) (h:HP):∀ (n:Nat) (l:List PV),(PV.qD R h n l).length=l.length
 | 0,l=>by simp [PV.qD]
 | n+1,[]=>by simp [PV.qD]
 | n+1,c::cs=>by simp [PV.qD,mP R h n cs]
theorem Yk {R:TL} (hR:R.okB=true) {hv:HP} {S:Nat→Prop} (hS:∀ b,c.S b→S b) (fE:∀ g o,hv.get g=some o→oW P w c g o) (hb:∀ g o,hv.get g=some o→∀ k:Key,k.tag=g→c.D k→S (c.τ k)) :
  ∀ n,(∀ pv v,RV P w c pv v→RV P w (Gn c R S) (PV.tW R hv n pv) v)∧(∀ (cs:List PV) (vf:Nat→Value),(∀ (i:Nat) pv,cs[i]?=some pv→RV P w c pv (vf i))→∀ (i:Nat) pv,(PV.qD R hv n cs)[i]?=some pv→RV P w (Gn c R S) pv (vf i))
 | 0=>⟨fun pv v _=>by rw [PV.tW];exact .free _ _ (.undef v),fun cs vf _ i pv hg=>by
     simp only [PV.qD,p8,s6] at hg
     obtain ⟨_,_,rfl⟩:=hg
     exact .free _ _ (.undef _)⟩
 | n+1=>by
   obtain ⟨ih1,ih2⟩:=Yk hR hS fE hb n
   have see:∀ pv v,RV P w c pv v→RV P w (Gn c R S) (PV.view hv (n+1) pv) v:=fun pv v r=>.free _ _ ((LK (P:=P) hS fE hb (n+1)).1 pv v r)
   refine ⟨fun pv v r=>?_,fun cs vf hr i pv hg=>?_⟩
   ·cases r with
    | free pv v hf =>
      have hf':RV P w (Gn c R S) pv v:=.free _ _ (hf.same (w':=w) (S':=S) (fun _ _=>rfl) hS)
      cases hf with
      | nl=>rw [PV.tW];exact .free _ _ (RF.Tj w S)
      | agg cs vs hn hr=>rw [PV.tW];exact .agg _ vs (by rw [mP,hn]) (ih2 cs _ fun i pv hg=>.free _ _ (hr i pv hg))
      | tup cs vs hn hr=>rw [PV.tW];exact .tup _ vs (by rw [mP,hn]) (ih2 cs _ fun i pv hg=>.free _ _ (hr i pv hg))
      | fn f cs vs hn hr=>rw [PV.tW];exact .fn f _ vs (by rw [mP,hn]) (ih2 cs _ fun i pv hg=>.free _ _ (hr i pv hg))
      | undef=>rw [PV.tW] <;> first | exact hf' | (intros;simp_all;done)
      | lit=>rw [PV.tW] <;> first | exact hf' | (intros;simp_all;done)
      | fmap=>rw [PV.tW] <;> first | exact hf' | (intros;simp_all;done)
      | sl=>rw [PV.tW] <;> first | exact hf' | (intros;simp_all;done)
      | vptr=>rw [PV.tW] <;> first | exact hf' | (intros;simp_all;done)
    | row k e he h1 =>
      rw [PV.tW]
      split
      ·rename_i t ht
       obtain ⟨_,q2,q3,_⟩:=Ka (c:=c) (S:=S) hR ht
       rw [← q2] at h1 ⊢
       exact .row _ e (q3.trans he) h1
      ·exact see _ _ (.row k e he h1)
    | part k e lo m A cc he hn hA =>
      rw [PV.tW]
      split
      ·rename_i t ht
       obtain ⟨q1,_,q3,_⟩:=Ka (c:=c) (S:=S) hR ht
       exact .part _ e lo m A cc (q3.trans he) hn fun h=>by rw [q1];exact hA h
      ·exact see _ _ (.part k e lo m A cc he hn hA)
    | rptr k e i off he =>
      rw [PV.tW]
      split
      ·rename_i t ht
       obtain ⟨q1,_,q3,_⟩:=Ka (c:=c) (S:=S) hR ht
       rw [← q1]
       exact .rptr _ e i off (q3.trans he)
      ·exact see _ _ (.rptr k e i off he)
    | ptr g off =>
      rw [PV.tW]
      split
      ·rename_i t ht
       obtain ⟨q1,_⟩:=Ka (c:=c) (S:=S) (k:=.top g) hR ht
       rw [← q1]
       exact .ptr t off
      ·exact see _ _ (.ptr g off)
    | mp g =>
      rw [PV.tW]
      split
      ·rename_i t ht
       obtain ⟨q1,_⟩:=Ka (c:=c) (S:=S) (k:=.top g) hR ht
       rw [← q1]
       exact .mp t
      ·exact see _ _ (.mp g)
    | agg cs vs hn hr=>rw [PV.tW];exact .agg _ vs (by rw [mP,hn]) (ih2 cs _ hr)
    | tup cs vs hn hr=>rw [PV.tW];exact .tup _ vs (by rw [mP,hn]) (ih2 cs _ hr)
    | fn f cs vs hn hr=>rw [PV.tW];exact .fn f _ vs (by rw [mP,hn]) (ih2 cs _ hr)
   ·cases cs with
    | nil=>simp [PV.qD] at hg
    | cons x cs =>
      rw [PV.qD] at hg
      cases i with
      | zero=>simp at hg;subst hg;exact ih1 _ _ (hr 0 x (by simp))
      | succ i=>exact ih2 cs (fun i=>vf (i+1)) (fun i pv hg=>hr (i+1) pv (by simpa using hg)) i pv (by simpa using hg)
def jR (c c1:Ctx) (R1:TL) (S:Nat→Prop):Ctx:=
 ⟨S,fun k=>match R1.inn k.tag with | some t=>c1.τ (k.dO t) | none=>c.τ k,fun k=>match R1.inn k.tag with | some t=>c1.hd (k.dO t) | none=>c.hd k,fun k=>match R1.inn k.tag with | some t=>c1.ty (k.dO t) | none=>c.ty k,
  fun k=>match R1.inn k.tag with | some t=>c1.D (k.dO t) | none=>c.D k⟩
theorem xC {c1:Ctx} {R1:TL} {S:Nat→Prop} {k:Key} (h:R1.inn k.tag=none):Agree c (jR c c1 R1 S) k∧((jR c c1 R1 S).D k↔c.D k):=by
 simp [Agree,jR,h]
theorem Cs {c1:Ctx} {R1:TL} (hR:R1.okB=true) {S:Nat→Prop} {k:Key} {g:Nat} (h:R1.out k.tag=some g):(jR c c1 R1 S).τ (k.dO g)=c1.τ k∧(jR c c1 R1 S).hd (k.dO g)=c1.hd k∧(jR c c1 R1 S).ty (k.dO g)=c1.ty k∧((jR c c1 R1 S).D (k.dO g)↔c1.D k):=by
 have:=(TL.lH hR).1 h
 simp [jR,qZ,this,Mw,Ll]
theorem Xg {l:List PV} (h:PV.CF l=true) {i:Nat} {pv:PV} (hg:l[i]?=some pv):pv.ind=true:=by
 induction l generalizing i with
 | nil=>simp at hg
 | cons c cs ih =>
   simp only [PV.CF,o8] at h
   cases i with
   | zero=>simp at hg;subst hg;exact h.1
   | succ i=>exact ih h.2 (by simpa using hg)
theorem Yb (R:TL) (l:List PV) (i:Nat):(PV.Ut R l)[i]?=(l[i]?).map (PV.ren R):=by
 induction l generalizing i with
 | nil=>simp [PV.Ut]
 | cons c cs ih=>cases i <;> simp [PV.Ut,ih]
theorem xD (R:TL) (l:List PV):(PV.Ut R l).length=l.length:=by
 induction l <;> simp_all [PV.Ut]
theorem ZF {R:TL} {S S':Nat→Prop} {pv:PV} {v:Value} (r:RF w S pv v):((∀ b,S b→S' b)∨pv.ind=true)→RF w S' (pv.ren R) v:=by
 have lst:∀ {cs:List PV} {vs:Array Value},(∀ (i:Nat) pv,cs[i]?=some pv→((∀ b,S b→S' b)∨pv.ind=true)→RF w S' (pv.ren R) (vs.getD i Go.undef))→((∀ b,S b→S' b)∨PV.CF cs=true)→∀ (i:Nat) pv,(PV.Ut R cs)[i]?=some pv→RF w S' pv (vs.getD i Go.undef):=by
  intro cs vs ih hh i pv hg
  rw [Yb] at hg
  cases hc:cs[i]? <;> simp [hc] at hg
  subst hg
  exact ih i _ hc (hh.imp id fun q=>Xg q hc)
 induction r with
 | undef v=>intro _;exact .undef v
 | lit v=>intro _;exact .lit v
 | nl=>intro _;exact .nl
 | fmap m b hb hm=>intro hh;rcases hh with hh | hh;exact .fmap m b (hh b hb) hm;simp [PV.ind] at hh
 | sl es k a n c vf hn hk hk0 hc ha hcell h1 hr ih =>
   intro hh
   rcases hh with hh | hh
   ·exact (RF.sl es k a n c vf hn hk hk0 hc ha hcell h1 hr).same (fun _ _=>rfl) hh
   ·simp [PV.ind] at hh
 | vptr cs off ad vf hS hcell hr ih =>
   intro hh
   rcases hh with hh | hh
   ·exact (RF.vptr cs off ad vf hS hcell hr).same (fun _ _=>rfl) hh
   ·simp [PV.ind] at hh
 | agg cs vs hn hr ih=>intro hh;rw [PV.ind] at hh;rw [PV.ren];exact .agg _ vs (by rw [xD,hn]) (lst ih hh)
 | tup cs vs hn hr ih=>intro hh;rw [PV.ind] at hh;rw [PV.ren];exact .tup _ vs (by rw [xD,hn]) (lst ih hh)
 | fn f cs vs hn hr ih=>intro hh;rw [PV.ind] at hh;rw [PV.ren];exact .fn f _ vs (by rw [xD,hn]) (lst ih hh)
theorem IC {c1:Ctx} {R1:TL} (hR:R1.okB=true) {S:Nat→Prop} {pv:PV} {v:Value} (r:RV P w c1 pv v):((∀ b,c1.S b→S b)∨pv.ind=true)→RV P w (jR c c1 R1 S) (pv.ren R1) v:=by
 have lst:∀ {cs:List PV} {vs:Array Value},(∀ (i:Nat) pv,cs[i]?=some pv→((∀ b,c1.S b→S b)∨pv.ind=true)→RV P w (jR c c1 R1 S) (pv.ren R1) (vs.getD i Go.undef))→((∀ b,c1.S b→S b)∨PV.CF cs=true)→∀ (i:Nat) pv,(PV.Ut R1 cs)[i]?=some pv→RV P w (jR c c1 R1 S) pv (vs.getD i Go.undef):=by
  intro cs vs ih hh i pv hg
  rw [Yb] at hg
  cases hc:cs[i]? <;> simp [hc] at hg
  subst hg
  exact ih i _ hc (hh.imp id fun q=>Xg q hc)
 induction r with
 | free pv v h=>intro hh;exact .free _ _ (ZF h hh)
 | row k e he h1 =>
   intro _
   rw [PV.ren]
   split
   ·rename_i g hg
    obtain ⟨_,q2,q3,_⟩:=Cs (c:=c) (c1:=c1) (S:=S) hR hg
    rw [← q2] at h1 ⊢
    exact .row _ e (q3.trans he) h1
   ·exact .free _ _ (.undef _)
 | part k e lo n A cc he hn hA =>
   intro _
   rw [PV.ren]
   split
   ·rename_i g hg
    obtain ⟨q1,_,q3,_⟩:=Cs (c:=c) (c1:=c1) (S:=S) hR hg
    exact .part _ e lo n A cc (q3.trans he) hn fun h=>by rw [q1];exact hA h
   ·exact .free _ _ (.undef _)
 | rptr k e i off he =>
   intro _
   rw [PV.ren]
   split
   ·rename_i g hg
    obtain ⟨q1,_,q3,_⟩:=Cs (c:=c) (c1:=c1) (S:=S) hR hg
    rw [← q1]
    exact .rptr _ e i off (q3.trans he)
   ·exact .free _ _ (.undef _)
 | ptr g off =>
   intro _
   rw [PV.ren]
   split
   ·rename_i g' hg
    obtain ⟨q1,_⟩:=Cs (c:=c) (c1:=c1) (S:=S) (k:=.top g) hR hg
    rw [← q1]
    exact .ptr g' off
   ·exact .free _ _ (.undef _)
 | mp g =>
   intro _
   rw [PV.ren]
   split
   ·rename_i g' hg
    obtain ⟨q1,_⟩:=Cs (c:=c) (c1:=c1) (S:=S) (k:=.top g) hR hg
    rw [← q1]
    exact .mp g'
   ·exact .free _ _ (.undef _)
 | agg cs vs hn hr ih=>intro hh;rw [PV.ind] at hh;rw [PV.ren];exact .agg _ vs (by rw [xD,hn]) (lst ih hh)
 | tup cs vs hn hr ih=>intro hh;rw [PV.ind] at hh;rw [PV.ren];exact .tup _ vs (by rw [xD,hn]) (lst ih hh)
 | fn f cs vs hn hr ih=>intro hh;rw [PV.ind] at hh;rw [PV.ren];exact .fn f _ vs (by rw [xD,hn]) (lst ih hh)
theorem ER {c1:Ctx} {R1:TL} (hR:R1.okB=true) {S:Nat→Prop} {t g:Nat} (hg:R1.out t=some g) {o:HO} (hh:(∀ b,c1.S b→S b)∨o.ind) (r:oW P w c1 t o):oW P w (jR c c1 R1 S) g (o.ren R1):=by
 have at_:∀ k:Key,k.tag=t→_:=fun k hk=>Cs (c:=c) (c1:=c1) (S:=S) (k:=k) hR (hk ▸ hg)
 cases o with
 | box cs =>
   obtain ⟨h1,vs,T,h2,h3,h4⟩:=r
   obtain ⟨q1,_,_,q4⟩:=at_ (.top t) rfl
   refine ⟨q4.2 h1,vs,T,by show w.heap[(jR c c1 R1 S).τ ((Key.top t).dO g)]?=_;rw [q1];exact h2,by rw [xD,h3],fun i pv hgt=>?_⟩
   rw [Yb] at hgt
   cases hc:cs[i]? <;> simp [hc] at hgt
   subst hgt
   exact IC hR (h4 i _ hc) (hh.imp id fun q=>Xg q hc)
 | map m =>
   obtain ⟨h1,h2⟩:=r
   obtain ⟨q1,_,_,q4⟩:=at_ (.top t) rfl
   exact ⟨q4.2 h1,by show Cg w ((jR c c1 R1 S).τ ((Key.top t).dO g)) m;rw [q1];exact h2⟩
 | it l u =>
   obtain ⟨h1,h2⟩:=r
   obtain ⟨q1,_,_,q4⟩:=at_ (.top t) rfl
   refine ⟨q4.2 h1, ?_⟩
   show Qa w S ((jR c c1 R1 S).τ ((Key.top t).dO g)) l u
   rw [q1]
   rcases hh with hh | hh
   ·exact h2.same (fun b hb=>⟨rfl,hh b hb⟩) rfl
   ·exact hh.elim
 | tl e l =>
   obtain ⟨q1,q2,q3,q4⟩:=at_ (.top t) rfl
   exact Hr.move q1 q2 q3 (fun d=>⟨rfl,q4.2 d⟩) r
 | row e J es =>
   obtain ⟨xs,r⟩:=r
   obtain ⟨q1,q2,q3,q4⟩:=at_ (.top t) rfl
   refine ⟨xs,r.dO (k':=.top g) q1 q2 q3 q4.2 fun i j pv v hgE hc=>?_⟩
   have hh':(∀ b,c1.S b→S b)∨((Jat J j=none∧∃ v,pv=.lit v)∨((Jat J j).isSome=true∧∃ es',pv=.sl es'∧YB es')):=hh.imp id fun q=>q i j pv hgE
   unfold eL at hc ⊢
   split at hc
   ·rename_i hj
    rcases hh' with q | q
    ·exact hc.same (fun _ _=>rfl) q
    ·rcases q with ⟨_,v',rfl⟩ | ⟨q,_⟩
     ·cases hc;exact .lit _
     ·rw [hj] at q;cases q
   ·rename_i e' hj
    rcases hc with hc | ⟨h1,es',xs',rfl,r'⟩
    ·exact .inl hc
    obtain ⟨p1,p2,p3,p4⟩:=at_ (.sub t i j) rfl
    refine .inr ⟨h1.trans p2.symm,es',xs',rfl,r'.dO (k':=.sub g i j) p1 p2 p3 p4.2 fun i2 j2 pv v hgE2 hc2=>?_⟩
    rcases hh' with q | q
    ·exact RF.same (fun _ _=>rfl) q hc2
    ·rcases q with ⟨q,_⟩ | ⟨_,es2,q1,q2⟩
     ·rw [hj] at q;cases q
     ·injection q1 with q1
      subst q1
      obtain ⟨v',rfl⟩:=q2 i2 j2 pv hgE2
      cases hc2;exact .lit _
theorem VQ {R:TL} (hR:R.okB=true) {hv:HP} {S:Nat→Prop} (hS:∀ b,c.S b→S b) (fE:∀ g o,hv.get g=some o→oW P w c g o) (hb:∀ g o,hv.get g=some o→∀ k:Key,k.tag=g→c.D k→S (c.τ k))
  {t g:Nat} (hg:R.out t=some g) {o:HO} (r:oW P w c g o):oW P w (Gn c R S) t (o.tW R hv):=by
 have at_:∀ k:Key,k.tag=t→_:=fun k hk=>wV (c:=c) (S:=S) (k:=k) (hk ▸ hg)
 cases o with
 | box cs =>
   obtain ⟨h1,vs,T,h2,h3,h4⟩:=r
   obtain ⟨q1,_,_,q4⟩:=at_ (.top t) rfl
   exact ⟨q4.2 h1,vs,T,by rw [q1];exact h2,by rw [mP,h3],(Yk hR hS fE hb DEEP).2 cs _ h4⟩
 | map m =>
   obtain ⟨h1,h2⟩:=r
   obtain ⟨q1,_,_,q4⟩:=at_ (.top t) rfl
   exact ⟨q4.2 h1,by rw [q1];exact h2⟩
 | it l u =>
   obtain ⟨h1,h2⟩:=r
   obtain ⟨q1,_,_,q4⟩:=at_ (.top t) rfl
   exact ⟨q4.2 h1,by rw [q1];exact h2.same (fun b hb=>⟨rfl,hS b hb⟩) rfl⟩
 | tl e l =>
   obtain ⟨q1,q2,q3,q4⟩:=at_ (.top t) rfl
   exact Hr.move q1 q2 q3 (fun d=>⟨rfl,q4.2 d⟩) r
 | row e J es =>
   obtain ⟨xs,r⟩:=r
   obtain ⟨q1,q2,q3,q4⟩:=at_ (.top t) rfl
   refine ⟨xs,r.dO (k':=.top t) q1 q2 q3 q4.2 fun i j pv v _ hc=>?_⟩
   unfold eL at hc ⊢
   split at hc
   ·exact hc.same (fun _ _=>rfl) hS
   ·rcases hc with hc | ⟨h1,es',xs',h2,r'⟩
    ·exact .inl hc
    obtain ⟨p1,p2,p3,p4⟩:=at_ (.sub t i j) rfl
    exact .inr ⟨h1.trans p2.symm,es',xs',h2,r'.dO (k':=.sub t i j) p1 p2 p3 p4.2 fun _ _ _ _ _ r=>RF.same (fun _ _=>rfl) hS r⟩
end
end Go.VI
namespace Go.VI
open Go.RowKit
section
variable {P:Program} {E:Ent} {S0:Nat→Prop} {N:Nat} {σ:St} {a:Act} {w:World} {c:Ctx}
def BR:Value→Option Nat
 | .func (.func f) first caps=>(match first.toList with
   | [.agg cs]=>if cs.size=0∧caps.size=0 then some f else none
   | _=>none)
 | _=>none
theorem BT {v:Value} {f:Nat} (h:BR v=some f):v=.func (.func f) #[.agg #[]] #[]:=by
 unfold BR at h
 split at h
 case h_2=>cases h
 rename_i f' first caps
 split at h
 case h_2=>cases h
 rename_i cs hl
 split at h
 case isFalse=>cases h
 rename_i hc
 injection h with h;subst h
 obtain rfl:first=#[.agg cs]:=E9.1 hl
 obtain rfl:cs=#[]:=P3 hc.1
 obtain rfl:caps=#[]:=P3 hc.2
 rfl
def oD (σ:St):Op→Option (Nat×List PV)
 | .call c=>match c.callee with
   | .value x=>match pev σ x with
     | .fn f caps=>some (f,c.args.toList.map (pev σ)++caps)
     | .lit v=>(match BR v with
       | some f=>some (f,.agg []::c.args.toList.map (pev σ))
       | none=>none)
     | _=>none
   | _=>none
 | _=>none
theorem We {o:Oper} {f:Nat} {args:List PV} {R R1:TL} {vis:List Nat} {qs:List PV} {H0:HP} {r:PV} {H1:HP} {K:St→Prop} {vs:Array Value} (hrun:(execOp a.eval o).run P w=.ok (.enter f vs) w) (hrep:∀ (i:Nat) pv,args[i]?=some pv→RV P w c pv (vs.toList.getD i undef)) (hlen:vs.toList.length=args.length) (hK:DA P f args o.dst σ R R1 vis qs H0 r H1 K) (h:Inv P E S0 N σ a w c) (hd:∀ k,o.dst=some k→k<N)
  (next:Act→World→Prop) (Q:Exit→Act→World→Prop) (hn:∀ σ' a' w' c',K σ'→Inv P E S0 N σ' a' w' c'→next a' w'):o.wp P a w next Q:=by
 obtain ⟨⟨hent,hcall⟩,hR,hR1,hsub,hsmall,MO,hq,hH,hind,hk⟩:=hK
 -- what is read
 let S':Nat→Prop:=fun b=>c.S b∨∃ k,c.D k∧k.tag ∈ vis∧c.τ k=b
 let hv:HP:=σ.h.only vis
 have hvin:∀ g ∈ vis,R.inn g=none:=fun g hg=>by have:=p7.1 MO g hg;simpa using this
 have hSS:∀ b,c.S b→S' b:=fun b hb=>.inl hb
 have hobjs:∀ g o,hv.get g=some o→oW P w c g o∧(∀ k:Key,k.tag=g→c.D k→S' (c.τ k)):=by
  intro g ob hg
  obtain ⟨q1,q2⟩:=SA hg
  exact ⟨h.fE g ob q2,fun k hk hD=>.inr ⟨k,hD,hk ▸ q1,rfl⟩⟩
 have hview:=Yk (P:=P) (w:=w) (c:=c) hR (hv:=hv) (S:=S') hSS (fun g o hg=>(hobjs g o hg).1) (fun g o hg=>(hobjs g o hg).2) DEEP
 let c0:=Gn c R S'
 -- a handed block is the caller's
 have hdead:∀ k k0:Key,c.D k→c0.D k0→c0.τ k0=c.τ k→∃ t,R.inn k.tag=some t:=by
  intro k k0 hD ⟨g,hg,hD0⟩ he
  rw [(wV hg).1] at he
  have:=h.ok.inj _ _ hD0 hD he
  refine ⟨k0.tag,(TL.lH hR).1 ?_⟩
  rw [← this,qZ];exact hg
 have hSlt:∀ b,S' b→b<w.heap.size:=fun b hb=>by
  rcases hb with q | ⟨k,q1,_,rfl⟩
  ·exact h.ok.hS b q
  ·exact (h.ok.hD k q1).2.1
 have hok0:c0.Ok (fun _=>True) w:=by
  refine ⟨hSlt,fun k ⟨g,hg,hD⟩=>?_,fun k k' ⟨g,hg,hD⟩ ⟨g',hg',hD'⟩ he=>?_⟩
  ·have hτ:=(wV (c:=c) (S:=S') hg).1
   have hDk:=h.ok.hD _ hD
   refine ⟨trivial,by rw [hτ];exact hDk.2.1,fun hS=>?_⟩
   rw [hτ] at hS
   rcases hS with q | ⟨k',q1,q2,q3⟩
   ·exact hDk.2.2 q
   ·have:=h.ok.inj _ _ q1 hD q3
    rw [this,qZ] at q2
    have:=hvin _ q2
    rw [(TL.lH hR).1 hg] at this
    cases this
  ·rw [(wV hg).1,(wV hg').1] at he
   have e:=h.ok.inj _ _ hD hD' he
   have et:g=g':=by have:=congrArg Key.tag e;rwa [qZ,qZ] at this
   subst et
   have ht:k.tag=k'.tag:=by
    have q1:=(TL.lH hR).1 hg
    rw [(TL.lH hR).1 hg'] at q1
    injection q1 with q1;exact q1.symm
   exact Nz e ht
 have hobj0:∀ t o,H0.get t=some o→oW P w c0 t o:=by
  intro t ob ht
  rw [← hH] at ht
  obtain ⟨g,o1,q1,q2,rfl⟩:=Pr ht
  exact VQ hR hSS (fun g o hg=>(hobjs g o hg).1) (fun g o hg=>(hobjs g o hg).2) (KQ hR q1) (h.fE g o1 q2)
 have hEG:EG P (fun b=>w.heap.size≤b∨∃ k,c0.D k∧c0.τ k=b) w:=h.small.2.next h.below.size h.below.block fun b hb=>by
  rcases hb with q | ⟨k,⟨g,hg,hD⟩,rfl⟩
  ·exact .inr q
  ·rw [(wV hg).1];exact .inl (h.ok.hD _ hD).1
 have hcalls:=hcall w c0 vs.toList hEG hok0 hobj0 (by rw [← hq,mP,hlen]) (fun i pv hg=>by
  rw [← hq] at hg
  exact hview.2 args _ hrep i pv hg)
 unfold Oper.wp
 rw [hrun,Oper.upon_enter]
 rw [S5] at hcalls
 refine hcalls.mono fun e w' he=>?_
 obtain ⟨v,c1,rfl,hfr,hs1,hs2,hok,hpin,hv1,hobj1⟩:=he
 simp only
 have hsz:w.heap.size≤w'.heap.size:=hfr.size
 let M1:Nat→Prop:=fun b=>w.heap.size≤b∨∃ k,c0.D k∧c0.τ k=b
 let S2:Nat→Prop:=fun b=>c.S b∨(vis=[]∧c1.S b)
 let c2:=jR c c1 R1 S2
 have hM1:∀ b,M1 b→E.M b:=fun b hb=>by
  rcases hb with q | ⟨k,⟨g,hg,hD⟩,rfl⟩
  ·exact h.below.mine q
  ·rw [(wV hg).1];exact (h.ok.hD _ hD).1
 -- a key that is kept: its block is not the callee's
 have hkeep:∀ k,R1.inn k.tag=none→c.D k→¬ M1 (c.τ k):=fun k hk hD hm=>by
  rcases hm with q | ⟨k0,q1,q2⟩
  ·have:=(h.ok.hD k hD).2.1;omega
  ·obtain ⟨t,ht⟩:=hdead k k0 hD q1 q2
   have:=(TL.lH hR1).1 (hsub _ _ ((TL.lH hR).2 ht))
   rw [hk] at this;cases this
 have hsame:∀ b,b<w.heap.size→¬ M1 b→w'.heap[b]?=w.heap[b]?:=fun b hb hm=>hfr.block b hb hm
 have hcS:∀ b,c.S b→¬ M1 b:=fun b hS hm=>by
  rcases hm with q | ⟨k,⟨g,hg,hD⟩,rfl⟩
  ·have:=h.ok.hS b hS;omega
  ·rw [(wV hg).1] at hS;exact (h.ok.hD _ hD).2.2 hS
 have hS2lt:∀ b,S2 b→b<w'.heap.size:=fun b hb=>by
  rcases hb with q | ⟨_,q⟩
  ·exact D8 (h.ok.hS b q) hsz
  ·exact hok.hS b q
 have hS2sup:∀ b,S2 b→S0 b∨E.M b:=fun b hb=>by
  rcases hb with q | ⟨hcl,q⟩
  ·exact h.sup b q
  ·rcases hs2 b q with q' | q'
   ·rcases q' with q' | ⟨k,_,q',_⟩
    ·exact h.sup b q'
    ·rw [hcl] at q';cases q'
   ·exact .inr (hM1 b q')
 have hSm:Ga c.S w w':=fun b hb=>hsame b (h.ok.hS b hb) (hcS b hb)
 have hclS:vis=[]→∀ b,c1.S b→S2 b:=fun hcl b hb=>.inr ⟨hcl,hb⟩
 have hindS:(∀ b,c1.S b→S2 b)∨r.ind=true:=hind.imp hclS (·.1)
 -- the new context fits
 have hok2 : c2.Ok E.M w':=by
  refine ⟨hS2lt,fun k hDk=>?_,fun k k' hDk hDk' he=>?_⟩
  ·cases hi:R1.inn k.tag with
   | none =>
     have ho:=xC (c:=c) (c1:=c1) (S:=S2) hi
     have hDc:=ho.2.1 hDk
     rw [show c2.τ k=c.τ k from ho.1.1]
     have hDk0:=h.ok.hD k hDc
     refine ⟨hDk0.1,D8 hDk0.2.1 hsz,fun hS=>?_⟩
     rcases hS with q | ⟨hcl,q⟩
     ·exact hDk0.2.2 q
     ·rcases hs2 _ q with q' | q'
      ·rcases q' with q' | ⟨k,_,q',_⟩
       ·exact hDk0.2.2 q'
       ·rw [hcl] at q';cases q'
      ·exact hkeep k hi hDc q'
   | some t =>
     have hτ:c2.τ k=c1.τ (k.dO t):=by simp [c2,jR,hi]
     have hD1:c1.D (k.dO t):=by simpa [c2,jR,hi] using hDk
     have:=hok.hD _ hD1
     rw [hτ]
     refine ⟨hM1 _ this.1,this.2.1,fun hS=>?_⟩
     rcases hS with q | ⟨_,q⟩
     ·exact this.2.2 (hs1 _ (.inl q))
     ·exact this.2.2 q
  ·have DV:∀ k k',R1.inn k.tag=none→(∃ t,R1.inn k'.tag=some t)→c2.D k→c2.D k'→c2.τ k=c2.τ k'→False:=by
    intro k k' hi ⟨t,hi'⟩ hDk hDk' he
    have ho:=xC (c:=c) (c1:=c1) (S:=S2) hi
    have hτ':c2.τ k'=c1.τ (k'.dO t):=by simp [c2,jR,hi']
    have hD1:c1.D (k'.dO t):=by simpa [c2,jR,hi'] using hDk'
    rw [show c2.τ k=c.τ k from ho.1.1,hτ'] at he
    exact hkeep k hi (ho.2.1 hDk) (he ▸ (hok.hD _ hD1).1)
   cases hi:R1.inn k.tag with
   | none =>
     cases hi':R1.inn k'.tag with
     | none =>
       have ho:=xC (c:=c) (c1:=c1) (S:=S2) hi
       have ho':=xC (c:=c) (c1:=c1) (S:=S2) hi'
       rw [show c2.τ k=c.τ k from ho.1.1,show c2.τ k'=c.τ k' from ho'.1.1] at he
       exact h.ok.inj _ _ (ho.2.1 hDk) (ho'.2.1 hDk') he
     | some t=>exact (DV k k' hi ⟨t,hi'⟩ hDk hDk' he).elim
   | some t =>
     cases hi':R1.inn k'.tag with
     | none=>exact (DV k' k hi' ⟨t,hi⟩ hDk' hDk he.symm).elim
     | some t' =>
       have hτ:c2.τ k=c1.τ (k.dO t):=by simp [c2,jR,hi]
       have hD1:c1.D (k.dO t):=by simpa [c2,jR,hi] using hDk
       have hτ':c2.τ k'=c1.τ (k'.dO t'):=by simp [c2,jR,hi']
       have hD1':c1.D (k'.dO t'):=by simpa [c2,jR,hi'] using hDk'
       rw [hτ,hτ'] at he
       have e:=hok.inj _ _ hD1 hD1' he
       have et:t=t':=by have:=congrArg Key.tag e;rwa [qZ,qZ] at this
       subst et
       have hg:k.tag=k'.tag:=by
        have q1:=(TL.lH hR1).2 hi
        rw [(TL.lH hR1).2 hi'] at q1
        injection q1 with q1;exact q1.symm
       exact Nz e hg
 -- what is kept
 have hag:∀ k,gone R1 ((R.filter fun x=>E6 PIN x.1).map (·.2)) k=false→Agree c c2 k:=by
  intro k hk
  cases hi:R1.inn k.tag with
  | none=>exact (xC hi).1
  | some t =>
    simp only [gone,hi,Option.isSome_some,Bool.true_and,I7,Bool.not_eq_false'] at hk
    obtain ⟨h1,h2⟩:=hk
    rw [E2] at h1
    obtain ⟨g,hg,hgk⟩:=h1
    have hgk2:=t7 hgk
    clear hgk
    rw [E3] at hg
    obtain ⟨⟨t',g'⟩,hm,rfl⟩:=hg
    rw [List.mem_filter] at hm
    simp only at hgk2 hm
    have ho:=KQ hR hm.1
    have hin:=(TL.lH hR1).1 (hsub _ _ ho)
    rw [hgk2,hi] at hin
    injection hin with hin
    subst hin
    have hpt:PIN≤t:=J3 hm.2
    cases k with
    | sub=>simp [Key.QW] at h2
    | top g0 =>
      simp only [Key.tag] at hgk2 hi
      subst hgk2
      obtain ⟨p1,p2,p3⟩:=hpin t hpt
      obtain ⟨q1,q2,q3,_⟩:=wV (c:=c) (S:=S') (k:=.top t) ho
      simp only [Agree,c2,jR,Key.tag,hi]
      exact ⟨p1.trans q1,p2.trans q2,p3.trans q3⟩
 have hinv : Inv P E S0 N (after R1 ((R.filter fun x=>E6 PIN x.1).map (·.2)) σ H1) a w' c2:=by
  refine ⟨⟨hfr.os.trans h.below.os,hfr.tape.trans h.below.tape,hfr.output.trans h.below.output,Nat.le_trans h.below.size hsz,fun b hb hm=>(hsame b (D8 hb h.below.size) fun q=>hm (hM1 b q)).trans (h.below.block b hb hm)⟩,
   hok2,fun b hb=>(Or.inl (h.sub b hb):S2 b),hS2sup,fun i=>?_,fun g ob hg=>?_,fun g hg=>?_,h.small,h.size,h.defers⟩
  ·have:(after R1 ((R.filter fun x=>E6 PIN x.1).map (·.2)) σ H1).get i=(σ.kill (gone R1 ((R.filter fun x=>E6 PIN x.1).map (·.2)))).get i:=rfl
   rw [this,Jy]
   exact (h.slots i).Bm hSm (fun b hb=>(Or.inl hb:S2 b)) hag
  ·have:(after R1 ((R.filter fun x=>E6 PIN x.1).map (·.2)) σ H1).hget g=HP.get (H1.ren R1++((σ.kill (gone R1 ((R.filter fun x=>E6 PIN x.1).map (·.2)))).h.del R1)) g:=rfl
   rw [this,Hs] at hg
   split at hg
   ·rename_i o1 ho1
    injection hg with hg
    subst hg
    obtain ⟨t,o2,q1,q2,rfl⟩:=KY hR1 ho1
    exact ER hR1 q1 (hind.imp hclS fun q=>q.2 t o2 q2) (hobj1 t o2 q2)
   ·rw [JT] at hg
    split at hg
    ·cases hg
    ·rename_i hi
     have hi:R1.inn g=none:=by simpa using hi
     have hgk:(σ.kill (gone R1 ((R.filter fun x=>E6 PIN x.1).map (·.2)))).h.get g=(σ.kill (gone R1 ((R.filter fun x=>E6 PIN x.1).map (·.2)))).hget g:=rfl
     rw [hgk,Aq] at hg
     split at hg
     ·cases hg
     ·simp only [s6] at hg
      obtain ⟨o2,ho2,rfl⟩:=hg
      refine (h.fE g o2 ho2).Bm hSm (fun b hb=>(Or.inl hb:S2 b)) hag (fun k hk=>?_) fun k hk hD=>?_
      ·simp [gone,hk,hi]
      ·have hi':R1.inn k.tag=none:=by rw [hk];exact hi
       exact ⟨hsame _ (h.ok.hD k hD).2.1 (hkeep k hi' hD),(xC hi').2.2 hD⟩
  ·cases hi:R1.inn g with
   | none =>
     obtain ⟨p1,p2,p3⟩:=h.pin g hg
     obtain ⟨⟨q1,q2,q3⟩,_⟩:=xC (c:=c) (c1:=c1) (S:=S2) (k:=.top g) hi
     exact ⟨q1.trans p1,q2.trans p2,q3.trans p3⟩
   | some t =>
     rcases hsmall t g ((TL.lH hR1).2 hi) with ⟨q1,q2⟩ | ⟨_,q2⟩
     ·obtain ⟨p1,p2,p3⟩:=h.pin g hg
      obtain ⟨r1,r2,r3⟩:=hpin t (q2 hg)
      obtain ⟨s1,s2,s3,_⟩:=wV (c:=c) (S:=S') (k:=.top t) q1
      simp only [Agree,c2,jR,Key.tag,hi]
      exact ⟨(r1.trans s1).trans p1,(r2.trans s2).trans p2,(r3.trans s3).trans p3⟩
     ·omega
 exact hn _ _ _ _ hk (hinv.put o.dst hd (IC hR1 hv1 hindS))
theorem Wc {o:Oper} {f:Nat} {args:List PV} {R R1:TL} {vis:List Nat} {qs:List PV} {H0:HP} {r:PV} {H1:HP} {K:St→Prop} (hc:oD σ o.op=some (f,args)) (hK:DA P f args o.dst σ R R1 vis qs H0 r H1 K) (h:Inv P E S0 N σ a w c) (hd:∀ k,o.dst=some k→k<N)
  (next:Act→World→Prop) (Q:Exit→Act→World→Prop) (hn:∀ σ' a' w' c',K σ'→Inv P E S0 N σ' a' w' c'→next a' w'):o.wp P a w next Q:=by
 have hent:=hK.pc.1
 -- the operands
 unfold oD at hc
 split at hc
 case h_2=>cases hc
 rename_i cl' hop
 split at hc
 case h_2=>cases hc
 rename_i x hcal
 split at hc
 case h_3=>cases hc
 case h_2 =>
  rename_i v hx
  split at hc
  case h_2=>cases hc
  rename_i f' hbf
  simp only [n9,t8] at hc
  obtain ⟨rfl,hargs⟩:=hc
  obtain rfl:=BT hbf
  have rx:=h.ev x
  rw [hx] at rx
  have hX:=rx.iB
  have hrun:(execOp a.eval o).run P w=.ok (.enter f' (#[.agg #[]]++cl'.args.map a.eval)) w:=by
   unfold enters at hent
   cases hfu:P.funcs[f']? with
   | none=>simp [hfu] at hent
   | some fn =>
     simp only [hfu,o8,F2] at hent
     have hb:fn.body.isNone=false:=by
      cases hbo:fn.body <;> simp [hbo] at hent ⊢
     unfold execOp
     simp only [hop,resolve,hcal,hX,Deferred.ofValue,o5,o9,m6,invoke,callFunc,program,L3,hfu,hent.2,hb,j9,if_false,Array.append_empty]
  refine We hrun (fun i p hp=>?_) (by subst hargs;simp) hK h hd next Q hn
  subst hargs
  cases i with
  | zero =>
    simp only [I0,n9] at hp
    subst hp
    simp only [O3,K8,I8,List.getD_cons_zero]
    exact .free _ _ (.agg _ _ rfl fun i pv hg=>nomatch hg)
  | succ i =>
    simp only [J6,p8,s6] at hp
    obtain ⟨y,hy,rfl⟩:=hp
    simp only [O3,K8,I8,M3,m8,J6,p8,hy,s8,H2]
    exact h.ev y
 rename_i f' caps hx
 simp only [n9,t8] at hc
 obtain ⟨rfl,hargs⟩:=hc
 have rx:=h.ev x
 rw [hx] at rx
 have hfn:∃ vs:Array Value,a.eval x=.func (.func f') #[] vs∧vs.size=caps.length∧∀ (i:Nat) pv,caps[i]?=some pv→RV P w c pv (vs.getD i undef):=by
  generalize a.eval x=X at rx
  cases rx with
  | free pv v hf=>cases hf with | fn f cs vs hn hr=>exact ⟨vs,rfl,hn,fun i pv hg=>.free _ _ (hr i pv hg)⟩
  | fn f cs vs hn hr=>exact ⟨vs,rfl,hn,hr⟩
 obtain ⟨cv,hX,hcn,hcr⟩:=hfn
 have hrun:(execOp a.eval o).run P w=.ok (.enter f' (cl'.args.map a.eval++cv)) w:=by
  unfold enters at hent
  cases hfu:P.funcs[f']? with
  | none=>simp [hfu] at hent
  | some fn =>
    simp only [hfu,o8,F2] at hent
    have hb:fn.body.isNone=false:=by
     cases hbo:fn.body <;> simp [hbo] at hent ⊢
    unfold execOp
    simp only [hop,resolve,hcal,hX,Deferred.ofValue,o5,o9,m6,invoke,callFunc,program,L3,hfu,hent.2,hb,j9,if_false,Array.empty_append]
 have hrep:∀ (i:Nat) pv,args[i]?=some pv→RV P w c pv ((cl'.args.map a.eval++cv).toList.getD i undef):=by
  intro i p hp
  subst hargs
  rw [m8,O3]
  by_cases hi:i<cl'.args.size
  ·rw [x6 (by simpa using hi)] at hp
   rw [x6 (by simpa using hi)]
   simp only [p8,s6] at hp
   obtain ⟨y,hy,rfl⟩:=hp
   simp only [M3,p8,hy,s8,H2]
   exact h.ev y
  ·rw [x8 (by simp;omega)] at hp
   rw [x8 (by simp;omega)]
   simp only [p9,K6,M3] at hp ⊢
   have:=hcr _ p hp
   simpa [o7] using this
 exact We hrun hrep (by subst hargs;simp [hcn]) hK h hd next Q hn
theorem Inv.freeze (h:Inv P E S0 N σ a w c) {g:Nat} (hg:g<PIN) {u:PV} (hu:(∃ e J es,σ.hget g=some (.row e J es)∧u=.sl es)∨∃ m,σ.hget g=some (.map m)∧u=.fmap m):∃ c',Inv P E S0 N (σ.frz g u) a w c':=by
 let S':Nat→Prop:=fun b=>c.S b∨∃ k:Key,k.tag=g∧c.D k∧c.τ k=b
 let c':Ctx:=⟨S',c.τ,c.hd,c.ty,fun k=>c.D k∧k.tag≠g⟩
 have hSS:∀ b,c.S b→S' b:=fun b hb=>.inl hb
 have hb:∀ k:Key,k.tag=g→c.D k→S' (c.τ k):=fun k hk hD=>.inr ⟨k,hk,hD,rfl⟩
 -- what led to it
 have hrow:(∃ e J es,σ.hget g=some (.row e J es)∧u=.sl es)→RF w S' u (c.hd (.top g)):=by
  rintro ⟨e',J,es,q1,rfl⟩
  obtain ⟨xs,r⟩:=h.fE g _ q1
  exact Yc r (fun i j pv v=>Zt hSS hb i j pv v) fun b hb'=>by obtain ⟨q1,rfl⟩:=r.blk b hb';exact hb _ rfl q1
 have hmap:(∃ m,σ.hget g=some (.map m)∧u=.fmap m)→RF w S' u (.map (some (c.τ (.top g)))):=by
  rintro ⟨m,q1,rfl⟩
  obtain ⟨q2,q3⟩:=h.fE g _ q1
  exact .fmap m _ (hb _ rfl q2) q3
 have hok:c'.Ok E.M w:=by
  refine ⟨fun b hb=>?_,fun k ⟨hD,hne⟩=>⟨(h.ok.hD k hD).1,(h.ok.hD k hD).2.1,fun hS=>?_⟩,fun k k' hD hD' he=>h.ok.inj _ _ hD.1 hD'.1 he⟩
  ·rcases hb with q | ⟨k,_,q,rfl⟩
   ·exact h.ok.hS b q
   ·exact (h.ok.hD k q).2.1
  ·rcases hS with q | ⟨k',q1,q2,q3⟩
   ·exact (h.ok.hD k hD).2.2 q
   ·have:=h.ok.inj _ _ q2 hD q3
    subst this
    exact hne q1
 have hsup:∀ b,S' b→S0 b∨E.M b:=fun b hb=>by
  rcases hb with q | ⟨k,_,q,rfl⟩
  ·exact h.sup b q
  ·exact .inr (h.ok.hD k q).1
 have frzL_get:∀ (l:List PV) (i:Nat),(PV.Qz g u l)[i]?=(l[i]?).map (PV.frz g u):=by
  intro l
  induction l with
  | nil=>intro i;simp [PV.Qz]
  | cons c cs ih=>intro i;cases i <;> simp [PV.Qz,ih]
 have frzL_len:∀ l:List PV,(PV.Qz g u l).length=l.length:=by intro l;induction l <;> simp_all [PV.Qz]
 have main : ∀ pv v,RV P w c pv v→RV P w c' (PV.frz g u pv) v:=by
  intro pv v r
  have lst:∀ {cs:List PV} {vs:Array Value},(∀ (i:Nat) pv,cs[i]?=some pv→RV P w c' (PV.frz g u pv) (vs.getD i Go.undef))→∀ (i:Nat) pv,(PV.Qz g u cs)[i]?=some pv→RV P w c' pv (vs.getD i Go.undef):=by
   intro cs vs ih i pv hg
   rw [frzL_get] at hg
   cases hc:cs[i]? <;> simp [hc] at hg
   subst hg;exact ih i _ hc
  induction r with
  | free pv v hf =>
    have hf2:RF w S' pv v:=hf.same (fun _ _=>rfl) hSS
    clear hf
    have lst2:∀ {cs:List PV} {vs:Array Value},(∀ (i:Nat) pv,cs[i]?=some pv→RF w S' (PV.frz g u pv) (vs.getD i Go.undef))→∀ (i:Nat) pv,(PV.Qz g u cs)[i]?=some pv→RF w S' pv (vs.getD i Go.undef):=by
     intro cs vs ih i pv hg
     rw [frzL_get] at hg
     cases hc:cs[i]? <;> simp [hc] at hg
     subst hg;exact ih i _ hc
    have:RF w S' (PV.frz g u pv) v:=by
     induction hf2 with
     | agg cs vs hn hr ih=>rw [PV.frz];exact .agg _ vs (by rw [frzL_len,hn]) (lst2 ih)
     | tup cs vs hn hr ih=>rw [PV.frz];exact .tup _ vs (by rw [frzL_len,hn]) (lst2 ih)
     | fn f cs vs hn hr ih=>rw [PV.frz];exact .fn f _ vs (by rw [frzL_len,hn]) (lst2 ih)
     | undef v=>exact .undef v
     | lit v=>exact .lit v
     | nl=>exact .nl
     | fmap m b hb hm=>exact .fmap m b hb hm
     | sl es k a n c vf hn hk hk0 hc ha hcell h1 hr=>exact .sl es k a n c vf hn hk hk0 hc ha hcell h1 hr
     | vptr cs off ad vf hS hcell hr=>exact .vptr cs off ad vf hS hcell hr
    exact .free _ _ this
  | row k e he h1 =>
    cases k with
    | top g' =>
      rw [PV.frz]
      split
      ·rename_i hbq
       have:=t7 hbq
       subst this
       rcases hu with hu | ⟨m,_,rfl⟩
       ·have:=hrow hu
        obtain ⟨_,_,es,_,rfl⟩:=hu
        exact .free _ _ this
       ·exact .free _ _ (.undef _)
      ·exact .row (P:=P) (c:=c') _ e he h1
    | sub g' i j =>
      rw [PV.frz]
      split
      ·exact .free _ _ (.undef _)
      ·exact .row (P:=P) (c:=c') _ e he h1
  | part k e lo n A cc he hn hA=>rw [PV.frz];split;exact .free _ _ (.undef _);exact .part (c:=c') k e lo n A cc he hn hA
  | rptr k e i off he=>rw [PV.frz];split;exact .free _ _ (.undef _);exact .rptr (c:=c') k e i off he
  | ptr g' off=>rw [PV.frz];split;exact .free _ _ (.undef _);exact .ptr (c:=c') g' off
  | mp g' =>
    rw [PV.frz]
    split
    ·rename_i hbq
     have:=t7 hbq
     subst this
     rcases hu with ⟨_,_,es,_,rfl⟩ | hu
     ·exact .free _ _ (.undef _)
     ·have:=hmap hu
      obtain ⟨m,_,rfl⟩:=hu
      exact .free _ _ this
    ·exact .mp (c:=c') g'
  | agg cs vs hn hr ih=>rw [PV.frz];exact .agg _ vs (by rw [frzL_len,hn]) (lst ih)
  | tup cs vs hn hr ih=>rw [PV.frz];exact .tup _ vs (by rw [frzL_len,hn]) (lst ih)
  | fn f cs vs hn hr ih=>rw [PV.frz];exact .fn f _ vs (by rw [frzL_len,hn]) (lst ih)
 have hget:∀ (hp:HP) (g':Nat),(hp.frz g u).get g'=if g'=g then none else (hp.get g').map (HO.frz g u):=by
  intro hp g'
  induction hp with
  | nil=>simp [HP.frz,HP.get]
  | cons x hp ih =>
    obtain ⟨g2,o⟩:=x
    simp only [HP.frz]
    by_cases e:g2=g
    ·subst e
     simp only [G9,if_true,ih]
     by_cases e2:g'=g2
     ·simp [e2]
     ·simp [e2,HP.get,sC e2]
    ·simp only [sC e,j9,if_false,HP.get]
     by_cases e2:g'=g2
     ·subst e2;simp [e]
     ·simp only [sC e2,j9,if_false];exact ih
 refine ⟨c',h.below,hok,fun b hb=>hSS b (h.sub b hb),hsup,fun i=>?_,fun g' o hg'=>?_,fun g' hg'=>h.pin g' hg',h.small,h.size,h.defers⟩
 ·have:(σ.frz g u).get i=PV.frz g u (σ.get i):=get_map _ rfl _ _
  rw [this]
  exact main _ _ (h.slots i)
 ·have hgg:(σ.frz g u).hget g'=(σ.h.frz g u).get g':=rfl
  rw [hgg,hget] at hg'
  split at hg'
  ·cases hg'
  ·rename_i hne
   simp only [s6] at hg'
   obtain ⟨o2,ho2,rfl⟩:=hg'
   have r:=h.fE g' o2 ho2
   cases o2 with
   | box cs =>
     obtain ⟨h1,vs,T,h2,h3,h4⟩:=r
     refine ⟨⟨h1,hne⟩,vs,T,h2,by rw [frzL_len,h3],fun i pv hgi=>?_⟩
     rw [frzL_get] at hgi
     cases hc:cs[i]? <;> simp [hc] at hgi
     subst hgi
     exact main _ _ (h4 i _ hc)
   | row e J es =>
     obtain ⟨xs,r⟩:=r
     exact ⟨xs,jB.keep (c:=c) (c':=c') ⟨rfl,rfl,rfl⟩ (fun hD=>⟨rfl,⟨hD,hne⟩⟩) (fun i j pv v hc=>eL.keep (c:=c) (c':=c') (fun _ _=>rfl) hSS (fun _ _=>⟨rfl,rfl,rfl⟩) (fun k hk hD=>⟨rfl,⟨hD,by rw [hk];exact hne⟩⟩) i j pv v hc) r⟩
   | map m =>
     obtain ⟨h1,h2⟩:=r
     exact ⟨⟨h1,hne⟩,h2⟩
   | it l u =>
     obtain ⟨h1,h2⟩:=r
     exact ⟨⟨h1,hne⟩,h2.same (fun b hb=>⟨rfl,hSS b hb⟩) rfl⟩
   | tl e l=>exact Hr.move (c:=c) (c':=c') rfl rfl rfl (fun d=>⟨rfl,⟨d,hne⟩⟩) r
end
end Go.VI
namespace Go.VI
open Go.RowKit
inductive PX where
 | normal
 | exit (id:Nat)
 | ret
def Sub (σ' σ:St):Prop:=(∀ i,σ'.get i=.undef∨σ'.get i=σ.get i)∧∀ g o,σ'.hget g=some o→σ.hget g=some o
def Ec (N:Nat):Code→Bool
 | .region _ ops _=>ops.toList.all fun o=>match o.dst with | some d=>decide (d<N) | none=>true
 | .seq a b=>Ec N a&&Ec N b
 | .cond _ a b=>Ec N a&&Ec N b
 | .block _ c=>Ec N c
 | .loop c=>Ec N c
 | .scope c=>Ec N c
 | _=>true
def SQ (P:Program) (σ:St):ResultVar→Option PV
 | .tmp t=>some (σ.get t)
 | .cell t ty=>match Hm P ty with
   | some agg=>Gu agg (aJ P ty) σ.h (σ.get t)
   | none=>none
def AX (P:Program) (σ:St):List ResultVar→Option (List PV)
 | []=>some []
 | x::xs=>match SQ P σ x,AX P σ xs with
   | some v,some vs=>some (v::vs)
   | _,_=>none
def HZ (P:Program) (σ:St) (l:List ResultVar):Option PV:=
 match AX P σ l with
 | some [v]=>some v
 | some vs=>some (.tup vs)
 | none=>none
def Mq:Nat→List PV→SL
 | _,[]=>[]
 | i,v::vs=>(i,v)::Mq (i+1) vs
section
variable {P:Program} {E:Ent} {S0:Nat→Prop} {N:Nat} {σ:St} {a:Act} {w:World} {c:Ctx}
theorem Cu {ops:Array Oper} {o:Oper} {b:Bool} (h:Inv P E S0 N σ a w c) (hg:lY ops σ o=some b):Region.wanted o (yielded ops a.tmps)=b:=by
 unfold lY at hg
 unfold Region.wanted
 split at hg
 ·injection hg with hg;rename_i e;rw [e];exact hg
 ·rename_i j want e
  rw [e]
  simp only
  split at hg
  ·rename_i d hd
   have hy:yielded ops a.tmps j=match a.tmps[d]? with | some (.bool b)=>some b | _=>none:=by
    unfold yielded
    rw [hd]
    rfl
   have hs:=h.slots d
   split at hg
   ·rename_i t ht
    injection hg with hg
    rw [ht] at hs
    have hv:=hs.iB
    rw [hy]
    have:a.tmps[d]?=some (.bool t):=by
     rw [o7] at hv
     cases hq:a.tmps[d]? with
     | none=>rw [hq] at hv;cases hv
     | some u=>rw [hq] at hv;simp at hv;rw [hv]
    rw [this,← hg]
    simp
   ·rename_i u hnb ht
    injection hg with hg
    rw [ht] at hs
    have hv:=hs.iB
    rw [hy,← hg]
    have:(match a.tmps[d]? with | some (.bool b)=>some b | _=>none)=none:=by
     cases hq:a.tmps[d]? with
     | none=>rfl
     | some u' =>
       rw [o7,hq] at hv
       simp at hv
       subst hv
       cases u' <;> first | rfl | exact absurd rfl (hnb _)
    rw [this]
    rfl
   ·cases hg
  ·rename_i hd
   injection hg with hg
   have hy:yielded ops a.tmps j=none:=by
    unfold yielded
    rw [hd]
    rfl
   rw [hy,← hg]
   rfl
def PX.like:PX→Exit→Prop
 | .normal,.normal=>True
 | .exit i,.exit j=>i=j
 | .ret,.ret=>True
 | _,_=>False
theorem Rw {σ':St} (hs:Sub σ' σ) (h:Inv P E S0 N σ a w c):Inv P E S0 N σ' a w c:=h.weak hs.1 hs.2
theorem HF (vs:List PV):∀ i k,(Mq i vs).get k=if i≤k then (vs[k-i]?).getD .undef else .undef:=by
 induction vs with
 | nil=>intro i k;simp [Mq,SL.get]
 | cons v vs ih =>
   intro i k
   simp only [Mq,SL.get]
   by_cases e:k=i
   ·subst e;simp
   ·rw [if_neg e,ih]
    by_cases h:i+1≤k
    ·rw [if_pos h,if_pos (by omega),show k-i=(k-(i+1))+1 from by omega,J6]
    ·rw [if_neg h,if_neg (by omega)]
theorem SR {x:ResultVar} {pv:PV} (h:Inv P E S0 N σ a w c) (hp:SQ P σ x=some pv) :
  ∃ v,(match x with | .tmp t=>pure (a.tmps.getD t undef) | .cell ad t=>do loadVar t (← asAddr (a.tmps.getD ad undef)):Sem Value).run P w=.ok v w∧RV P w c pv v:=by
 unfold SQ at hp
 split at hp
 ·rename_i t
  injection hp with hp
  subst hp
  exact ⟨_,rfl,h.slots t⟩
 ·rename_i ad t
  split at hp
  case h_2=>cases hp
  rename_i agg hagg
  obtain ⟨v,q1,q2⟩:=Xz hagg h (h.slots ad) hp
  refine ⟨v, ?_,q2⟩
  have hpt:∃ p,a.tmps.getD ad undef=.pointer (some p):=by
   generalize a.tmps.getD ad undef=X at q1
   cases X with
   | pointer p=>cases p with
     | some p=>exact ⟨p,rfl⟩
     | none=>simp [Instr.loadAt,Instr.sureAddr,stuck,o5,L3,V0] at q1
   | _=>simp [Instr.loadAt,Instr.sureAddr,stuck,o5,L3,V0] at q1
  obtain ⟨p,hp'⟩:=hpt
  rw [hp'] at q1 ⊢
  simpa [Instr.loadAt,Instr.sureAddr,asAddr,o5] using q1
theorem FK:∀ {l:List ResultVar} {vs:List PV},Inv P E S0 N σ a w c→AX P σ l=some vs →
  ∃ us:List Value,(l.mapM fun x=>(match x with | .tmp t=>pure (a.tmps.getD t undef) | .cell ad t=>do loadVar t (← asAddr (a.tmps.getD ad undef)):Sem Value)).run P w=.ok us w∧us.length=vs.length∧∀ (i:Nat) pv,vs[i]?=some pv→RV P w c pv (us.getD i undef)
 | [],vs,_,hp=>by
   simp [AX] at hp
   subst hp
   exact ⟨[],by simp [List.mapM_nil],rfl,by simp⟩
 | x::l,vs,h,hp=>by
   simp only [AX] at hp
   split at hp
   case h_2=>cases hp
   rename_i v ws h1 h2
   injection hp with hp
   subst hp
   obtain ⟨u,q1,q2⟩:=SR h h1
   obtain ⟨us,q3,q4,q5⟩:=FK h h2
   refine ⟨u::us, ?_,by simp [q4],fun i pv hg=>?_⟩
   ·simp only [List.mapM_cons,o5,q1,m6,q3,o9]
   ·cases i with
    | zero=>simp at hg;subst hg;exact q2
    | succ i=>simpa using q5 i pv (by simpa using hg)
theorem WJ {fn:Func} {r:PV} (h:Inv P E S0 N σ a w c) (hp:HZ P σ fn.results.toList=some r):∃ v,(results fn a.tmps).run P w=.ok v w∧RV P w c r v:=by
 unfold HZ at hp
 have main:∀ vs,AX P σ fn.results.toList=some vs→∃ us:List Value,us.length=vs.length∧(∀ (i:Nat) pv,vs[i]?=some pv→RV P w c pv (us.getD i undef))∧(results fn a.tmps).run P w=.ok (if hh:us.toArray.size=1 then us.toArray[0] else .tuple us.toArray) w:=by
  intro vs hv
  obtain ⟨us,q1,q2,q3⟩:=FK h hv
  refine ⟨us,q2,q3, ?_⟩
  unfold results
  rw [Array.mapM_eq_mapM_toList]
  simp only [o5,map_eq_pure_bind,o9]
  erw [q1]
  simp only [m6]
 split at hp
 ·rename_i v hv
  injection hp with hp
  subst hp
  obtain ⟨us,q1,q2,q3⟩:=main _ hv
  match us,q1 with
  | [u],_=>exact ⟨u,by simpa using q3,by simpa using q2 0 v rfl⟩
 ·rename_i vs hne hv
  injection hp with hp
  subst hp
  obtain ⟨us,q1,q2,q3⟩:=main _ hv
  have hl:us.toArray.size≠1:=by
   intro e
   simp at e
   rw [q1] at e
   match vs,e with
   | [v],_=>exact hne v rfl
  rw [dif_neg hl] at q3
  exact ⟨_,q3,.tup vs _ (by simpa using q1) fun i pv hg=>by simpa [o7] using q2 i pv hg⟩
 ·cases hp
end
structure Prg where
 P:Program
 eqn:TypeId→Nat
 hE:∀ t,0<eqn t→EqC P t (eqn t)
 D1:P.follows .mixedOrders=true
def SEM (G:Prg) (cd:Code) (σ:St) (K:PX→St→Prop):Prop:=
 ∀ (E:Ent) (S0:Nat→Prop) (N:Nat) (a:Act) (w:World) (c:Ctx),Ec N cd=true→Inv G.P E S0 N σ a w c →
   cd.wp G.P (fun e a' w'=>∃ x σ' c',PX.like x e∧K x σ'∧Inv G.P E S0 N σ' a' w' c') a w
def knd:Code→Nat
 | .skip=>0
 | .region _ _ false=>1
 | .region _ _ true=>2
 | .seq _ _=>3
 | .cond _ _ _=>4
 | .block _ _=>5
 | .loop _=>6
 | .exit _=>7
 | .ret=>8
 | .scope _=>10
 | .label _=>11
 | _=>9
def cL:Code→Code
 | .seq a _=>a
 | .cond _ a _=>a
 | .block _ c=>c
 | .loop c=>c
 | .scope c=>c
 | _=>.skip
def cR:Code→Code
 | .seq _ b=>b
 | .cond _ _ b=>b
 | _=>.skip
def vM:Code→Array Oper
 | .region _ ops _=>ops
 | _=>#[]
def cId:Code→Nat
 | .block i _=>i
 | .exit i=>i
 | _=>0
def PI:Code→Operand
 | .cond c _ _=>c
 | _=>.const undef
section
variable {G:Prg} {cd:Code} {σ:St} {K:PX→St→Prop}
theorem WR {σ':St} (hs:Sub σ' σ) (h:SEM G cd σ' K):SEM G cd σ K:=fun E S0 N a w c hd hi=>h E S0 N a w c hd (Rw hs hi)
theorem TE {K':PX→St→Prop} (hk:∀ x τ,K' x τ→K x τ) (h:SEM G cd σ K'):SEM G cd σ K:=fun E S0 N a w c hd hi =>
 wp_mono (h E S0 N a w c hd hi) fun _ _ _ ⟨x,σ',c',q1,q2,q3⟩=>⟨x,σ',c',q1,hk _ _ q2,q3⟩
def atS (σ' σ:St):SL×List (Nat×Option HO):=(l7 (fun (p:Nat×PV)=>(p.1,σ.get p.1)) σ'.s,l7 (fun (p:Nat×HO)=>(p.1,σ.hget p.1)) σ'.h)
def asS (σ':St):SL×List (Nat×Option HO):=(σ'.s,l7 (fun (p:Nat×HO)=>(p.1,some p.2)) σ'.h)
theorem CX {σ':St} (h:atS σ' σ=asS σ'):Sub σ' σ:=by
 obtain ⟨s,hp⟩:=σ'
 simp only [atS,asS,t8] at h
 obtain ⟨h1,h2⟩:=h
 refine ⟨fun i=>?_,fun g o hg=>?_⟩
 ·show SL.get s i=.undef∨SL.get s i=σ.get i
  clear h2
  induction s with
  | nil=>left;rfl
  | cons p r ih =>
    obtain ⟨j,v⟩:=p
    simp only [E1,J9,t8] at h1
    obtain ⟨⟨-,h1⟩,h2⟩:=h1
    simp only [SL.get]
    by_cases e:i=j
    ·subst e;right;simp [h1]
    ·rw [if_neg e];exact ih h2
 ·replace hg:HP.get hp g=some o:=hg
  clear h1
  induction hp with
  | nil=>cases hg
  | cons p r ih =>
    obtain ⟨j,v⟩:=p
    simp only [E1,J9,t8] at h2
    obtain ⟨⟨-,h1⟩,h2⟩:=h2
    simp only [HP.get] at hg
    split at hg
    ·rename_i hb
     have:=t7 hb
     subst this
     rw [h1];exact hg
    ·exact ih h2 hg
def Kl (G:Prg) (b:Code) (K:PX→St→Prop):PX→St→Prop
 | .normal,σ=>SEM G b σ K
 | .exit i,σ=>K (.exit i) σ
 | .ret,σ=>K .ret σ
def BQ (id:Nat) (K:PX→St→Prop):PX→St→Prop
 | .exit i,σ=>if i=id then K .normal σ else K (.exit i) σ
 | .normal,σ=>K .normal σ
 | .ret,σ=>K .ret σ
theorem aL {b:Code} {i:Nat} (h:K (.exit i) σ):Kl G b K (.exit i) σ:=h
theorem aO {b:Code} (h:K .ret σ):Kl G b K .ret σ:=h
theorem YM {id i:Nat} (e:id=i) (h:K .normal σ):BQ id K (.exit i) σ:=by subst e;simp only [BQ,if_true];exact h
theorem rD {id i:Nat} (e:E4 i id=false) (h:K (.exit i) σ):BQ id K (.exit i) σ:=by
 have:i≠id:=fun q=>by subst q;simp at e
 simp only [BQ,if_neg this];exact h
theorem aE {id:Nat} (h:K .normal σ):BQ id K .normal σ:=h
theorem aU {id:Nat} (h:K .ret σ):BQ id K .ret σ:=h
theorem TG (hk:knd cd=0) (h:K .normal σ):SEM G cd σ K:=by
 cases cd <;> simp [knd] at hk
 ·exact fun E S0 N a w c _ hi=>wp_skip ⟨.normal,σ,c,trivial,h,hi⟩
 ·rename_i b;cases b <;> simp [knd] at hk
theorem TD (i:Nat) (hk:knd cd=7) (hi:cId cd=i) (h:K (.exit i) σ):SEM G cd σ K:=by
 cases cd <;> simp [knd] at hk
 ·rename_i b;cases b <;> simp [knd] at hk
 ·simp only [cId] at hi;subst hi
  exact fun E S0 N a w c _ hi=>wp_exit ⟨.exit _,σ,c,rfl,h,hi⟩
theorem WQ (hk:knd cd=8) (h:K .ret σ):SEM G cd σ K:=by
 cases cd <;> simp [knd] at hk
 ·rename_i b;cases b <;> simp [knd] at hk
 ·exact fun E S0 N a w c _ hi=>wp_ret ⟨.ret,σ,c,trivial,h,hi⟩
theorem Ob (hk:knd cd=3) (h:SEM G (cL cd) σ (Kl G (cR cd) K)):SEM G cd σ K:=by
 cases cd <;> simp [knd] at hk
 ·rename_i b;cases b <;> simp [knd] at hk
 ·rename_i x y
  intro E S0 N a w c hd hi
  simp only [Ec,o8] at hd
  refine wp_seq (wp_mono (h E S0 N a w c hd.1 hi) fun e a' w' he=>?_)
  obtain ⟨px,σ',c',hl,hk,hi⟩:=he
  cases px <;> cases e <;> simp only [PX.like] at hl
  ·exact hk E S0 N _ _ _ hd.2 hi
  ·exact ⟨.exit _,σ',c',by rw [PX.like];exact hl,hk,hi⟩
  ·exact ⟨.ret,σ',c',trivial,hk,hi⟩
theorem Ye (b:Bool) (hk:knd cd=4) (hb:pev σ (PI cd)=.lit (.bool b)) (h1:b=true→SEM G (cL cd) σ K) (h2:b=false→SEM G (cR cd) σ K):SEM G cd σ K:=by
 cases cd <;> simp [knd] at hk
 ·rename_i b;cases b <;> simp [knd] at hk
 ·rename_i x y z
  intro E S0 N a w c hd hi
  simp only [Ec,o8] at hd
  have hv:=hi.ev x
  simp only [PI] at hb
  rw [hb] at hv
  exact wp_cond_split hv.iB (fun e=>h1 e E S0 N a w c hd.1 hi) (fun e=>h2 e E S0 N a w c hd.2 hi)
theorem Tg (hk:knd cd=4) (hb:pev σ (PI cd)=.lit (.bool true)) (h1:SEM G (cL cd) σ K):SEM G cd σ K:=Ye true hk hb (fun _=>h1) (fun e=>nomatch e)
theorem Oa (hk:knd cd=4) (hb:pev σ (PI cd)=.lit (.bool false)) (h2:SEM G (cR cd) σ K):SEM G cd σ K:=Ye false hk hb (fun e=>nomatch e) (fun _=>h2)
theorem NT (hk:knd cd=5) (h:SEM G (cL cd) σ (BQ (cId cd) K)):SEM G cd σ K:=by
 cases cd <;> simp [knd] at hk
 ·rename_i b;cases b <;> simp [knd] at hk
 ·rename_i id x
  intro E S0 N a w c hd hi
  refine wp_block (wp_mono (h E S0 N a w c (by rw [Ec] at hd;exact hd) hi) fun e a' w' he=>?_)
  obtain ⟨px,σ',c',hl,hk,hi⟩:=he
  cases px <;> cases e <;> simp only [PX.like] at hl
  ·exact ⟨.normal,σ',c',trivial,hk,hi⟩
  ·subst hl
   simp only [Exit.inBlock]
   rename_i jd
   replace hk:if jd=id then K PX.normal σ' else K (PX.exit jd) σ':=hk
   by_cases e:jd=id
   ·rw [if_pos e] at hk ⊢;exact ⟨.normal,σ',c',trivial,hk,hi⟩
   ·rw [if_neg e] at hk ⊢;exact ⟨.exit _,σ',c',rfl,hk,hi⟩
  ·exact ⟨.ret,σ',c',trivial,hk,hi⟩
theorem NZ (hk:knd cd=10) (h:SEM G (cL cd) σ K):SEM G cd σ K:=by
 cases cd <;> simp [knd] at hk
 ·rename_i b;cases b <;> simp [knd] at hk
 ·rename_i x
  intro E S0 N a w c hd hi
  refine wp_scope_straight (wp_mono (h E S0 N a w c (by rw [Ec] at hd;exact hd) hi) fun e a' w' he=>?_)
  obtain ⟨px,σ',c',hl,hk,hi⟩:=he
  cases px <;> cases e <;> simp only [PX.like] at hl
  ·exact ⟨.normal,σ',c',trivial,hk,hi⟩
  ·exact ⟨.exit _,σ',c',hl,hk,hi⟩
  ·exact ⟨.ret,σ',c',trivial,hk,hi⟩
theorem NW (hk:knd cd=11) (h:K .normal σ):SEM G cd σ K:=by
 cases cd <;> simp [knd] at hk
 ·rename_i b;cases b <;> simp [knd] at hk
 ·intro E S0 N a w c hd hi
  exact wp_label ⟨.normal,σ,c,trivial,h,hi⟩
def EVS (G:Prg) (ops:Array Oper) (k:Nat) (σ:St) (K:St→Prop):Prop:=
 ∀ (E:Ent) (S0:Nat→Prop) (N:Nat) (a:Act) (w:World) (c:Ctx),(∀ o ∈ ops.toList,∀ k,o.dst=some k→k<N)→Inv G.P E S0 N σ a w c →
   ∀ (Q:Exit→Act→World→Prop),(∀ σ' a' w' c',K σ'→Inv G.P E S0 N σ' a' w' c'→Q .normal a' w')→wpOps G.P ops Q (P8 k (ops.size-k)) a w
theorem Zw {N id:Nat} {ops:Array Oper} {d:Bool} (hd:Ec N (.region id ops d)=true):∀ o ∈ ops.toList,∀ k,o.dst=some k→k<N:=fun o ho k hk=>by
 have:=p7.1 (by rw [Ec] at hd;exact hd) o ho
 rw [hk] at this
 simpa using this
theorem Cv (hk:knd cd=1) (h:EVS G (vM cd) 0 σ (K .normal)):SEM G cd σ K:=by
 cases cd <;> simp [knd] at hk
 rename_i id ops b
 cases b <;> simp [knd] at hk
 intro E S0 N a w c hd hi
 refine wp_region ?_
 have:=h E S0 N a w c (Zw hd) hi (fun e a' w'=>∃ x σ' c',PX.like x e∧K x σ'∧Inv G.P E S0 N σ' a' w' c') fun σ' a' w' c' hk hi=>⟨.normal,σ',c',trivial,hk,hi⟩
 simp only [vM,Nat.sub_zero] at this
 rwa [← O2] at this
section
variable {ops:Array Oper} {k:Nat} {K:St→Prop}
theorem JY {σ':St} (hs:Sub σ' σ) (h:EVS G ops k σ' K):EVS G ops k σ K:=fun E S0 N a w c hd hi=>h E S0 N a w c hd (Rw hs hi)
theorem VM (σ':St) (h:atS σ' σ=asS σ') (s:EVS G ops k σ' K):EVS G ops k σ K:=JY (CX h) s
theorem VL (h:E6 ops.size k=true) (hk:K σ):EVS G ops k σ K:=fun E S0 N a w c hd hi Q hn=>by
 have:ops.size-k=0:=by have:=J3 h;omega
 rw [this]
 simp only [List.range'_zero,wpOps]
 exact hn _ _ _ _ hk hi
def Eg (ops:Array Oper) (k:Nat):Option Oper:=ops.toList[k]?
def fX (ops:Array Oper) (k:Nat):Option Nat:=(Eg ops k).bind (·.dst)
def XB (P:Program) (o:Oper) (σ:St) (K:St→Prop):Prop:=
 ∀ (E:Ent) (S0:Nat→Prop) (N:Nat) (a:Act) (w:World) (c:Ctx),Inv P E S0 N σ a w c→(∀ k,o.dst=some k→k<N) →
   ∀ (next:Act→World→Prop) (Q:Exit→Act→World→Prop),(∀ σ' a' w' c',K σ'→Inv P E S0 N σ' a' w' c'→next a' w')→o.wp P a w next Q
theorem Nq {o:Oper} (ho:Eg ops k=some o) {b:Bool} (hg:lY ops σ o=some b) (h1:b=true→XB G.P o σ (fun σ'=>EVS G ops (k+1) σ' K)) (h2:b=false→EVS G ops (k+1) (mU σ o.dst (.lit undef)) K):EVS G ops k σ K:=by
 intro E S0 N a w c hd hi Q hn
 have hlt:k<ops.size:=by
  unfold Eg at ho
  obtain ⟨q,_⟩:=m9.1 ho
  simpa using q
 have e:ops.size-k=(ops.size-(k+1))+1:=by omega
 have hmA:ops[k]?=some o:=by rw [← w9];exact ho
 rw [e,N5]
 simp only [wpOps,hmA]
 cases b with
 | true =>
   rw [if_pos (Cu hi hg)]
   exact .inl (h1 rfl E S0 N a w c hi (hd o (m5 ho)) _ _ fun σ' a' w' c' hk hi'=>hk E S0 N a' w' c' hd hi' Q hn)
 | false =>
   rw [if_neg (by rw [Cu hi hg];simp)]
   exact h2 rfl E S0 N _ w c hd (hi.put o.dst (hd o (m5 ho)) (.free _ _ (.lit _))) Q hn
def eX (G:Prg) (ops:Array Oper) (k:Nat) (σ:St):Option Res:=match Eg ops k with
 | some o=>match lY ops σ o with
   | some true=>(match oD σ o.op with
     | none=>kQ G.P G.eqn σ (o.dst.getD 0) o.type o.op
     | some _=>none)
   | some false=>some (.val (.lit undef))
   | none=>none
 | none=>none
theorem gK {r:Res} (h:eX G ops k σ=some r) (next:EVS G ops (k+1) (r.put σ (fX ops k)) K):EVS G ops k σ K:=by
 unfold eX at h
 cases ho:Eg ops k with
 | none=>rw [ho] at h;cases h
 | some o =>
   rw [ho] at h
   have hd:fX ops k=o.dst:=by unfold fX;rw [ho];rfl
   rw [hd] at next
   simp only at h
   cases hg:lY ops σ o with
   | none=>rw [hg] at h;cases h
   | some b =>
     rw [hg] at h
     cases b with
     | true =>
       refine Nq ho hg (fun _=>?_) fun e=>nomatch e
       simp only at h
       split at h
       ·intro E S0 N a w c hi hd nx Q hn
        exact Vj G.hE hi hd h nx Q fun a' w' c' hi'=>hn _ _ _ _ next hi'
       ·cases h
     | false =>
       refine Nq ho hg (fun e=>nomatch e) fun _=>?_
       simp only [n9] at h
       subst h
       rw [put_eq] at next
       exact next
def runK (G:Prg) (ops:Array Oper):Nat→Nat→St→Option St
 | _,0,σ=>some σ
 | k,n+1,σ=>match eX G ops k σ with
   | some r=>runK G ops (k+1) n (r.put σ (fX ops k))
   | none=>none
def Uu (G:Prg) (ops:Array Oper) (k n:Nat) (σ:St):St:=(runK G ops k n σ).getD ⟨[],[]⟩
theorem Vc (n:Nat) (h:(runK G ops k n σ).isSome=true) (next:EVS G ops (k+n) (Uu G ops k n σ) K):EVS G ops k σ K:=by
 induction n generalizing k σ with
 | zero=>exact next
 | succ n ih =>
   simp only [runK] at h
   simp only [Uu,runK] at next
   cases hs:eX G ops k σ with
   | none=>rw [hs] at h;cases h
   | some r =>
     rw [hs] at h next
     refine gK hs (ih h ?_)
     rw [show k+1+n=k+(n+1) from by omega]
     exact next
theorem MJ {o:Oper} (ho:Eg ops k=some o) (hg:lY ops σ o=some true) {f:Nat} {args:List PV} {R R1:TL} {vis:List Nat} {qs:List PV} {H0:HP} {r:PV} {H1:HP} (hc:oD σ o.op=some (f,args))
  (hK:DA G.P f args o.dst σ R R1 vis qs H0 r H1 (fun σ'=>EVS G ops (k+1) σ' K)):EVS G ops k σ K:=
 Nq ho hg (fun _ E S0 N a w c hi hd next Q hn=>Wc hc hK hi hd next Q hn) fun e=>nomatch e
end
end
end Go.VI
namespace Go.VI
open Go.RowKit
def Bs (ops:Array Oper) (k:Nat) (σ:St):Option Oper:=match Eg ops k with
 | some o=>if lY ops σ o=some true then some o else none
 | none=>none
section
variable {G:Prg} {ops:Array Oper} {k:Nat} {σ:St} {α:Type} {c:α→List PV}
theorem fH {o:Oper} (h:Bs ops k σ=some o):Eg ops k=some o∧lY ops σ o=some true:=by
 unfold Bs at h
 split at h
 ·split at h
  ·injection h with h;subst h;exact ⟨by assumption,by assumption⟩
  ·cases h
 ·cases h
theorem Dq {o:Oper} {r:Res} (h:Bs ops k σ=some o) (hc:oD σ o.op=none) (hp:kQ G.P G.eqn σ (o.dst.getD 0) o.type o.op=some r):eX G ops k σ=some r:=by
 obtain ⟨h1,h2⟩:=fH h
 unfold eX
 simp only [h1,h2,hc,hp]
def Ly (G:Prg) (ops:Array Oper) (k:Nat) (σ:St):Option (PV×PV×Nat):=match Bs ops k σ with
 | some o=>(match o.op with
   | .indexAddr t x ix=>(match kL G.P t with
     | some e=>if (G.P.info? e).isSome=true then some (pev σ x,pev σ ix,aJ G.P e) else none
     | none=>none)
   | _=>none)
 | none=>none
theorem Lc {b ix:PV} {sz:Nat} (h:Ly G ops k σ=some (b,ix,sz)) {i:Nat} (hi:Li ix=some i) {q:PV} (hq:nO sz σ.h b i=some q):eX G ops k σ=some (.val q):=by
 unfold Ly at h
 split at h
 case h_2=>cases h
 rename_i o ho
 split at h
 case h_2=>cases h
 rename_i t x ix' hop
 split at h
 case h_2=>cases h
 rename_i e he
 split at h
 case isFalse=>cases h
 rename_i hinf
 simp only [n9,t8] at h
 obtain ⟨rfl,rfl,rfl⟩:=h
 refine Dq ho (by rw [hop];rfl) ?_
 rw [hop]
 simp only [kQ,he,hi,hinf,if_true,hq,s8]
theorem Bt {kd:IntKind} {i:Int} (h:0≤i):Li (.lit (.int kd i))=some i.toNat:=by simp [Li,h]
theorem ZK {l:List α} {i:Int} {kd:IntKind} {sz:Nat} {x:α} (h:Ly G ops k σ=some (.sl (l.map c),.lit (.int kd i),sz)) (hx:idx l i=some x) (hs:(c x).length=sz):eX G ops k σ=some (.val (.vptr (c x) 0)):=by
 obtain ⟨h0,h1⟩:=Mp hx
 refine Lc h (Bt h0) ?_
 simp only [nO,p8,h1,s8,hs,if_true]
theorem LH {l:List α} {i:Int} {kd:IntKind} {kk:Key} {e sz:Nat} {x:α} (h:Ly G ops k σ=some (.row kk e,.lit (.int kd i),sz)) (hr:σ.h.rowAt kk=some (l.map c)) (hx:idx l i=some x) (hs:(c x).length=sz):eX G ops k σ=some (.val (.rptr kk e i.toNat 0)):=by
 obtain ⟨h0,h1⟩:=Mp hx
 refine Lc h (Bt h0) ?_
 simp only [nO,hr,p8,h1,s8,hs,if_true]
theorem CW {l:List α} {i:Int} {kd:IntKind} {kk:Key} {e sz lo n:Nat} {x:α} (h:Ly G ops k σ=some (.part kk e lo n,.lit (.int kd i),sz)) (hr:σ.h.rowAt kk=some (l.map c)) (hx:idx ((l.drop lo).take n) i=some x) (hs:(c x).length=sz):eX G ops k σ=some (.val (.rptr kk e (lo+i.toNat) 0)):=by
 obtain ⟨h0,h1⟩:=Mp hx
 have hi:=(m9.1 h1).1
 simp only [x7] at hi
 rw [List.getElem?_take,if_pos (by omega),E8] at h1
 refine Lc h (Bt h0) ?_
 simp only [nO,hr,p8,h1,s8,hs]
 rw [if_pos ⟨trivial,by omega⟩]
def HI (G:Prg) (ops:Array Oper) (k:Nat) (σ:St):Option (Bool×Nat×PV):=match Bs ops k σ with
 | some o=>(match o.op with
   | .load t a=>(match Hm G.P t with
     | some agg=>some (agg,aJ G.P t,pev σ a)
     | none=>none)
   | _=>none)
 | none=>none
theorem MV {agg:Bool} {sz:Nat} {p v:PV} (h:HI G ops k σ=some (agg,sz,p)) (hv:Gu agg sz σ.h p=some v):eX G ops k σ=some (.val v):=by
 unfold HI at h
 split at h
 case h_2=>cases h
 rename_i o ho
 split at h
 case h_2=>cases h
 rename_i t a hop
 split at h
 case h_2=>cases h
 rename_i ag he
 simp only [n9,t8] at h
 obtain ⟨rfl,rfl,h3⟩:=h
 refine Dq ho (by rw [hop];rfl) ?_
 rw [hop]
 simp only [kQ,he,h3,hv,s8]
theorem Nd {l:List α} {i:Nat} {agg:Bool} {sz e off:Nat} {kk:Key} {J:List (Nat×Nat)} {x:α} {v:PV} (h:HI G ops k σ=some (agg,sz,.rptr kk e i off)) (hr:σ.h.rowAt kk=some (l.map c)) (hJ:σ.h.Ft kk=J) (hx:l[i]?=some x) (hv:Gu agg sz [] (.vptr (owned kk.tag i J (c x)) off)=some v):eX G ops k σ=some (.val v):=by
 refine MV h ?_
 simp only [Gu,HP.elem,hr,p8,hx,hJ,s8] at hv ⊢
 exact hv
def TX (G:Prg) (ops:Array Oper) (k:Nat) (σ:St):Option (Bool×Nat×PV×PV):=match Bs ops k σ with
 | some o=>(match o.op with
   | .store t a x=>(match Hm G.P t with
     | some agg=>some (agg,aJ G.P t,pev σ a,pev σ x)
     | none=>none)
   | _=>none)
 | none=>none
def IW (agg:Bool) (sz off n:Nat) (J:List (Nat×Nat)) (x:PV):Bool:=x.cells.length==sz&&x.isAgg==agg&&decide (off+sz≤n)&&x.cells.all PV.still&&J.all (fun y=>decide (y.1<off∨off+sz≤y.1))
theorem OE {agg:Bool} {sz:Nat} {p v:PV} {r:Res} (h:TX G ops k σ=some (agg,sz,p,v)) (hv:Lj agg sz σ.h p v=some r):eX G ops k σ=some r:=by
 unfold TX at h
 split at h
 case h_2=>cases h
 rename_i o ho
 split at h
 case h_2=>cases h
 rename_i t a y hop
 split at h
 case h_2=>cases h
 rename_i ag he
 simp only [n9,t8] at h
 obtain ⟨rfl,rfl,h3,rfl⟩:=h
 refine Dq ho (by rw [hop];rfl) ?_
 rw [hop]
 simp only [kQ,he,h3,hv]
theorem Xn {l:List α} {n:Nat} {x x':α} {off:Nat} {vs:List PV} (h:l[n]?=some x) (hs:setAt (c x) off vs=c x'):setRow (l.map c) n off vs=(l.set n x').map c:=by
 unfold setRow
 apply G0
 intro j
 rw [List.getElem?_modify,p8,p8,List.getElem?_set]
 by_cases e:n=j
 ·subst e
  obtain ⟨hl,rfl⟩:=m9.1 h
  simp [hs,hl]
 ·simp [e]
theorem Yh {l:List α} {i:Nat} {agg:Bool} {sz e off:Nat} {kk:Key} {J:List (Nat×Nat)} {x x':α} {v:PV} {o:HO} (h:TX G ops k σ=some (agg,sz,.rptr kk e i off,v)) (hr:σ.h.rowAt kk=some (l.map c)) (hJ:σ.h.Ft kk=J) (hx:l[i]?=some x) (hv:IW agg sz off (c x).length J v=true)
  (hs:setAt (c x) off v.cells=c x') (ho:σ.h.Ep ((l.set i x').map c) kk=some o):eX G ops k σ=some ⟨[],[(kk.tag,o)],.lit undef⟩:=by
 simp only [IW,o8,beq_iff_eq,decide_eq_true_eq] at hv
 obtain ⟨⟨⟨⟨v1,v2⟩,v3⟩,v4⟩,v5⟩:=hv
 refine OE h ?_
 have hm:=Xn (c:=c) hx hs
 have hg:(l7 c l)[i]?=some (c x):=by rw [p8,hx];rfl
 simp only [Lj,v1,v2,and_self,if_true,hr,hJ,hg]
 rw [if_pos ⟨v3,v4,v5⟩,hm,ho]
def Om (G:Prg) (ops:Array Oper) (k:Nat) (σ:St):Option (PV×PV×Nat×Nat×Nat):=match Bs ops k σ with
 | some o=>(match o.op with
   | .call c=>(match c.callee with
     | .builtin .append=>(match c.args.toList,c.argTypes.toList with
       | [a,x],[t,t']=>if t=t' then (match kL G.P t with
         | some e=>if Hf G.P e=true then some (pev σ a,pev σ x,e,aJ G.P e,o.dst.getD 0) else none
         | none=>none) else none
       | _,_=>none)
     | _=>none)
   | _=>none)
 | none=>none
theorem Vx {a x:PV} {e sz d:Nat} {r:Res} (h:Om G ops k σ=some (a,x,e,sz,d)) (hp:Fq e sz d σ.h a x=some r):eX G ops k σ=some r:=by
 unfold Om at h
 split at h
 case h_2=>cases h
 rename_i o ho
 split at h
 case h_2=>cases h
 rename_i cl hop
 split at h
 case h_2=>cases h
 rename_i hcal
 split at h
 case h_2=>cases h
 rename_i a' x' t t' hargs hty
 split at h
 case isFalse=>cases h
 rename_i ht
 split at h
 case h_2=>cases h
 rename_i e' he
 split at h
 case isFalse=>cases h
 rename_i hrow
 simp only [n9,t8] at h
 obtain ⟨rfl,rfl,rfl,rfl,rfl⟩:=h
 refine Dq ho (by rw [hop];simp only [oD,hcal]) ?_
 rw [hop]
 simp only [kQ,Tb,hcal,hargs,hty,ht,if_true]
 rw [← ht,he]
 simp only [hrow,if_true]
 exact hp
theorem Qd {l:List α} {sz:Nat} (hs:∀ y,(c y).length=sz):(l.map c).all (fun r=>r.length==sz)=true:=by
 rw [p7]
 intro r hr
 obtain ⟨y,_,rfl⟩:=E3.1 hr
 simp [hs y]
theorem CV {l l2 l':List α} {x:PV} {g e sz d:Nat} (h:Om G ops k σ=some (.row (.top g) e,x,e,sz,d)) (ha:σ.h.get g=some (.row e [] (l.map c))) (hx:x.elems σ.h=some (l2.map c)) (hf:x.flat σ.h=true) (hs:∀ y,(c y).length=sz) (hg:Nat.blt g PIN=true) (hl:app l l2=some l'):eX G ops k σ=some ⟨[dU g],[(g,.row e [] (l'.map c))],.row (.top g) e⟩:=by
 obtain ⟨h1,rfl⟩:=OU hl
 refine Vx h ?_
 simp only [Fq,hx,Qd hs,hf,and_self,if_true,ha,p9,List.map_append]
 rw [if_pos ⟨trivial,h1,by simpa using hg⟩]
theorem WT {l2 l':List α} {x:PV} {e sz d:Nat} (h:Om G ops k σ=some (.nl,x,e,sz,d)) (hx:x.elems σ.h=some (l2.map c)) (hf:x.flat σ.h=true) (hs:∀ y,(c y).length=sz) (hl:app [] l2=some l'):eX G ops k σ=some (.new d (.row e [] (l'.map c)) (.row (.top d) e)):=by
 obtain ⟨h1,rfl⟩:=OU hl
 refine Vx h ?_
 simp only [List.length_nil,I2] at h1
 simp only [Fq,hx,Qd hs,hf,and_self,if_true,p9,I8]
 rw [if_pos h1]
def Ov (G:Prg) (ops:Array Oper) (k:Nat) (σ:St):Option PV:=match Bs ops k σ with
 | some o=>(match o.op with
   | .call c=>(match c.callee with
     | .builtin .len=>(match c.args.toList,c.argTypes.toList with
       | [x],[t]=>(match G.P.underlying t with
         | some (.slice _)=>some (pev σ x)
         | _=>none)
       | _,_=>none)
     | _=>none)
   | _=>none)
 | none=>none
theorem ZL {l:List α} {x:PV} (h:Ov G ops k σ=some x) (hx:x.elems σ.h=some (l.map c)):eX G ops k σ=some (.val (.lit (.int .i64 l.length))):=by
 unfold Ov at h
 split at h
 case h_2=>cases h
 rename_i o ho
 split at h
 case h_2=>cases h
 rename_i cl hop
 split at h
 case h_2=>cases h
 rename_i hcal
 split at h
 case h_2=>cases h
 rename_i a t hargs hty
 split at h
 case h_2=>cases h
 rename_i e he
 injection h with h
 subst h
 refine Dq ho (by rw [hop];simp only [oD,hcal]) ?_
 rw [hop]
 simp only [kQ,Tb,hcal,hargs,hty,he]
 have:Us σ.h (pev σ a)=some (l.length:Int):=by
  generalize pev σ a=v at hx
  cases v with
  | nl => simp only [PV.elems, Option.some.injEq] at hx;simp only [Us];have:l = [] := by simpa using hx.symm
          subst this;rfl
  | sl es=>simp only [PV.elems,n9] at hx;simp only [Us,hx,p9]
  | row kk e=>simp only [Us,hx,s8,p9]
  | part kk e lo n =>
    simp only [PV.elems] at hx
    split at hx
    ·split at hx
     ·rename_i es _ hfit
      injection hx with hx
      have:=congrArg Q2 hx
      simp only [x7,List.length_drop,p9] at this
      simp only [Us]
      congr 1
      omega
     ·cases hx
    ·cases hx
  | _=>simp [PV.elems] at hx
 rw [this];rfl
def OD (G:Prg) (ops:Array Oper) (k:Nat) (σ:St):Option (PV×Nat×Option PV×Option PV):=match Bs ops k σ with
 | some o=>(match o.op with
   | .slice t x lo hi none=>(match kL G.P t with
     | some e=>if (G.P.info? e).isSome=true then some (pev σ x,aJ G.P e,lo.map (pev σ),hi.map (pev σ)) else none
     | none=>none)
   | _=>none)
 | none=>none
def loN:Option PV→Option Nat
 | none=>some 0
 | some v=>Li v
def hiN (n:Nat):Option PV→Option Nat
 | none=>some n
 | some v=>Li v
def hiO:Option PV→Option (Option Nat)
 | none=>some none
 | some v=>(Li v).map some
theorem Oc {b:PV} {sz:Nat} {lo hi:Option PV} (h:OD G ops k σ=some (b,sz,lo,hi)) {l0:Nat} {h0:Option Nat} (hlo:loN lo=some l0) (hhi:hiO hi=some h0) {r:PV} (hp:Gv (aJ G.P) sz σ.h b l0 h0=some r):eX G ops k σ=some (.val r):=by
 unfold OD at h
 split at h
 case h_2=>cases h
 rename_i o ho
 split at h
 case h_2=>cases h
 rename_i t x lo' hi' hop
 split at h
 case h_2=>cases h
 rename_i e he
 split at h
 case isFalse=>cases h
 rename_i hinf
 simp only [n9,t8] at h
 obtain ⟨rfl,rfl,rfl,rfl⟩:=h
 refine Dq ho (by rw [hop];rfl) ?_
 rw [hop]
 have q1:Uc σ lo'=some l0:=by cases lo' <;> simpa [Uc,loN] using hlo
 have q2:Ub σ hi'=some h0:=by cases hi' <;> simpa [Ub,hiO] using hhi
 simp only [kQ,he,hinf,if_true,q1,q2,hp,s8]
theorem ZN {l l':List α} {sz:Nat} {k1:IntKind} {lo:Int} (h:OD G ops k σ=some (.sl (l.map c),sz,some (.lit (.int k1 lo)),none)) (hs:∀ y,(c y).length=sz) (hl:slc l lo l.length=some l'):eX G ops k σ=some (.val (.sl (l'.map c))):=by
 obtain ⟨⟨h1,h2,h3⟩,rfl⟩:=ZJ hl
 refine Oc h (l0:=lo.toNat) (by simp only [loN,Bt h1]) (h0:=none) rfl ?_
 simp only [Gv,P0,p9]
 rw [if_pos ⟨by omega,v7 _,by rw [Qd hs];simp⟩]
 simp only [y9,List.take_length,List.map_drop]
 rw [List.take_of_length_le (by simp)]
theorem Yg {l l':List α} {sz:Nat} {k2:IntKind} {hi:Int} (h:OD G ops k σ=some (.sl (l.map c),sz,none,some (.lit (.int k2 hi)))) (hl:slc l 0 hi=some l'):eX G ops k σ=some (.val (.sl (l'.map c))):=by
 obtain ⟨⟨h1,h2,h3⟩,rfl⟩:=ZJ hl
 refine Oc h (l0:=0) rfl (h0:=some hi.toNat) (by simp only [hiO,Bt h2,s8]) ?_
 simp only [Gv,H2,p9]
 rw [if_pos ⟨by omega,by omega,by simp⟩]
 simp [List.map_take]
theorem ZO {l:List α} {kk:Key} {e sz:Nat} {lo hi:Option PV} {l0 h0:Nat} (h:OD G ops k σ=some (.row kk e,sz,lo,hi)) (hr:σ.h.rowAt kk=some (l.map c)) (hs:∀ y,(c y).length=sz) (hlo:loN lo=some l0) (hhi:hiN l.length hi=some h0) (hle:l0≤h0∧h0≤l.length):eX G ops k σ=some (.val (.part kk e l0 (h0-l0))):=by
 cases hi with
 | none =>
   simp only [hiN,n9] at hhi
   subst hhi
   refine Oc h hlo (h0:=none) rfl ?_
   simp only [Gv,hr,P0,p9]
   rw [if_pos ⟨hle.1,v7 _,Qd hs⟩]
 | some v =>
   refine Oc h hlo (h0:=some h0) (by simp only [hiN] at hhi;simp only [hiO,hhi,s8]) ?_
   simp only [Gv,hr,H2,p9]
   rw [if_pos ⟨hle.1,hle.2,Qd hs⟩]
def A4 (G:Prg) (ops:Array Oper) (k:Nat) (σ:St):Option (Nat×List PV×PV×PV×Nat):=match Bs ops k σ with
 | some o=>(match o.op with
   | .makeSlice t l h=>(match kL G.P t with
     | some e=>(match Hg G.P e with
       | some z=>if Hf G.P e=true∧(z.cells.toList.all Value.oneCell')=true then some (e,z.cells.toList.map ofE,pev σ l,pev σ h,o.dst.getD 0) else none
       | none=>none)
     | none=>none)
   | _=>none)
 | none=>none
theorem Pe {z:α} {l':List α} {e d:Nat} {zs:List PV} {k1 k2:IntKind} {n:Int} (h:A4 G ops k σ=some (e,zs,.lit (.int k1 n),.lit (.int k2 n),d)) (hz:zs=c z) (hl:mk n z=some l'):eX G ops k σ=some (.new d (.row e [] (l'.map c)) (.row (.top d) e)):=by
 unfold mk at hl
 split at hl
 case isFalse=>cases hl
 rename_i hn
 injection hl with hl
 subst hl
 subst hz
 unfold A4 at h
 split at h
 case h_2=>cases h
 rename_i o ho
 split at h
 case h_2=>cases h
 rename_i t x hi' hop
 split at h
 case h_2=>cases h
 rename_i e' he
 split at h
 case h_2=>cases h
 rename_i z' hz
 split at h
 case isFalse=>cases h
 rename_i hrow
 simp only [n9,t8] at h
 obtain ⟨rfl,h1,h2,h3,rfl⟩:=h
 refine Dq ho (by rw [hop];rfl) ?_
 rw [hop]
 have hL:n.toNat≤LIM:=by have:=hn.2;omega
 simp only [kQ,he,h2,h3,Bt hn.1,hz]
 rw [if_pos ⟨hrow.1,v7 _,hL,hrow.2⟩,h1,List.map_replicate]
def DK (G:Prg) (ops:Array Oper) (k:Nat) (σ:St):Option (BinOp×PV×PV):=match Bs ops k σ with
 | some o=>(match o.op with
   | .binOp op _ x y _=>some (op,pev σ x,pev σ y)
   | _=>none)
 | none=>none
theorem GM {op:BinOp} {kd k2:IntKind} {u v:Int} {q:PV} (h:DK G ops k σ=some (op,.lit (.int kd u),.lit (.int k2 v))) (hq:SD op (.lit (.int kd u)) (.lit (.int k2 v))=some q):eX G ops k σ=some (.val q):=by
 unfold DK at h
 split at h
 case h_2=>cases h
 rename_i o ho
 split at h
 case h_2=>cases h
 rename_i op' t x y t' hop
 simp only [n9,t8] at h
 obtain ⟨rfl,h1,h2⟩:=h
 refine Dq ho (by rw [hop];rfl) ?_
 rw [hop]
 simp only [kQ,h1,h2,FE,hq,s8]
theorem ZM {kd k2:IntKind} {a b:Int} (h:DK G ops k σ=some (.shl,.lit (.int kd a),.lit (.int k2 b))) (hb:0≤b):eX G ops k σ=some (.val (.lit (.int kd (kd.wrap (a*2^(min b.toNat kd.bits)))))):=GM h (by simp [SD,hb])
end
end Go.VI
namespace Go.VI
open Go.RowKit
def eK (T:List Nat) (v:PV):Bool:=T.all fun g=>!v.has (dU g)
def HAg (T:List Nat) (h h':HP):Prop:=∀ g,g ∉ T→h.get g=h'.get g
theorem jG {T:List Nat} {k:Key} (h:(T.all fun g=>!(dU g k))=true):k.tag ∉ T:=fun hm=>by
 have:=p7.1 h _ hm
 simp [dU] at this
theorem Kr {T:List Nat} {v:PV} (h:v.free=true):eK T v=true:=p7.2 fun g _=>by rw [Wy _ _ h];rfl
section
variable {T:List Nat} {h h':HP} (e:HAg T h h')
include e
theorem Gw {k:Key} (hk:k.tag ∉ T):h.rowAt k=h'.rowAt k:=by
 cases k with
 | top g=>simp only [HP.rowAt,e g hk]
 | sub g i j=>simp only [HP.rowAt,e g hk]
theorem Vk {k:Key} (hk:k.tag ∉ T):h.Ft k=h'.Ft k:=by
 cases k with
 | top g=>simp only [HP.Ft,e g hk]
 | sub g i j=>rfl
theorem NN {k:Key} (hk:k.tag ∉ T) (es:List (List PV)):h.Ep es k=h'.Ep es k:=by
 cases k with
 | top g=>simp only [HP.Ep,e g hk]
 | sub g i j=>simp only [HP.Ep,e g hk]
theorem VA {k:Key} (hk:k.tag ∉ T) (i:Nat):h.elem k i=h'.elem k i:=by
 simp only [HP.elem,Gw e hk,Vk e hk]
theorem Ws {v:PV} (hv:eK T v=true):v.elems h=v.elems h':=by
 cases v with
 | row k t=>simp only [PV.elems];exact Gw e (jG hv)
 | part k t lo n=>simp only [PV.elems,Gw e (jG (k:=k) hv)]
 | _=>rfl
theorem KA {v:PV} (hv:eK T v=true):v.flat h=v.flat h':=by
 cases v with
 | row k t=>simp only [PV.flat,Vk e (jG (k:=k) hv)]
 | part k t lo n=>simp only [PV.flat,Vk e (jG (k:=k) hv)]
 | _=>rfl
theorem SN {agg:Bool} {sz:Nat} {v:PV} (hv:eK T v=true):Gu agg sz h v=Gu agg sz h' v:=by
 cases v with
 | ptr g off=>simp only [Gu,e g (jG (k:=.top g) hv)]
 | rptr k t i off=>simp only [Gu,VA e (jG (k:=k) hv)]
 | _=>rfl
theorem NL {agg:Bool} {sz:Nat} {v x:PV} (hv:eK T v=true):Lj agg sz h v x=Lj agg sz h' v x:=by
 cases v with
 | ptr g off=>simp only [Lj,e g (jG (k:=.top g) hv)]
 | rptr k t i off=>simp only [Lj,Gw e (jG (k:=k) hv),Vk e (jG (k:=k) hv),NN e (jG (k:=k) hv)]
 | _=>rfl
theorem Zk {sz:Nat} {v:PV} (hv:eK T v=true) (i:Nat):nO sz h v i=nO sz h' v i:=by
 cases v with
 | row k t=>simp only [nO,Gw e (jG (k:=k) hv)]
 | part k t lo n=>simp only [nO,Gw e (jG (k:=k) hv)]
 | _=>rfl
theorem NK {esz:Nat→Nat} {sz:Nat} {v:PV} (hv:eK T v=true) (lo:Nat) (hi:Option Nat):Gv esz sz h v lo hi=Gv esz sz h' v lo hi:=by
 cases v with
 | row k t=>simp only [Gv,Gw e (jG (k:=k) hv)]
 | _=>rfl
theorem HT {t sz d:Nat} {s x:PV} (hs:eK T s=true) (hx:eK T x=true):Fq t sz d h s x=Fq t sz d h' s x:=by
 simp only [Fq,Ws e hx,KA e hx]
 cases s with
 | row k u =>
   cases k with
   | top g=>simp only [e g (jG (k:=.top g) hs)]
   | sub=>rfl
 | _=>rfl
theorem GV {v:PV} (hv:eK T v=true):v.entries h=v.entries h':=by
 cases v with
 | mp g=>simp only [PV.entries,e g (jG (k:=.top g) hv)]
 | _=>rfl
theorem WH {v:PV} (hv:eK T v=true):Us h v=Us h' v:=by
 cases v with
 | row k t=>simp only [Us,Ws e hv]
 | _=>rfl
end
theorem Rg {σ τ:St} {l:List Operand} (h:∀ x ∈ l,pev σ x=pev τ x):l.map (pev σ)=l.map (pev τ):=G1 h
theorem Xv (P:Program) (eqn:TypeId→Nat) {σ τ:St} {T:List Nat} (e:HAg T σ.h τ.h) (d:Nat) (ty:TypeId) (op:Op) (h:∀ x ∈ op.operands.toList,pev σ x=pev τ x) (ha:∀ x ∈ op.operands.toList,eK T (pev τ x)=true):kQ P eqn σ d ty op=kQ P eqn τ d ty op:=by
 cases op with
 | move x=>simp only [kQ];rw [h x (by simp [Op.operands])]
 | nilCheck x=>simp only [kQ];rw [h x (by simp [Op.operands])]
 | assign x=>simp only [kQ];rw [h x (by simp [Op.operands])]
 | pick c a b=>simp only [kQ];rw [h c (by simp [Op.operands]),h a (by simp [Op.operands]),h b (by simp [Op.operands])]
 | box e x=>simp only [kQ];rw [h x (by simp [Op.operands])]
 | build t parts =>
   have e:(parts.toList.map fun p=>(p.1,pev σ p.2))=parts.toList.map fun p=>(p.1,pev τ p.2):=
    G1 fun p hp=>by rw [h p.2 (by simp only [Op.operands];simp;exact ⟨p.1,by simpa using hp⟩)]
   simp only [kQ,e]
 | buildSlice t n parts =>
   have e0:∀ p ∈ parts.toList,pev σ p.2=pev τ p.2:=fun p hp=>h p.2 (by simp only [Op.operands];simp;exact ⟨p.1,by simpa using hp⟩)
   have e1:(parts.toList.map fun p=>(pev σ p.2).cells)=parts.toList.map fun p=>(pev τ p.2).cells:=G1 fun p hp=>by rw [e0 p hp]
   have e2:∀ e,(parts.toList.all fun p=>(pev σ p.2).cells.length==aJ P e&&(pev σ p.2).cells.all PV.still)=(parts.toList.all fun p=>(pev τ p.2).cells.length==aJ P e&&(pev τ p.2).cells.all PV.still):=by
    intro e
    rw [Bool.eq_iff_iff,p7,p7]
    exact ⟨fun q p hp=>by rw [← e0 p hp];exact q p hp,fun q p hp=>by rw [e0 p hp];exact q p hp⟩
   simp only [kQ,e1,e2]
 | load t x=>simp only [kQ];rw [h x (by simp [Op.operands])];simp only [SN e (ha x (by simp [Op.operands]))]
 | store t a x=>simp only [kQ];rw [h a (by simp [Op.operands]),h x (by simp [Op.operands])];simp only [NL e (ha a (by simp [Op.operands]))]
 | binOp op t x y t'=>simp only [kQ];rw [h x (by simp [Op.operands]),h y (by simp [Op.operands])]
 | unOp op t x=>simp only [kQ];rw [h x (by simp [Op.operands])]
 | convert s t x=>simp only [kQ];rw [h x (by simp [Op.operands])]
 | makeFunc f first caps =>
   have e:caps.toList.map (pev σ)=caps.toList.map (pev τ):=Rg fun x hx=>h x (by simp only [Op.operands];simp;exact .inr (by simpa using hx))
   cases f <;> simp only [kQ,e]
 | makeSlice t l m=>simp only [kQ];rw [h l (by simp [Op.operands]),h m (by simp [Op.operands])]
 | slice t x lo hi mx =>
   cases mx with
   | some m=>simp [kQ]
   | none =>
     have e1:Uc σ lo=Uc τ lo:=by
      cases lo with
      | none=>rfl
      | some y=>simp only [Uc];rw [h y (by simp [Op.operands])]
     have e2:Ub σ hi=Ub τ hi:=by
      cases hi with
      | none=>rfl
      | some y=>simp only [Ub];rw [h y (by simp [Op.operands])]
     simp only [kQ,e1,e2]
     rw [h x (by simp [Op.operands])]
     simp only [NK e (ha x (by simp [Op.operands]))]
 | fieldAddr s x f=>simp only [kQ];rw [h x (by simp [Op.operands])]
 | field s x f=>simp only [kQ];rw [h x (by simp [Op.operands])]
 | indexAddr t x i=>simp only [kQ];rw [h x (by simp [Op.operands]),h i (by simp [Op.operands])];simp only [Zk e (ha x (by simp [Op.operands]))]
 | index t x i=>simp only [kQ];rw [h x (by simp [Op.operands]),h i (by simp [Op.operands])]
 | extract x i=>simp only [kQ];rw [h x (by simp [Op.operands])]
 | makeMap t r=>cases r <;> simp only [kQ]
 | lookup t x k ok=>simp only [kQ];rw [h x (by simp [Op.operands]),h k (by simp [Op.operands])];simp only [GV e (ha x (by simp [Op.operands]))]
 | mapUpdate t x k v =>
   simp only [kQ];rw [h x (by simp [Op.operands]),h k (by simp [Op.operands]),h v (by simp [Op.operands])]
   have hx:=ha x (by simp [Op.operands])
   generalize pev τ x=X at hx
   cases X with
   | mp g =>
     cases (pev τ k).int64 with
     | none=>rfl
     | some a=>cases (pev τ v).int64 with
       | none=>rfl
       | some b=>simp only [e g (jG (k:=.top g) hx)]
   | _=>rfl
 | insert t x k v =>
   simp only [kQ];rw [h x (by simp [Op.operands]),h k (by simp [Op.operands]),h v (by simp [Op.operands])]
   have hx:=ha x (by simp [Op.operands])
   generalize pev τ x=X at hx
   cases X with
   | mp g =>
     cases (pev τ k).int64 with
     | none=>rfl
     | some a=>cases (pev τ v).int64 with
       | none=>rfl
       | some b=>simp only [e g (jG (k:=.top g) hx)]
   | _=>rfl
 | call c =>
   obtain ⟨cal,args,at_⟩:=c
   have ee:∀ x ∈ args.toList,pev σ x=pev τ x:=fun x hx=>h x (by simp only [Op.operands,Call.operands];simp;exact .inr (by simpa using hx))
   have aa:∀ x ∈ args.toList,eK T (pev τ x)=true:=fun x hx=>ha x (by simp only [Op.operands,Call.operands];simp;exact .inr (by simpa using hx))
   simp only [kQ,Tb]
   cases cal with
   | builtin b =>
     have em:args.toList.map (pev σ)=args.toList.map (pev τ):=Rg ee
     cases b <;> simp only [em]
     all_goals
      split
      ·rename_i hx _
       rw [hx] at ee aa
       simp only [H4,List.not_mem_nil,or_false,forall_eq_or_imp,forall_eq] at ee aa
       first
       | simp only [ee,WH e aa]
       | simp only [ee,HT e aa.1 aa.2]
      ·rfl
   | _=>rfl
 | _=>simp [kQ]
theorem Zj {σ τ:St} {op:Op} (h:∀ x ∈ op.operands.toList,pev σ x=pev τ x):oD σ op=oD τ op:=by
 cases op with
 | call c =>
   obtain ⟨cal,args,at_⟩:=c
   simp only [oD]
   cases cal with
   | value f =>
     have e1:pev σ f=pev τ f:=h f (by simp [Op.operands,Call.operands])
     have e:args.toList.map (pev σ)=args.toList.map (pev τ):=Rg fun x hx=>h x (by simp only [Op.operands,Call.operands];simp;exact .inr (by simpa using hx))
     simp only [e1,e]
   | _=>rfl
 | _=>rfl
end Go.VI
namespace Go.VI
open Go.RowKit
def Cr (ops:Array Oper) (o:Oper):List Nat:=
 (o.op.operands.toList.filterMap fun x=>match x with | .tmp t=>some t | _=>none)++(match o.guard with | some (j,_)=>((ops[j]?).bind (·.dst)).toList | none=>[])
def shallow:Op→Bool
 | .move _=>true
 | .nilCheck _=>true
 | .assign _=>true
 | .pick _ _ _=>true
 | .field _ _ _=>true
 | .extract _ _=>true
 | .fieldAddr _ _ _=>true
 | .build _ _=>true
 | .makeFunc _ _ _=>true
 | _=>false
def Oy (ops:Array Oper) (o:Oper):List Nat:=if shallow o.op=true then [] else Cr ops o
theorem Sz {ops:Array Oper} {o:Oper}:∀ t ∈ Oy ops o,t ∈ Cr ops o:=fun t h=>by
 unfold Oy at h
 split at h
 ·cases h
 ·exact h
theorem RW {ops:Array Oper} {o:Oper} (h:shallow o.op=false):Oy ops o=Cr ops o:=by unfold Oy;rw [h];rfl
def direct (o:Oper):List Nat:=o.after.toList.filterMap fun e=>if Region.binds .any e then some e.on else none
def Vi:List Oper→List Nat→List Nat
 | [],acc=>acc
 | o::rest,acc=>Vi rest (acc++[(direct o).foldl (fun s k=>s ||| 2^k ||| acc.getD k 0) 0])
def forced (ms:List Nat) (i j:Nat):Bool:=(ms.getD j 0).testBit i
inductive Reach (ops:Array Oper):Nat→Nat→Prop
 | one {i j:Nat} {o:Oper} (h:ops.toList[j]?=some o) (hi:i ∈ direct o):Reach ops i j
 | more {i k j:Nat} {o:Oper} (h:ops.toList[j]?=some o) (hk:k ∈ direct o) (r:Reach ops i k):Reach ops i j
theorem EK (acc:List Nat) (i:Nat):∀ (l:List Nat) (s:Nat),(l.foldl (fun s k=>s ||| 2^k ||| acc.getD k 0) s).testBit i=true→s.testBit i=true∨∃ k ∈ l,i=k∨(acc.getD k 0).testBit i=true
 | [],s,h=>.inl h
 | k::l,s,h=>by
   simp only [y8] at h
   rcases EK acc i l _ h with h | ⟨k',hk,h⟩
   ·simp only [Nat.testBit_or,Nat.testBit_two_pow,F6,decide_eq_true_eq] at h
    rcases h with (h | h) | h
    ·exact .inl h
    ·exact .inr ⟨k,by simp,.inl h.symm⟩
    ·exact .inr ⟨k,by simp,.inr h⟩
   ·exact .inr ⟨k',by simp [hk],h⟩
theorem Xl (ops:Array Oper):∀ (l:List Oper) (acc:List Nat),ops.toList.drop acc.length=l→(∀ j i,(acc.getD j 0).testBit i=true→Reach ops i j)→∀ j i,((Vi l acc).getD j 0).testBit i=true→Reach ops i j
 | [],acc,_,h,j,i,hh=>h j i hh
 | o::rest,acc,hd,h,j,i,hh=>by
   have ho:ops.toList[acc.length]?=some o:=by
    have:=congrArg (fun l=>l[0]?) hd
    simpa [E8] using this
   refine Xl ops rest (acc++[_]) ?_ ?_ j i hh
   ·have:=congrArg List.tail hd
    simpa [List.tail_drop] using this
   ·intro j i hh
    rw [m8] at hh
    by_cases hj:j<acc.length
    ·rw [x6 hj,← m8] at hh
     exact h j i hh
    ·rw [x8 (by omega)] at hh
     by_cases he:j=acc.length
     ·subst he
      simp only [Nat.sub_self,I0,H2] at hh
      rcases EK acc i _ _ hh with hh | ⟨k,hk,hh⟩
      ·simp at hh
      ·rcases hh with rfl | hh
       ·exact .one ho hk
       ·exact .more ho hk (h k i hh)
     ·have:[(direct o).foldl (fun s k=>s ||| 2^k ||| acc.getD k 0) 0][j-acc.length]?=none:=by simp;omega
      rw [this] at hh
      simp at hh
def GF (ops:Array Oper) (L:Nat→Prop):Prop:=∀ j o,ops.toList[j]?=some o→L j→∀ k ∈ direct o,L k
theorem Fs {ops:Array Oper} {L:Nat→Prop} (hc:GF ops L) {i j:Nat} (r:Reach ops i j):∀ o,ops.toList[j]?=some o→(∀ k ∈ direct o,L k)→L i:=by
 induction r with
 | one h hi=>intro o ho hd;rw [h] at ho;injection ho with ho;subst ho;exact hd _ hi
 | @more k j o h hk r ih =>
   intro o' ho hd
   rw [h] at ho;injection ho with ho;subst ho
   have hkL:=hd k hk
   cases hko:ops.toList[k]? with
   | none =>
     exfalso
     cases r with
     | one h _=>rw [hko] at h;cases h
     | more h _ _=>rw [hko] at h;cases h
   | some o2=>exact ih o2 hko (hc k o2 hko hkL)
theorem Lk {ops:Array Oper} {listed:Array Bool} {i:Nat} (h:i ∈ Region.ready .any ops listed):listed.getD i true=false∧∃ o,ops.toList[i]?=some o∧∀ k ∈ direct o,listed.getD k false=true:=by
 obtain ⟨h1,o,h2,h3⟩:=mem_ready.1 h
 refine ⟨h1,o,by rw [w9];exact h2,fun k hk=>?_⟩
 unfold direct at hk
 rw [U3] at hk
 obtain ⟨e,he,hk⟩:=hk
 split at hk
 ·rename_i hb
  injection hk with hk
  subst hk
  exact h3 e (by simpa using he) hb
 ·cases hk
structure Fz where
 UU:List Nat
 sets:HP
 v:PV
def Fz.touch (A:Fz):List Nat:=A.UU++A.sets.map (·.1)
def HP.Eb (L:List Nat):HP→HP
 | []=>[]
 | (g,o)::h=>if L.any (fun x=>E4 x g)=true then HP.Eb L h else (g,o)::HP.Eb L h
def St.act (σ:St) (d:Option Nat) (A:Fz):St:=mU ⟨σ.s,A.sets++σ.h.Eb A.UU⟩ d A.v
theorem any_beq {L:List Nat} {g:Nat}:(L.any fun x=>E4 x g)=true↔g ∈ L:=by
 rw [E2]
 constructor
 ·rintro ⟨x,hx,hb⟩;have:=t7 hb;subst this;exact hx
 ·intro h;exact ⟨g,h,G9 g⟩
theorem DZ (L:List Nat) (h:HP) (g:Nat):(h.Eb L).get g=if g ∈ L then none else h.get g:=by
 induction h with
 | nil=>simp [HP.Eb,HP.get]
 | cons x h ih =>
   obtain ⟨g',o⟩:=x
   simp only [HP.Eb]
   by_cases e:g=g'
   ·subst e
    split
    ·rename_i hp;rw [ih];simp [any_beq.1 hp]
    ·rename_i hp;simp [HP.get,mt any_beq.2 hp]
   ·split
    ·rw [ih];simp [HP.get,sC e]
    ·simp only [HP.get,sC e,j9,if_false];rw [ih]
theorem get_none {h:HP} {g:Nat} (hg:g ∉ h.map (·.1)):h.get g=none:=by
 induction h with
 | nil=>rfl
 | cons x h ih =>
   obtain ⟨g',o⟩:=x
   simp only [E1,H4,not_or] at hg
   simp only [HP.get,sC hg.1,j9,if_false];exact ih hg.2
theorem get_some {h:HP} {g:Nat} (hg:g ∈ h.map (·.1)):∃ o,h.get g=some o:=by
 induction h with
 | nil=>cases hg
 | cons x h ih =>
   obtain ⟨g',o⟩:=x
   by_cases e:g=g'
   ·subst e;exact ⟨o,by simp [HP.get]⟩
   ·simp only [E1,H4,e,false_or] at hg
    simp only [HP.get,sC e,j9,if_false];exact ih hg
theorem uM (σ:St) (d:Option Nat) (A:Fz) (g:Nat):(σ.act d A).hget g=if g ∈ A.touch then A.sets.get g else σ.hget g:=by
 have:(σ.act d A).hget g=HP.get (A.sets++σ.h.Eb A.UU) g:=by cases d <;> rfl
 rw [this,Hs,DZ]
 unfold Fz.touch
 by_cases h1:g ∈ A.sets.map (·.1)
 ·obtain ⟨o,ho⟩:=get_some h1
  rw [if_pos (q9.2 (.inr h1)),ho]
 ·rw [get_none h1]
  by_cases h2:g ∈ A.UU
  ·rw [if_pos h2,if_pos (q9.2 (.inl h2))]
  ·rw [if_neg h2,if_neg (fun h=>(q9.1 h).elim h2 h1)];rfl
theorem yT (σ:St) (d:Option Nat) (A:Fz) (k:Nat):(σ.act d A).get k=if d=some k then A.v else σ.get k:=by
 cases d with
 | none=>simp [St.act,mU];rfl
 | some d =>
   simp only [St.act,mU,Fk,n9]
   rfl
def HO.Cd (F:List Nat):HO→Bool
 | .box cs=>cs.all (eK F)
 | _=>true
def Clean (F:List Nat) (σ:St):Prop:=(∀ k,eK F (σ.get k)=true)∧∀ g o,σ.hget g=some o→g ∉ F∧o.Cd F=true
def Sound (P:Program) (o:Oper) (F:List Nat) (σ:St) (A:Fz):Prop:=
 ∀ (E:Ent) (S0:Nat→Prop) (N:Nat) (a:Act) (w:World) (c:Ctx),Inv P E S0 N σ a w c→Clean F σ→(∀ k,o.dst=some k→k<N) →
   ∀ (next:Act→World→Prop) (Q:Exit→Act→World→Prop),(∀ a' w' c',Inv P E S0 N (σ.act o.dst A) a' w' c'→next a' w')→o.wp P a w next Q
structure Local (ops:Array Oper) (o:Oper) (rd T:List Nat) (σ τ:St):Prop where
 slots:∀ t ∈ Cr ops o,τ.get t=σ.get t
 heap:HAg T σ.h τ.h
 Cd:∀ t ∈ Oy ops o,eK T (σ.get t)=true
 apart:∀ g ∈ rd,g ∉ T
def DStep (P:Program) (ops:Array Oper) (o:Oper) (rd F:List Nat) (σ:St) (A:Fz):Prop:=
 ∀ T τ,Local ops o rd T σ τ→(lY ops τ o=some false∧A=⟨[],[],.lit undef⟩)∨(lY ops τ o=some true∧Sound P o F τ A)
theorem DStep.loc {P:Program} {ops:Array Oper} {o:Oper} {rd F T:List Nat} {σ τ:St} {A:Fz} (h:DStep P ops o rd F σ A) (l:Local ops o rd T σ τ):DStep P ops o rd F τ A:=fun T' τ' l' =>
 h (T++T') τ' ⟨fun t ht=>(l'.slots t ht).trans (l.slots t ht),fun g hg=>(l.heap g fun q=>hg (q9.2 (.inl q))).trans (l'.heap g fun q=>hg (q9.2 (.inr q))),fun t ht=>by
   have h1:=l.Cd t ht
   have h2:=l'.Cd t ht
   rw [l.slots t (Sz t ht)] at h2
   unfold eK at *
   rw [List.all_append,h1,h2];rfl,fun g hg q=>(q9.1 q).elim (l.apart g hg) (l'.apart g hg)⟩
structure DD where
 T:Nat→List Nat
 F:Nat→List Nat
 rd:Nat→List Nat
 av:Nat→List Nat
 fv:Nat→List Nat
inductive Ui (P:Program) (ops:Array Oper) (D:DD):List Nat→St→St→Prop
 | nil (σ:St):Ui P ops D [] σ σ
 | cons {i:Nat} {o:Oper} {l:List Nat} {σ σ':St} {A:Fz} (ho:ops.toList[i]?=some o) (hs:DStep P ops o (D.rd i) (D.F i) σ A) (hav:∀ t ∈ Oy ops o,eK (D.av i) (σ.get t)=true) (ht:∀ g ∈ A.touch,g ∈ D.T i)
  (hfv:eK (D.fv i) A.v=true∧∀ x ∈ A.sets,x.1 ∉ D.fv i∧x.2.Cd (D.fv i)=true) (r:Ui P ops D l (σ.act o.dst A) σ'):Ui P ops D (i::l) σ σ'
def Alike (σ τ:St):Prop:=(∀ k,σ.get k=τ.get k)∧∀ g,σ.hget g=τ.hget g
theorem Alike.symm {σ τ:St} (h:Alike σ τ):Alike τ σ:=⟨fun k=>(h.1 k).symm,fun g=>(h.2 g).symm⟩
theorem Alike.trans {σ τ υ:St} (h:Alike σ τ) (h':Alike τ υ):Alike σ υ:=⟨fun k=>(h.1 k).trans (h'.1 k),fun g=>(h.2 g).trans (h'.2 g)⟩
theorem Alike.ZG (σ:St):Alike σ σ:=⟨fun _=>rfl,fun _=>rfl⟩
theorem Alike.act {σ τ:St} (h:Alike σ τ) (d:Option Nat) (A:Fz):Alike (σ.act d A) (τ.act d A):=
 ⟨fun k=>by rw [yT,yT,h.1 k],fun g=>by rw [uM,uM,h.2 g]⟩
theorem Alike.loc {ops:Array Oper} {o:Oper} {rd:List Nat} {σ τ:St} (h:Alike σ τ):Local ops o rd [] σ τ:=⟨fun t _=>(h.1 t).symm,fun g _=>h.2 g,fun _ _=>rfl,fun _ _ q=>nomatch q⟩
def indep (ops:Array Oper) (o o':Oper):Bool:=
 (match o.dst with | some d=>!(Cr ops o').contains d&&!(decide (o'.dst=some d)) | none=>true)&&(match o'.dst with | some d=>!(Cr ops o).contains d | none=>true)
theorem HE {ops:Array Oper} {o o':Oper} (h:indep ops o o'=true):(∀ d,o.dst=some d→d ∉ Cr ops o'∧o'.dst≠some d)∧∀ d,o'.dst=some d→d ∉ Cr ops o:=by
 unfold indep at h
 simp only [o8] at h
 obtain ⟨h1,h2⟩:=h
 constructor
 ·intro d hd
  rw [hd] at h1
  simpa using h1
 ·intro d hd
  rw [hd] at h2
  simpa using h2
def OM (ops:Array Oper) (D:DD) (i j:Nat) (oi oj:Oper):Prop:=
 indep ops oi oj=true∧(∀ g ∈ D.T i,g ∈ D.av j)∧(∀ g ∈ D.T j,g ∈ D.av i)∧(∀ g ∈ D.T i,g ∉ D.T j)∧(∀ g ∈ D.rd i,g ∉ D.T j)∧∀ g ∈ D.rd j,g ∉ D.T i
section
variable {P:Program} {ops:Array Oper} {D:DD}
theorem Ng {L M:List Nat} {v:PV} (h:eK M v=true) (hs:∀ g ∈ L,g ∈ M):eK L v=true:=p7.2 fun g hg=>p7.1 h g (hs g hg)
theorem UH {rd:List Nat} {σ:St} {o o':Oper} {A:Fz} (hrd:∀ g ∈ rd,g ∉ A.touch) (hd:∀ d,o.dst=some d→d ∉ Cr ops o') (ha:∀ t ∈ Oy ops o',eK A.touch (σ.get t)=true):Local ops o' rd A.touch σ (σ.act o.dst A):=by
 refine ⟨fun t ht=>?_,fun g hg=>?_,ha,hrd⟩
 ·rw [yT,if_neg];intro e;exact hd t e ht
 ·have:(σ.act o.dst A).hget g=σ.hget g:=by rw [uM,if_neg hg]
  exact this.symm
theorem Ui.alike {l:List Nat} {σ σ':St} (r:Ui P ops D l σ σ'):∀ {τ:St},Alike σ τ→∃ τ',Ui P ops D l τ τ'∧Alike σ' τ':=by
 induction r with
 | nil σ=>intro τ h;exact ⟨τ,.nil τ,h⟩
 | cons ho hs hav ht hfv r ih =>
   intro τ h
   obtain ⟨τ',q1,q2⟩:=ih (h.act _ _)
   exact ⟨τ',.cons ho (hs.loc h.loc) (fun t q=>by rw [← h.1 t];exact hav t q) ht hfv q1,q2⟩
theorem Ui.front {i:Nat} {oi:Oper} (hi:ops.toList[i]?=some oi):∀ {l1 l2:List Nat} {σ σ':St},Ui P ops D (l1++i::l2) σ σ'→(∀ j ∈ l1,∀ oj,ops.toList[j]?=some oj→OM ops D j i oj oi)→∃ σ'',Ui P ops D (i::(l1++l2)) σ σ''∧Alike σ' σ''
 | [],l2,σ,σ',r,_=>⟨σ',r,Alike.ZG _⟩
 | j::l1,l2,σ,σ',r,hap=>by
   cases r with
   | cons ho hs hav ht hfv r =>
     rename_i oj Aj
     obtain ⟨σ2,r2,e2⟩:=Ui.front hi r fun k hk=>hap k (by simp [hk])
     cases r2 with
     | cons ho2 hs2 hav2 ht2 hfv2 r2 =>
       rename_i o2 Ai
       rw [hi] at ho2
       injection ho2 with ho2
       subst ho2
       obtain ⟨hin,hT1,hT2,hT3,hr1,hr2⟩:=hap j (by simp) oj ho
       obtain ⟨hin1,hin2⟩:=HE hin
       -- i at the start
       have rd:∀ t ∈ Cr ops oi,(σ.act oj.dst Aj).get t=σ.get t:=fun t q=>by rw [yT,if_neg];intro e;exact (hin1 t e).1 q
       have l1':Local ops oi (D.rd i) Aj.touch (σ.act oj.dst Aj) σ:=by
        refine ⟨fun t q=>(rd t q).symm,fun g hg=>?_,fun t q=>Ng (hav2 t q) fun g hg=>hT1 g (ht g hg),fun g hg q=>hr2 g hg (ht g q)⟩
        have:(σ.act oj.dst Aj).hget g=σ.hget g:=by rw [uM,if_neg hg]
        exact this
       have s1:=hs2.loc l1'
       -- j behind it
       have l2':Local ops oj (D.rd j) Ai.touch σ (σ.act oi.dst Ai):=UH (fun g hg q=>hr1 g hg (ht2 g q)) hin2 fun t q=>Ng (hav t q) fun g hg=>hT2 g (ht2 g hg)
       have s2:=hs.loc l2'
       have al:Alike ((σ.act oj.dst Aj).act oi.dst Ai) ((σ.act oi.dst Ai).act oj.dst Aj):=by
        refine ⟨fun k=>?_,fun g=>?_⟩
        ·simp only [yT]
         by_cases e1:oi.dst=some k <;> by_cases e2:oj.dst=some k <;> simp [e1,e2]
         exact absurd e1 (hin1 k e2).2
        ·simp only [uM]
         by_cases e1:g ∈ Ai.touch <;> by_cases e2:g ∈ Aj.touch <;> simp [e1,e2]
         exact absurd (ht2 g e1) (hT3 g (ht g e2))
       obtain ⟨σ3,r3,e3⟩:=r2.alike al
       exact ⟨σ3,.cons hi s1 (fun t q=>by rw [← rd t (Sz t q)];exact hav2 t q) ht2 hfv2 (.cons ho s2 (fun t q=>by rw [l2'.slots t (Sz t q)];exact hav t q) ht hfv r3),e2.trans e3⟩
section
variable {E:Ent} {S0:Nat→Prop} {N:Nat} {σ:St} {a:Act} {w:World} {c:Ctx}
theorem Inv.alike {τ:St} (h:Inv P E S0 N σ a w c) (e:Alike σ τ):Inv P E S0 N τ a w c:=h.weak (fun i=>.inr (e.1 i).symm) fun g o hg=>by rw [e.2 g];exact hg
theorem PN {i:Nat} {o:Oper} (hi:ops.toList[i]?=some o) {A:Fz} (hs:DStep P ops o (D.rd i) (D.F i) σ A) (h:Inv P E S0 N σ a w c) (hcl:Clean (D.F i) σ) (hd:∀ k,o.dst=some k→k<N)
  (next:Act→World→Prop) (Q:Exit→Act→World→Prop) (hn:∀ a' w' c',Inv P E S0 N (σ.act o.dst A) a' w' c'→next a' w'):wpOp P ops Q i next a w:=by
 have hiA:ops[i]?=some o:=by rw [← w9];exact hi
 unfold wpOp
 simp only [hiA]
 rcases hs [] σ (Alike.ZG σ).loc with ⟨hg,rfl⟩ | ⟨hg,hs⟩
 ·rw [if_neg (by rw [Cu h hg];simp)]
  refine hn _ _ _ ((h.put o.dst hd (.free _ _ (.lit _))).alike ⟨fun k=>?_,fun g=>?_⟩)
  ·rw [yT]
   cases o.dst with
   | none=>rfl
   | some d=>simp only [mU,Fk,n9]
  ·rw [uM]
   cases o.dst <;> simp [Fz.touch,mU,Xb]
 ·rw [if_pos (Cu h hg)]
  exact .inl (hs E S0 N a w c h hcl hd next Q hn)
theorem BP {o:Oper} {k:Nat}:k ∈ direct o↔∃ e ∈ o.after,Region.binds .any e=true∧e.on=k:=by
 unfold direct
 rw [U3]
 constructor
 ·rintro ⟨e,he,hk⟩
  split at hk
  ·rename_i hb;injection hk with hk;exact ⟨e,by simpa using he,hb,hk⟩
  ·cases hk
 ·rintro ⟨e,he,hb,rfl⟩
  exact ⟨e,by simpa using he,by rw [if_pos hb]⟩
theorem Qo {ops:Array Oper} {listed:Array Bool} {i:Nat} {o:Oper} (h1:listed.getD i true=false) (h2:ops.toList[i]?=some o) (h3:∀ k ∈ direct o,listed.getD k false=true):i ∈ Region.ready .any ops listed:=
 mem_ready.2 ⟨h1,o,by rw [← w9];exact h2,fun e he hb=>h3 _ (BP.2 ⟨e,he,hb,rfl⟩)⟩
theorem Jx {listed:Array Bool} {i n:Nat} (hs:listed.size=n) (hi:i<n):listed.getD i true=listed.getD i false:=by
 simp [o7,hs,hi]
theorem Pw {listed:Array Bool} {i k n:Nat} (hs:listed.size=n) (hi:i<n):(listed.setIfInBounds i true).getD k false=if k=i then true else listed.getD k false:=by
 simp only [o7,Array.getElem?_setIfInBounds]
 by_cases e:k=i
 ·subst e;simp [hs,hi]
 ·simp [e,Ne.symm e]
structure DOk (ops:Array Oper) (D:DD) (m:Nat):Prop where
 le:m≤ops.toList.length
 back:∀ j o,ops.toList[j]?=some o→∀ k ∈ direct o,k<j
 pair:∀ i j oi oj,ops.toList[i]?=some oi→ops.toList[j]?=some oj→i<j→j<m→Reach ops i j∨OM ops D i j oi oj
 fresh:∀ i j,i<m→j<m→j≠i→Reach ops i j∨∀ g ∈ D.F i,g ∈ D.fv j
 tail:∀ i j,i<j→m≤j→j<ops.toList.length→Reach ops i j
def lst (L:List (Nat×List Nat)) (i:Nat):List Nat:=match L with
 | []=>[]
 | (j,x)::L=>if E4 i j=true then x else lst L i
def inL (L M:List Nat):Bool:=L.all fun g=>M.any fun x=>E4 x g
theorem wW {L M:List Nat} (h:inL L M=true):∀ g ∈ L,g ∈ M:=fun g hg=>any_beq.1 (p7.1 h g hg)
def noL (L M:List Nat):Bool:=L.all fun g=>!(M.any fun x=>E4 x g)
theorem Xp {L M:List Nat} (h:noL L M=true):∀ g ∈ L,g ∉ M:=fun g hg q=>by
 have:=p7.1 h g hg
 rw [any_beq.2 q] at this;cases this
def Mj (ops:Array Oper) (T F rd av fv:List (Nat×List Nat)) (m:Nat):Bool:=
 let ms:=Vi ops.toList []
 let at_:=fun k=>ops.getD k default
 decide (m≤ops.size) &&
 ((s9 ops.size).all fun j=>(direct (at_ j)).all fun k=>decide (k<j)) &&
 ((s9 m).all fun j=>(s9 j).all fun i=>forced ms i j || (indep ops (at_ i) (at_ j)&&inL (lst T i) (lst av j)&&inL (lst T j) (lst av i)&&noL (lst T i) (lst T j)&&noL (lst rd i) (lst T j)&&noL (lst rd j) (lst T i))) &&
 ((s9 m).all fun i=>(s9 m).all fun j=>decide (j=i) || forced ms i j || inL (lst F i) (lst fv j)) &&
 ((s9 ops.size).all fun j=>decide (j<m) || (s9 j).all fun i=>forced ms i j)
theorem EB {T F rd av fv:List (Nat×List Nat)} {m:Nat} (h:Mj ops T F rd av fv m=true):DOk ops ⟨lst T,lst F,lst rd,lst av,lst fv⟩ m:=by
 unfold Mj at h
 simp only [o8,decide_eq_true_eq,p7,List.mem_range,F6,F2] at h
 obtain ⟨⟨⟨⟨h1,h2⟩,h4⟩,h5⟩,h6⟩:=h
 have hms:∀ j i,((Vi ops.toList []).getD j 0).testBit i=true→Reach ops i j:=Xl ops ops.toList [] (by simp) (by simp)
 have hat:∀ j o,ops.toList[j]?=some o→ops.getD j default=o∧j<ops.size:=fun j o ho=>by
  rw [w9] at ho
  have:=(Array.getElem?_eq_some_iff.1 ho).1
  exact ⟨by simp [o7,ho],this⟩
 refine ⟨by simpa using h1,fun j o ho k hk=>?_,fun i j oi oj hi hj hij hjm=>?_,fun i j him hjm hne=>?_,fun i j hij hmj hj=>?_⟩
 ·obtain ⟨e,hlt⟩:=hat j o ho
  exact h2 j hlt k (by rw [e];exact hk)
 ·obtain ⟨e1,_⟩:=hat i oi hi
  obtain ⟨e2,_⟩:=hat j oj hj
  have:=h4 j hjm i hij
  rw [e1,e2] at this
  exact this.imp (hms j i) fun ⟨⟨⟨⟨⟨q1,q2⟩,q3⟩,q4⟩,q5⟩,q6⟩=>⟨q1,wW q2,wW q3,Xp q4,Xp q5,Xp q6⟩
 ·rcases h5 i him j hjm with (q | q) | q
  ·exact absurd q hne
  ·exact .inl (hms j i q)
  ·exact .inr (wW q)
 ·rcases h6 j (by simpa using hj) with q | q
  ·omega
  ·exact hms j i (q i hij)
end
end
end Go.VI
namespace Go.VI
open Go.RowKit
def YD (ops:Array Oper) (m:Nat):Prop:=(∀ j o,ops.toList[j]?=some o→∀ k ∈ direct o,k<j)∧∀ i j,i<j→m≤j→j<ops.toList.length→Reach ops i j
def EVO (G:Prg) (ops:Array Oper) (k:Nat) (σ:St) (K:St→Prop):Prop:=
 ∀ (E:Ent) (S0:Nat→Prop) (N:Nat) (a:Act) (w:World) (c:Ctx),(∀ o ∈ ops.toList,∀ k,o.dst=some k→k<N)→Inv G.P E S0 N σ a w c→YD ops k →
   ∀ (Q:Exit→Act→World→Prop),(∀ σ' a' w' c',K σ'→Inv G.P E S0 N σ' a' w' c'→Q .normal a' w') →
     ∀ listed:Array Bool,listed.size=ops.toList.length→(∀ j,j<ops.toList.length→(listed.getD j false=true↔j<k))→wpAny G.P .any ops Q (ops.toList.length-k) listed a w
section
variable {G:Prg} {ops:Array Oper} {k:Nat} {σ:St} {K:St→Prop}
theorem VH (h:E6 ops.size k=true) (hk:K σ):EVO G ops k σ K:=by
 intro E S0 N a w c hd hi ht Q hn listed hs hL
 have hle:ops.toList.length≤k:=by have:=J3 h;simpa using this
 have hr:Region.ready .any ops listed=[]:=by
  cases hr:Region.ready .any ops listed with
  | nil=>rfl
  | cons x xs =>
    obtain ⟨q1,o,q2,_⟩:=Lk (i:=x) (by rw [hr];simp)
    have hx:=cV q2
    rw [Jx hs hx] at q1
    rw [(hL x hx).2 (by omega)] at q1
    cases q1
 rw [show ops.toList.length-k=0 from by omega]
 exact ⟨hr,hn _ _ _ _ hk hi⟩
theorem Va {o:Oper} (hj:Eg ops k=some o) {b:Bool} (hg:lY ops σ o=some b) (h1:b=true→XB G.P o σ (fun σ'=>EVO G ops (k+1) σ' K)) (h2:b=false→EVO G ops (k+1) (mU σ o.dst (.lit undef)) K):EVO G ops k σ K:=by
 intro E S0 N a w c hd h D Q hn listed hs hL
 have hjl:k<ops.toList.length:=cV hj
 have hready:k ∈ Region.ready .any ops listed:=Qo (by
  rw [Jx hs hjl]
  cases hq:listed.getD k false with
  | false=>rfl
  | true=>have:=(hL k hjl).1 hq;omega) hj fun k' hk=>(hL k' (by have:=D.1 k o hj k' hk;omega)).2 (D.1 k o hj k' hk)
 rw [show ops.toList.length-k=(ops.toList.length-(k+1))+1 from by omega]
 refine ⟨(fun hr=>by rw [hr] at hready;cases hready),fun i hi=>?_⟩
 obtain ⟨q1,oi,q2,q3⟩:=Lk hi
 have hil:=cV q2
 rw [Jx hs hil] at q1
 have hij:¬ i<k:=fun e=>by rw [(hL i hil).2 e] at q1;cases q1
 have hclosed:GF ops (fun k=>listed.getD k false=true):=fun k1 ok hk hl k' hk'=>by
  have hkl:=cV hk
  have:=(hL k1 hkl).1 hl
  have:=D.1 k1 ok hk k' hk'
  exact (hL k' (by omega)).2 (by omega)
 have hie:i=k:=by
  rcases G3 k i with q | q
  ·have:=Fs hclosed (D.2 k i q (by omega) hil) oi q2 q3
   have:=(hL k hjl).1 this
   omega
  ·omega
 subst hie
 have hj':ops.toList[i]?=some o:=hj
 rw [hj'] at q2
 injection q2 with q2
 subst q2
 have hnext:∀ {σ':St} {a':Act} {w':World} {c':Ctx},EVO G ops (i+1) σ' K→Inv G.P E S0 N σ' a' w' c'→wpAny G.P .any ops Q (ops.toList.length-(i+1)) (listed.setIfInBounds i true) a' w':=fun hk hi=>by
  refine hk E S0 N _ _ _ hd hi ⟨D.1,fun x y h1 h2 h3=>D.2 x y h1 (by omega) h3⟩ Q hn _ (by simpa using hs) fun k' hk'=>?_
  rw [Pw hs hjl]
  by_cases e:k'=i
  ·subst e;simp
  ·rw [if_neg e,hL k' hk'];omega
 have hiA:ops[i]?=some o:=by rw [← w9];exact hj'
 unfold wpOp
 simp only [hiA]
 cases b with
 | true =>
   rw [if_pos (Cu h hg)]
   exact .inl (h1 rfl E S0 N a w c h (hd o (m5 hj')) _ _ fun σ' a' w' c' hk hi=>hnext hk hi)
 | false =>
   rw [if_neg (by rw [Cu h hg];simp)]
   exact hnext (h2 rfl) (h.put o.dst (hd o (m5 hj')) (.free _ _ (.lit _)))
theorem VK {σ':St} (hs:Sub σ' σ) (h:EVO G ops k σ' K):EVO G ops k σ K:=fun E S0 N a w c hd hi=>h E S0 N a w c hd (Rw hs hi)
theorem Mk {r:Res} (h:eX G ops k σ=some r) (next:EVO G ops (k+1) (r.put σ (fX ops k)) K):EVO G ops k σ K:=by
 unfold eX at h
 cases ho:Eg ops k with
 | none=>rw [ho] at h;cases h
 | some o =>
   rw [ho] at h
   have hd:fX ops k=o.dst:=by unfold fX;rw [ho];rfl
   rw [hd] at next
   simp only at h
   cases hg:lY ops σ o with
   | none=>rw [hg] at h;cases h
   | some b =>
     rw [hg] at h
     cases b with
     | true =>
       refine Va ho hg (fun _=>?_) fun e=>nomatch e
       simp only at h
       split at h
       ·intro E S0 N a w c hi hd nx Q hn
        exact Vj G.hE hi hd h nx Q fun a' w' c' hi'=>hn _ _ _ _ next hi'
       ·cases h
     | false =>
       refine Va ho hg (fun e=>nomatch e) fun _=>?_
       simp only [n9] at h
       subst h
       rw [put_eq] at next
       exact next
theorem VJ (n:Nat) (h:(runK G ops k n σ).isSome=true) (next:EVO G ops (k+n) (Uu G ops k n σ) K):EVO G ops k σ K:=by
 induction n generalizing k σ with
 | zero=>exact next
 | succ n ih =>
   simp only [runK] at h
   simp only [Uu,runK] at next
   cases hs:eX G ops k σ with
   | none=>rw [hs] at h;cases h
   | some r =>
     rw [hs] at h next
     refine Mk hs (ih h ?_)
     rw [show k+1+n=k+(n+1) from by omega]
     exact next
theorem MH {o:Oper} (ho:Eg ops k=some o) (hg:lY ops σ o=some true) {f:Nat} {args:List PV} {R R1:TL} {vis:List Nat} {qs:List PV} {H0:HP} {r:PV} {H1:HP} (hc:oD σ o.op=some (f,args))
  (hK:DA G.P f args o.dst σ R R1 vis qs H0 r H1 (fun σ'=>EVO G ops (k+1) σ' K)):EVO G ops k σ K:=
 Va ho hg (fun _ E S0 N a w c hi hd next Q hn=>Wc hc hK hi hd next Q hn) fun e=>nomatch e
theorem PZ {K':St→Prop} (hk:∀ τ,K' τ→K τ) (h:EVO G ops k σ K'):EVO G ops k σ K:=fun E S0 N a w c hd hi ht Q hn=>h E S0 N a w c hd hi ht Q fun σ' a' w' c' hK hI=>hn σ' a' w' c' (hk _ hK) hI
end
section
variable {G:Prg} {ops:Array Oper} {D:DD}
theorem JX {m:Nat} (Dk:DOk ops D m) {E:Ent} {S0:Nat→Prop} {N:Nat} (hall:∀ o ∈ ops.toList,∀ k,o.dst=some k→k<N) (Q:Exit→Act→World→Prop) {K:St→Prop} (hn:∀ σ' a' w' c',K σ'→Inv G.P E S0 N σ' a' w' c'→Q .normal a' w') :
  ∀ (n:Nat) (l:List Nat) (listed:Array Bool) {σ σ':St} {a:Act} {w:World} {c:Ctx},l.length=n→l.Pairwise (· < ·)→(∀ k ∈ l,k<m)→listed.size=ops.toList.length→(∀ k,k<ops.toList.length→(listed.getD k false=true↔k<m∧k ∉ l)) →
    GF ops (fun k=>listed.getD k false=true)→(∀ i ∈ l,Clean (D.F i) σ) →
    ∀ {σ0:St},Ui G.P ops D l σ σ'→Alike σ0 σ'→EVO G ops m σ0 K→Inv G.P E S0 N σ a w c→wpAny G.P .any ops Q (n+(ops.toList.length-m)) listed a w
 | 0,l,listed,σ,σ',a,w,c,hl,hp,hm,hs,hL,hc,hna,σ0,hrun,he0,hK,h=>by
   have:l=[]:=H6 hl
   subst this
   cases hrun
   have:=hK E S0 N a w c hall (h.alike he0.symm) ⟨Dk.back,Dk.tail⟩ Q hn listed hs (fun k hk=>by rw [hL k hk];simp)
   simpa using this
 | n+1,l,listed,σ,σ',a,w,c,hl,hp,hm,hs,hL,hc,hna,σ0,hrun,he0,hK,h=>by
   have hidx:∀ i ∈ l,i<ops.toList.length:=fun i hi=>D8 (hm i hi) Dk.le
   -- the least one is ready
   have hne:Region.ready .any ops listed≠[]:=by
    cases l with
    | nil=>simp at hl
    | cons i l =>
      have hil:=hidx i (by simp)
      intro hr
      have:i ∈ Region.ready .any ops listed:=Qo (o:=ops.toList[i]) (by
        rw [Jx hs hil]
        cases hq:listed.getD i false with
        | false=>rfl
        | true=>have:=(hL i hil).1 hq;simp at this) (l8 hil) fun k hk=>by
       have hki:=Dk.back i _ (l8 hil) k hk
       have him:=hm i (by simp)
       refine (hL k (by omega)).2 ⟨by omega,fun hkl=>?_⟩
       rcases H4.1 hkl with rfl | hkl
       ·omega
       ·have:=(J2.1 hp).1 k hkl;omega
      rw [hr] at this
      cases this
   rw [show n+1+(ops.toList.length-m)=n+(ops.toList.length-m)+1 from by omega]
   refine ⟨fun hr=>absurd hr hne,fun i hi=>?_⟩
   obtain ⟨q1,oi,q2,q3⟩:=Lk hi
   have hil:i<ops.toList.length:=by
    rcases G3 i ops.toList.length with q | q
    ·exact q
    ·rw [s5 q] at q2;cases q2
   rw [Jx hs hil] at q1
   have him:i ∈ l:=by
    apply Classical.byContradiction
    intro hn'
    by_cases hlt:i<m
    ·have:=(hL i hil).2 ⟨hlt,hn'⟩
     rw [this] at q1;cases q1
    ·cases l with
     | nil=>simp at hl
     | cons j l =>
       have hj:=hm j (by simp)
       have:=Fs hc (Dk.tail j i (by omega) (by omega) hil) oi q2 q3
       have:=(hL j (by omega)).1 this
       exact this.2 (by simp)
   obtain ⟨l1,l2,rfl⟩:=List.append_of_mem him
   have hp1:=J5.1 hp
   have hap:∀ j ∈ l1,∀ oj,ops.toList[j]?=some oj→OM ops D j i oj oi:=fun j hj oj hoj=>by
    have hji:j<i:=hp1.2.2 j hj i (by simp)
    rcases Dk.pair j i oj oi hoj q2 hji (hm i him) with r | r
    ·have:=Fs hc r oi q2 q3
     have:=(hL j (by have:=hm i him;have:=Dk.le;omega)).1 this
     exact absurd (by simp [hj]) this.2
    ·exact r
   obtain ⟨σ2,r2,e2⟩:=hrun.front q2 hap
   cases r2 with
   | cons ho hst hav htc hfv r2 =>
     rename_i o2 A
     rw [q2] at ho
     injection ho with ho
     subst ho
     refine PN q2 hst h (hna i him) (hall oi (m5 q2)) _ Q fun a' w' c' hinv=>?_
     have hnm:∀ k,k ∈ l1++l2↔k ∈ l1++i::l2∧k≠i:=by
      intro k
      simp only [q9,H4]
      constructor
      ·rintro (q | q)
       ·exact ⟨.inl q,fun e=>by subst e;have:=hp1.2.2 k q k (by simp);omega⟩
       ·exact ⟨.inr (.inr q),fun e=>by subst e;have:=(J2.1 hp1.2.1).1 k q;omega⟩
      ·rintro ⟨q | q | q,hne⟩
       ·exact .inl q
       ·exact absurd q hne
       ·exact .inr q
     refine JX Dk hall Q hn n (l1++l2) (listed.setIfInBounds i true) (by simp at hl ⊢;omega) ?_ (fun k hk=>hm k ((hnm k).1 hk).1) (by simpa using hs) (fun k hk=>?_) (fun k ok hok hlk k' hk'=>?_) (fun j hj=>?_) r2 (he0.trans e2) hK hinv
     ·exact J5.2 ⟨hp1.1,(J2.1 hp1.2.1).2,fun x hx y hy=>hp1.2.2 x hx y (by simp [hy])⟩
     ·rw [Pw hs hil]
      by_cases e:k=i
      ·subst e;simp only [if_true,true_iff];exact ⟨hm k him,fun q=>((hnm k).1 q).2 rfl⟩
      ·rw [if_neg e,hL k hk,hnm k]
       constructor
       ·rintro ⟨x,y⟩;exact ⟨x,fun z=>y z.1⟩
       ·rintro ⟨x,y⟩;exact ⟨x,fun z=>y ⟨z,e⟩⟩
     ·simp only [Pw hs hil] at hlk ⊢
      by_cases e:k'=i
      ·rw [if_pos e]
      ·rw [if_neg e]
       by_cases e2:k=i
       ·subst e2
        rw [q2] at hok
        injection hok with hok
        subst hok
        exact q3 k' hk'
       ·rw [if_neg e2] at hlk
        exact hc k ok hok hlk k' hk'
     ·have hjl:=(hnm j).1 hj
      obtain ⟨c1,c2⟩:=hna j hjl.1
      have hF:∀ g ∈ D.F j,g ∈ D.fv i:=by
       rcases Dk.fresh j i (hm j hjl.1) (hm i him) (Ne.symm hjl.2) with r | r
       ·have:=Fs hc r oi q2 q3
        have hjlen:=hidx j hjl.1
        have:=(hL j hjlen).1 this
        exact absurd hjl.1 this.2
       ·exact r
      refine ⟨fun k=>?_,fun g o hg=>?_⟩
      ·rw [yT]
       split
       ·exact Ng hfv.1 hF
       ·exact c1 k
      ·rw [uM] at hg
       split at hg
       ·have hmem:(g,o) ∈ A.sets:=by
         have:∀ (L:HP),L.get g=some o→(g,o) ∈ L:=by
          intro L
          induction L with
          | nil=>intro h;cases h
          | cons x L ih =>
            obtain ⟨g',o'⟩:=x
            intro h
            simp only [HP.get] at h
            split at h
            ·rename_i hb
             have:=t7 hb
             injection h with h
             subst this h
             simp
            ·exact F7 _ (ih h)
         exact this _ hg
        obtain ⟨p1,p2⟩:=hfv.2 _ hmem
        refine ⟨fun q=>p1 (hF g q), ?_⟩
        cases o with
        | box cs =>
          refine p7.2 fun x hx=>?_
          exact Ng (p7.1 p2 x hx) hF
        | _=>rfl
       ·exact c2 g o hg
def Ce (L:List Nat) (k:Key):Bool:=L.any fun x=>E4 x k.tag
theorem QZ {P:Program} {E:Ent} {S0:Nat→Prop} {N:Nat} {σ:St} {a:Act} {w:World} {c:Ctx} (h:Inv P E S0 N σ a w c) {L:List Nat} (hL:L.all (fun g=>Nat.blt g PIN)=true):Inv P E S0 N (σ.kill (Ce L)) a w c:=by
 refine h.step (Ce L) (fun g=>g ∈ L) h.below h.ok (fun _ _=>rfl) (fun _ h=>h) h.sup (fun k hk hp=>?_) (fun k _=>Agree.refl c k) (fun k hD _=>⟨rfl,hD⟩) (fun k hk=>any_beq.1 hk) rfl (fun g o _ hg=>hg) fun g o hx hg=>?_
 ·have:=p7.1 hL _ (any_beq.1 hp)
  have:k.tag<PIN:=by simpa using this
  omega
 ·rw [Aq] at hg
  have:Ce L (.top g)=true:=any_beq.2 hx
  rw [if_pos this] at hg;cases hg
mutual
theorem Mn {p q:Key→Bool} (hpq:∀ k,p k=false→q k=false):∀ v:PV,v.has p=false→v.has q=false
 | .undef,_=>rfl
 | .lit _,_=>rfl
 | .nl,_=>rfl
 | .sl _,_=>rfl
 | .fmap _,_=>rfl
 | .vptr _ _,_=>rfl
 | .agg cs,h=>by rw [PV.has] at h ⊢;exact Nr hpq cs h
 | .tup cs,h=>by rw [PV.has] at h ⊢;exact Nr hpq cs h
 | .fn _ cs,h=>by rw [PV.has] at h ⊢;exact Nr hpq cs h
 | .row k _,h=>hpq k h
 | .part k _ _ _,h=>hpq k h
 | .ptr g _,h=>hpq (.top g) h
 | .rptr k _ _ _,h=>hpq k h
 | .mp g,h=>hpq (.top g) h
theorem Nr {p q:Key→Bool} (hpq:∀ k,p k=false→q k=false):∀ l:List PV,PV.Ca p l=false→PV.Ca q l=false
 | [],_=>rfl
 | c::cs,h=>by simp only [PV.Ca,I7] at h ⊢;exact ⟨Mn hpq c h.1,Nr hpq cs h.2⟩
end
theorem HG {σ:St} {L F:List Nat} (hF:∀ g ∈ F,g ∈ L):Clean F (σ.kill (Ce L)):=by
 have av:∀ v:PV,eK F (v.kill (Ce L))=true:=fun v=>p7.2 fun g hg=>by
  rw [Mn (p:=Ce L) (q:=dU g) (fun k hk=>by
   rw [lS];intro e
   have:Ce L k=true:=any_beq.2 (e ▸ hF g hg)
   rw [this] at hk;cases hk) _ (Wz (Ce L) v)]
  rfl
 refine ⟨fun k=>by rw [Jy];exact av _,fun g o hg=>?_⟩
 rw [Aq] at hg
 split at hg
 ·cases hg
 ·rename_i hp
  simp only [s6] at hg
  obtain ⟨o',_,rfl⟩:=hg
  refine ⟨fun hgF=>hp (any_beq.2 (hF g hgF)), ?_⟩
  cases o' with
  | box cs =>
    refine p7.2 fun x hx=>?_
    obtain ⟨i,hi⟩:=List.mem_iff_getElem?.1 hx
    rw [Nt] at hi
    simp only [s6] at hi
    obtain ⟨y,_,rfl⟩:=hi
    exact av y
  | _=>rfl
end
def EVD (G:Prg) (ops:Array Oper) (D:DD) (m k:Nat) (σ:St) (K:St→Prop):Prop:=∃ σ',Ui G.P ops D (P8 k (m-k)) σ σ'∧K σ'
section
variable {G:Prg} {ops:Array Oper} {D:DD} {m k:Nat} {σ:St} {K:St→Prop}
theorem VD (h:E6 m k=true) (hk:K σ):EVD G ops D m k σ K:=by
 refine ⟨σ, ?_,hk⟩
 rw [show m-k=0 from by have:=J3 h;omega]
 exact .nil σ
theorem Ii {o:Oper} (hm:E6 m k=false) (ho:Eg ops k=some o) (A:Fz) (hs:DStep G.P ops o (D.rd k) (D.F k) σ A) (hav:(Oy ops o).all (fun t=>eK (D.av k) (σ.get t))=true) (ht:inL A.touch (D.T k)=true)
  (hfv:(eK (D.fv k) A.v&&A.sets.all fun x=>!((D.fv k).any fun y=>E4 y x.1)&&x.2.Cd (D.fv k))=true) (next:EVD G ops D m (k+1) (σ.act o.dst A) K):EVD G ops D m k σ K:=by
 obtain ⟨σ',h1,h2⟩:=next
 have hlt:k<m:=by
  rcases G3 k m with q | q
  ·exact q
  ·rw [Nat.ble_eq_true_of_le q] at hm;cases hm
 refine ⟨σ', ?_,h2⟩
 rw [show m-k=(m-(k+1))+1 from by omega,N5]
 simp only [o8] at hfv
 refine .cons ho hs (fun t q=>p7.1 hav t q) (wW ht) ⟨hfv.1,fun x hx=>?_⟩ h1
 have:=p7.1 hfv.2 x hx
 simp only [o8,F2] at this
 refine ⟨fun q=>?_,this.2⟩
 rw [any_beq.2 q] at this
 exact Bool.noConfusion this.1
theorem PS {K':St→Prop} (hk:∀ τ,K' τ→K τ) (h:EVD G ops D m k σ K'):EVD G ops D m k σ K:=by
 obtain ⟨σ',h1,h2⟩:=h
 exact ⟨σ',h1,hk _ h2⟩
theorem dD (b:Bool) (σf:Bool→St) (h:σ=σf b) (ht:b=true→EVD G ops D m k (σf true) K) (hf:b=false→EVD G ops D m k (σf false) K):EVD G ops D m k σ K:=by
 subst h
 cases b
 ·exact hf rfl
 ·exact ht rfl
end
theorem kF {G:Prg} {cd:Code} {σ:St} {K:PX→St→Prop} (T F rd av fv:List (Nat×List Nat)) (m:Nat) (hk:knd cd=2) (hok:Mj (vM cd) T F rd av fv m=true) (L:List Nat) (hL:L.all (fun g=>Nat.blt g PIN)=true) (hF:F.all (fun x=>inL x.2 L)=true)
  (h:EVD G (vM cd) ⟨lst T,lst F,lst rd,lst av,lst fv⟩ m 0 (σ.kill (Ce L)) fun σ'=>EVO G (vM cd) m σ' (K .normal)):SEM G cd σ K:=by
 cases cd <;> simp [knd] at hk
 rename_i id ops b
 cases b <;> simp [knd] at hk
 intro E S0 N a w c hd hi
 obtain ⟨σ',hrun,hev⟩:=h
 simp only [vM,Nat.sub_zero] at hrun hev hok
 have Dk:=EB hok
 refine wp_region_any G.D1 ?_
 have hFL:∀ i,∀ g ∈ lst F i,g ∈ L:=by
  intro i
  clear hok Dk hrun
  induction F with
  | nil=>intro g hg;cases hg
  | cons x F ih =>
    obtain ⟨j,y⟩:=x
    simp only [List.all_cons,o8] at hF
    simp only [lst]
    split
    ·exact wW hF.1
    ·exact ih hF.2
 have hdrew:Below w.heap.size w { w with drawn:=w.drawn+1 }:=⟨rfl,rfl,rfl,v7 _,fun _ _=>rfl⟩
 have:=JX Dk (Zw hd) (fun e a' w'=>∃ x σ' c',PX.like x e∧K x σ'∧Inv G.P E S0 N σ' a' w' c') (fun σ' a' w' c' hk hi=>⟨.normal,σ',c',trivial,hk,hi⟩) m (P8 0 m) (N6 ops.size false) (by simp) (by rw [← O2];exact List.pairwise_lt_range) (fun k hk=>by simpa using hk) (by simp) (fun k hk=>?_) (fun j o _ hl k _=>?_) (fun i hi'=>HG (hFL i)) hrun (Alike.ZG _) hev (QZ (hi.ext hdrew) hL)
 ·have e:m+(ops.toList.length-m)=ops.size:=by have:=Dk.le;simp at this ⊢;omega
  rwa [e] at this
 ·have:(N6 ops.size false).getD k false=false:=by simp [o7,R2];split <;> rfl
  simp only [this,j9,false_iff,not_and,Classical.not_not]
  intro hkm
  simpa using hkm
 ·have:(N6 ops.size false).getD j false=false:=by simp [o7,R2];split <;> rfl
  simp only [this] at hl
  cases hl
end Go.VI
