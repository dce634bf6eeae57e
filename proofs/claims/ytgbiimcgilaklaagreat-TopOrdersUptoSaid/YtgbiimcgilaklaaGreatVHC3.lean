/- The evaluator, part 3. -/
import Derived.Test.YtgbiimcgilaklaaGreatVHC2
import Derived.ProofKit
import Derived.Test.YtgbiimcgilaklaaGreatVHC1
set_option linter.unusedVariables false
set_option linter.unusedSimpArgs false
set_option linter.unusedSectionVars false
open Array renaming replicate→N6
open Bool renaming and_eq_true→o8,or_eq_false_iff→I7,or_eq_true→F6
open Int renaming natCast_nonneg→U7,toNat_natCast→y9
open Go.IntKind renaming bits→P9,max→Q4,min→R3,signed→O9
open List renaming all_cons→I3,all_eq_true→p7,append_nil→N7,cons_append→K8,filterMap_cons→T5,foldl_cons→y8,foldl_nil→G2,getD_eq_getElem?_getD→m8,getElem?_append_left→x6,getElem?_append_right→x8,getElem?_drop→E8,getElem?_eq_getElem→l8,getElem?_eq_some_iff→m9,getElem?_take→D9,mem_append→q9,mem_singleton→J4,nil_append→I8,singleton_append→S6
open Nat renaming beq→E4,ble→E6,blt→H8,eq_of_beq_eq_true→t7,le_of_ble_eq_true→J3,le_refl→v7,mul_le_mul_right→u7
open Option renaming bind_some→i9,isSome_iff_exists→u9,map_some→s8
open Option.some renaming injEq→n9
open Go.Result renaming andThen_ok→m6
open Go.Sem renaming run_bind→o5,run_pure→o9
namespace Go.VI
open Go.RowKit
mutual
theorem QO (p q:Key→Bool):∀ v:PV,v.has (fun k=>p k || q k)=(v.has p || v.has q)
 | .undef=>rfl
 | .lit _=>rfl
 | .nl=>rfl
 | .sl _=>rfl
 | .fmap _=>rfl
 | .vptr _ _=>rfl
 | .agg cs=>by simp only [PV.has];exact Ve p q cs
 | .tup cs=>by simp only [PV.has];exact Ve p q cs
 | .fn _ cs=>by simp only [PV.has];exact Ve p q cs
 | .row k _=>rfl
 | .part k _ _ _=>rfl
 | .ptr g _=>rfl
 | .rptr k _ _ _=>rfl
 | .mp g=>rfl
theorem Ve (p q:Key→Bool):∀ l:List PV,PV.Ca (fun k=>p k || q k) l=(PV.Ca p l || PV.Ca q l)
 | []=>rfl
 | c::cs=>by
   simp only [PV.Ca,QO p q c,Ve p q cs]
   cases c.has p <;> cases c.has q <;> cases PV.Ca p cs <;> cases PV.Ca q cs <;> rfl
end
theorem RY (v:Value):(ofV v).free=true:=(HQ default (fun _=>True) v).free
section
variable {ops:Array Oper} {o:Oper} {rd T F:List Nat} {σ τ:St}
theorem Fy (l:Local ops o rd T σ τ):(∀ x ∈ o.op.operands.toList,pev τ x=pev σ x)∧(shallow o.op=false→∀ x ∈ o.op.operands.toList,eK T (pev σ x)=true):=by
 have mem:∀ t,(.tmp t:Operand) ∈ o.op.operands.toList→t ∈ Cr ops o:=fun t ht=>by
  unfold Cr
  rw [q9,List.mem_filterMap]
  exact .inl ⟨_,ht,rfl⟩
 refine ⟨fun x hx=>?_,fun hsh x hx=>?_⟩
 ·cases x with
  | tmp t=>exact l.slots t (mem t hx)
  | _=>rfl
 ·cases x with
  | tmp t=>exact l.Cd t (by rw [RW hsh];exact mem t hx)
  | const v=>exact Kr (RY v)
  | global g=>exact Kr rfl
  | func f=>exact Kr rfl
theorem wX (l:Local ops o rd T σ τ):lY ops τ o=lY ops σ o:=by
 unfold lY
 split
 ·rfl
 ·rename_i j want e
  split
  ·rename_i d hd
   rw [l.slots d (by
    unfold Cr
    rw [q9,e]
    right
    simp only [hd]
    simp)]
  ·rfl
theorem Rp (P:Program) (eqn:TypeId→Nat) {σ τ:St} (d:Nat) (ty:TypeId) (op:Op) (hs:shallow op=true) (h:∀ x ∈ op.operands.toList,pev σ x=pev τ x):kQ P eqn σ d ty op=kQ P eqn τ d ty op:=by
 cases op with
 | move x=>simp only [kQ];rw [h x (by simp [Op.operands])]
 | nilCheck x=>simp only [kQ];rw [h x (by simp [Op.operands])]
 | assign x=>simp only [kQ];rw [h x (by simp [Op.operands])]
 | pick c a b=>simp only [kQ];rw [h c (by simp [Op.operands]),h a (by simp [Op.operands]),h b (by simp [Op.operands])]
 | build t parts =>
   have e:(parts.toList.map fun p=>(p.1,pev σ p.2))=parts.toList.map fun p=>(p.1,pev τ p.2):=
    List.map_congr_left fun p hp=>by rw [h p.2 (by simp only [Op.operands];simp;exact ⟨p.1,by simpa using hp⟩)]
   simp only [kQ,e]
 | makeFunc f first caps =>
   have e:caps.toList.map (pev σ)=caps.toList.map (pev τ):=Rg fun x hx=>h x (by simp only [Op.operands];simp;exact .inr (by simpa using hx))
   cases f <;> simp only [kQ,e]
 | fieldAddr s x f=>simp only [kQ];rw [h x (by simp [Op.operands])]
 | field s x f=>simp only [kQ];rw [h x (by simp [Op.operands])]
 | extract x i=>simp only [kQ];rw [h x (by simp [Op.operands])]
 | _=>cases hs
theorem EM {h h':HP} (e:HAg T h h'):HAg T h' h:=fun g hg=>(e g hg).symm
theorem Wp {G:Prg} {r:Res} {A:Fz} (hg:lY ops σ o=some true) (hc:oD σ o.op=none) (hp:kQ G.P G.eqn σ (o.dst.getD 0) o.type o.op=some r) (hal:∀ τ,Clean F τ→Alike (r.put τ o.dst) (τ.act o.dst A)):DStep G.P ops o rd F σ A:=fun T τ l=>by
 obtain ⟨h1,h2⟩:=Fy l
 refine .inr ⟨by rw [wX l];exact hg,fun E S0 N a w c hi hcl hd next Q hn=>?_⟩
 have hp':kQ G.P G.eqn τ (o.dst.getD 0) o.type o.op=some r:=by
  cases hsh:shallow o.op with
  | false=>rw [Xv G.P G.eqn (EM l.heap) _ _ _ h1 (h2 hsh)];exact hp
  | true=>rw [Rp G.P G.eqn _ _ _ hsh h1];exact hp
 exact Vj G.hE hi hd hp' next Q fun a' w' c' hi'=>hn a' w' c' (hi'.alike (hal τ hcl))
theorem MF {P:Program} (hg:lY ops σ o=some false):DStep P ops o rd F σ ⟨[],[],.lit undef⟩:=fun T τ l=>.inl ⟨by rw [wX l];exact hg,rfl⟩
theorem LQ (τ:St) (d:Option Nat) (v:PV):Alike (Res.put τ d (.val v)) (τ.act d ⟨[],[],v⟩):=by
 refine ⟨fun k=>?_,fun g=>?_⟩
 ·rw [yT];cases d with
  | none=>rfl
  | some d=>simp only [Res.put,Res.val,Res.base,G2,Fk,n9]
 ·rw [uM];cases d <;> simp [Fz.touch,Res.put,Res.val,Res.base,Xb]
theorem Kt {p:Key→Bool} (hF:∀ k,p k=true→k.tag ∈ F) (hcl:Clean F τ):Alike (τ.kill p) τ:=by
 have av : ∀ v:PV,eK F v=true→v.kill p=v:=fun v hv=>Co p v (by
  have:∀ (L:List Nat) (v:PV),eK L v=true→v.has (Ce L)=false:=by
   intro L
   induction L with
   | nil=>intro v _;exact Mn (p:=vY) (q:=Ce []) (fun _ _=>rfl) v (Xa v)
   | cons g L ih =>
     intro v hv
     simp only [eK,I3,o8,Bool.not_eq_true'] at hv
     have h1:=hv.1
     have h2:=ih v hv.2
     clear hv ih
     have comb:∀ {q1 q2 q:Key→Bool},(∀ k,q1 k=false→q2 k=false→q k=false)→(∀ v:PV,v.has q1=false→v.has q2=false→v.has q=false):=by
      intro q1 q2 q hq v
      have both:∀ v:PV,v.has (fun k=>q1 k || q2 k)=(v.has q1 || v.has q2):=by
       intro v
       exact QO q1 q2 v
      intro a b
      exact Mn (p:=fun k=>q1 k || q2 k) (fun k hk=>by simp only [I7] at hk;exact hq k hk.1 hk.2) v (by rw [both,a,b];rfl)
     exact comb (fun k a b=>by
      simp only [Ce,List.any_cons,I7]
      refine ⟨?_,b⟩
      rw [lS] at a
      exact sC (Ne.symm a)) v h1 h2
  exact Mn (p:=Ce F) (q:=p) (fun k hk=>by
   cases hq:p k with
   | false=>rfl
   | true=>have:Ce F k=true:=any_beq.2 (hF k hq);rw [this] at hk;cases hk) v (this F v hv))
 refine ⟨fun k=>by rw [Jy];exact av _ (hcl.1 k),fun g=>?_⟩
 rw [Aq]
 cases hg:τ.hget g with
 | none=>split <;> rfl
 | some o =>
   obtain ⟨q1,q2⟩:=hcl.2 g o hg
   have hp:p (.top g)=false:=by
    cases hq:p (.top g) with
    | false=>rfl
    | true=>exact absurd (hF _ hq) q1
   rw [if_neg (by rw [hp];simp)]
   simp only [s8,n9]
   cases o with
   | box cs =>
     simp only [HO.kill]
     congr 1
     have:∀ l:List PV,l.all (eK F)=true→PV.uC p l=l:=by
      intro l
      induction l with
      | nil=>intro _;rfl
      | cons c l ih=>intro h;simp only [I3,o8] at h;simp only [PV.uC,av c h.1,ih h.2]
     exact this cs q2
   | _=>rfl
theorem LO {d g:Nat} (hF:g ∈ F) (hcl:Clean F τ) (dst:Option Nat) (o:HO) (v:PV):Alike (Res.put τ dst (.new g o v)) (τ.act dst ⟨[],[(g,o)],v⟩):=by
 have e:=Kt (p:=dU g) (fun k hk=>by rw [gE.1 hk];exact hF) hcl
 have e2:Alike ((τ.kill (dU g)).put g o) (τ.put g o):=⟨fun k=>e.1 k,fun k=>by rw [eH,eH,e.2 k]⟩
 refine ⟨fun k=>?_,fun k=>?_⟩
 ·rw [yT];cases dst with
  | none=>exact e2.1 k
  | some d=>simp only [Res.put,Res.new,Res.base,y8,G2,Fk,n9];split;rfl;exact e2.1 k
 ·rw [uM]
  have:(Res.put τ dst (.new g o v)).hget k=((τ.kill (dU g)).put g o).hget k:=by cases dst <;> rfl
  rw [this,e2.2 k,eH]
  simp only [Fz.touch,I8,List.map_cons,List.map_nil,J4]
  split
  ·rename_i h;subst h;simp [HP.get]
  ·rfl
theorem LP (dst:Option Nat) (g:Nat) (o:HO) (v:PV):Alike (Res.put τ dst ⟨[],[(g,o)],v⟩) (τ.act dst ⟨[],[(g,o)],v⟩):=by
 refine ⟨fun k=>?_,fun k=>?_⟩
 ·rw [yT];cases dst with
  | none=>rfl
  | some d=>simp only [Res.put,Res.base,y8,G2,Fk,n9];rfl
 ·rw [uM]
  have:(Res.put τ dst ⟨[],[(g,o)],v⟩).hget k=(τ.put g o).hget k:=by cases dst <;> rfl
  rw [this,eH]
  simp only [Fz.touch,I8,List.map_cons,List.map_nil,J4]
  split
  ·rename_i h;subst h;simp [HP.get]
  ·rfl
theorem WA {vis:List Nat} {h h':HP} (e:∀ g ∈ vis,h.get g=h'.get g):h.only vis=h'.only vis:=by
 unfold HP.only
 induction vis with
 | nil=>rfl
 | cons x vis ih =>
   rw [T5,T5,e x (by simp),ih fun g hg=>e g (by simp [hg])]
theorem GR {G:Prg} {f:Nat} {args:List PV} {R1:TL} {vis:List Nat} {qs:List PV} {r:PV} {H1:HP} (hg:lY ops σ o=some true) (hc:oD σ o.op=some (f,args)) (hp:PC G.P f qs [] r H1)
  (hR1:R1.okB=true) (hsmall:R1.all (fun x=>H8 x.2 PIN)=true) (hF:R1.all (fun x=>F.any fun y=>E4 y x.2)=true) (MO:inL vis rd=true) (hq:PV.qD [] (σ.h.only vis) DEEP args=qs) (hind:vis=[]∨(r.ind=true∧∀ g o,H1.get g=some o→o.ind)) :
  DStep G.P ops o rd F σ ⟨[],H1.ren R1,r.ren R1⟩:=fun T τ l=>by
 obtain ⟨h1,h2⟩:=Fy l
 refine .inr ⟨by rw [wX l];exact hg,fun E S0 N a w c hi hcl hd next Q hn=>?_⟩
 have hc':oD τ o.op=some (f,args):=by rw [Zj h1];exact hc
 have ho:τ.h.only vis=σ.h.only vis:=WA fun g hg=>(l.heap g (l.apart g (wW MO g hg))).symm
 have hFt:∀ t g,R1.out t=some g→g ∈ F:=fun t g h=>by
  have:=p7.1 hF _ (Vf ((TL.lH hR1).1 h))
  exact any_beq.1 this
 refine Wc (K:=fun σ'=>Alike σ' (τ.act o.dst ⟨[],H1.ren R1,r.ren R1⟩)) hc' (R:=[]) (R1:=R1) (vis:=vis) (qs:=qs) (H0:=[]) (r:=r) (H1:=H1) ⟨hp,rfl,hR1,(fun t g h=>by cases h),(fun t g h=>.inr ⟨rfl, ?_⟩),(p7.2 fun _ _=>rfl),(by rw [ho];exact hq),rfl,hind, ?_⟩ hi hd next Q fun σ' a' w' c' hk hi'=>hn _ _ _ (hi'.alike hk)
 ·have:=p7.1 hsmall _ (Vf ((TL.lH hR1).1 h))
  simpa using this
 ·have gk:∀ k,gone R1 [] k=true→k.tag ∈ F:=fun k hk=>by
   simp only [gone,o8] at hk
   obtain ⟨t,ht⟩:=u9.1 hk.1
   exact hFt t _ ((TL.lH hR1).2 ht)
  have e:=Kt (p:=gone R1 []) gk hcl
  have sl:∀ k,(after R1 [] τ H1).get k=τ.get k:=fun k=>e.1 k
  have hp':∀ g,(after R1 [] τ H1).hget g=if g ∈ (H1.ren R1).map (·.1) then (H1.ren R1).get g else τ.hget g:=by
   intro g
   have:(after R1 [] τ H1).hget g=HP.get (H1.ren R1++((τ.kill (gone R1 [])).h.del R1)) g:=rfl
   rw [this,Hs,JT]
   have e2:(τ.kill (gone R1 [])).h.get g=τ.hget g:=e.2 g
   by_cases hm:g ∈ (H1.ren R1).map (·.1)
   ·obtain ⟨o',ho'⟩:=get_some hm
    rw [if_pos hm,ho']
   ·rw [if_neg hm,get_none hm,e2]
    simp only
    split
    ·rename_i hs
     obtain ⟨t,ht⟩:=u9.1 hs
     have hgF:=hFt t _ ((TL.lH hR1).2 ht)
     cases hq':τ.hget g with
     | none=>rfl
     | some o'=>exact absurd hgF (hcl.2 g o' hq').1
    ·rfl
  show Alike (mU (after R1 [] τ H1) o.dst (r.ren R1)) _
  refine ⟨fun k=>?_,fun g=>?_⟩
  ·rw [yT]
   cases o.dst with
   | none=>exact sl k
   | some d=>simp only [mU,Fk,n9];split;rfl;exact sl k
  ·rw [uM]
   have:(mU (after R1 [] τ H1) o.dst (r.ren R1)).hget g=(after R1 [] τ H1).hget g:=by cases o.dst <;> rfl
   rw [this,hp' g]
   have e3:g ∈ (⟨[],H1.ren R1,r.ren R1⟩:Fz).touch↔g ∈ (H1.ren R1).map (·.1):=by simp [Fz.touch]
   by_cases hm:g ∈ (H1.ren R1).map (·.1)
   ·rw [if_pos hm,if_pos (e3.2 hm)]
   ·rw [if_neg hm,if_neg (fun q=>hm (e3.1 q))]
end
section
variable {G:Prg} {ops:Array Oper} {D:DD} {m k:Nat} {σ:St} {K:St→Prop}
def avB (ops:Array Oper) (k:Nat) (L:List Nat) (σ:St):Bool:=match L with
 | []=>true
 | L=>match Eg ops k with
   | some o=>(Oy ops o).all fun t=>eK L (σ.get t)
   | none=>true
theorem Ds {o:Oper} {L:List Nat} (ho:Eg ops k=some o) (h:avB ops k L σ=true):(Oy ops o).all (fun t=>eK L (σ.get t))=true:=by
 unfold avB at h
 split at h
 ·exact p7.2 fun _ _=>rfl
 ·rw [ho] at h;exact h
theorem Fv {r:Res} (h:eX G ops k σ=some r):∃ o,Eg ops k=some o∧((lY ops σ o=some true∧oD σ o.op=none∧kQ G.P G.eqn σ (o.dst.getD 0) o.type o.op=some r)∨(lY ops σ o=some false∧r=.val (.lit undef))):=by
 unfold eX at h
 cases ho:Eg ops k with
 | none=>rw [ho] at h;cases h
 | some o =>
   rw [ho] at h
   simp only at h
   refine ⟨o,rfl, ?_⟩
   cases hg:lY ops σ o with
   | none=>rw [hg] at h;cases h
   | some b =>
     rw [hg] at h
     cases b with
     | true =>
       simp only at h
       split at h
       ·rename_i hc;exact .inl ⟨rfl,hc,h⟩
       ·cases h
     | false=>simp only [n9] at h;exact .inr ⟨rfl,h.symm⟩
theorem tC {o:Oper} (ho:Eg ops k=some o):fX ops k=o.dst:=by unfold fX;rw [ho];rfl
theorem Bg {v:PV} (hm:E6 m k=false) (h:eX G ops k σ=some (.val v)) (hav:avB ops k (D.av k) σ=true) (hfv:eK (D.fv k) v=true) (next:EVD G ops D m (k+1) (mU σ (fX ops k) v) K):EVD G ops D m k σ K:=by
 obtain ⟨o,ho,hh⟩:=Fv h
 rw [tC ho] at next
 have hs:DStep G.P ops o (D.rd k) (D.F k) σ ⟨[],[],v⟩:=by
  rcases hh with ⟨h1,h2,h3⟩ | ⟨h1,h2⟩
  ·exact Wp h1 h2 h3 fun τ _=>LQ τ o.dst v
  ·have:v=.lit undef:=congrArg Res.v h2
   subst this
   exact MF h1
 refine Ii hm ho ⟨[],[],v⟩ hs (Ds ho hav) rfl (by simp [hfv]) ?_
 have e:σ.act o.dst ⟨[],[],v⟩=mU σ o.dst v:=by
  have:∀ h:HP,h.Eb []=h:=by
   intro h
   induction h with
   | nil=>rfl
   | cons x h ih=>obtain ⟨g,o⟩:=x;simp [HP.Eb,ih]
  simp only [St.act,this,I8]
 rw [e];exact next
theorem vP {g:Nat} {ob:HO} {v:PV} (hm:E6 m k=false) (h:eX G ops k σ=some (.new g ob v)) (hF:inL [g] (D.F k)=true) (hT:inL [g] (D.T k)=true) (hav:avB ops k (D.av k) σ=true) (hfv:(eK (D.fv k) v&&!((D.fv k).any fun y=>E4 y g)&&ob.Cd (D.fv k))=true)
  (next:EVD G ops D m (k+1) (mU ⟨σ.s,(g,ob)::σ.h⟩ (fX ops k) v) K):EVD G ops D m k σ K:=by
 obtain ⟨o,ho,hh⟩:=Fv h
 rw [tC ho] at next
 simp only [o8] at hfv
 rcases hh with ⟨h1,h2,h3⟩ | ⟨_,h2⟩
 ·have hs:DStep G.P ops o (D.rd k) (D.F k) σ ⟨[],[(g,ob)],v⟩:=Wp h1 h2 h3 fun τ hcl=>LO (d:=0) (wW hF g (by simp)) hcl o.dst ob v
  refine Ii hm ho ⟨[],[(g,ob)],v⟩ hs (Ds ho hav) hT (by simp only [I3,List.all_nil,Bool.and_true,o8];exact ⟨hfv.1.1,hfv.1.2,hfv.2⟩) ?_
  have e:σ.act o.dst ⟨[],[(g,ob)],v⟩=mU ⟨σ.s,(g,ob)::σ.h⟩ o.dst v:=by
   have:∀ h:HP,h.Eb []=h:=by
    intro h
    induction h with
    | nil=>rfl
    | cons x h ih=>obtain ⟨g,o⟩:=x;simp [HP.Eb,ih]
   simp only [St.act,this,S6]
  rw [e];exact next
 ·have:=congrArg (fun r=>r.sets.length) h2
  simp [Res.new,Res.val] at this
theorem Ij {g:Nat} {ob:HO} {v:PV} (hm:E6 m k=false) (h:eX G ops k σ=some ⟨[],[(g,ob)],v⟩) (hT:inL [g] (D.T k)=true) (hav:avB ops k (D.av k) σ=true) (hfv:(eK (D.fv k) v&&!((D.fv k).any fun y=>E4 y g)&&ob.Cd (D.fv k))=true)
  (next:EVD G ops D m (k+1) (mU ⟨σ.s,(g,ob)::σ.h⟩ (fX ops k) v) K):EVD G ops D m k σ K:=by
 obtain ⟨o,ho,hh⟩:=Fv h
 rw [tC ho] at next
 simp only [o8] at hfv
 rcases hh with ⟨h1,h2,h3⟩ | ⟨_,h2⟩
 ·have hs:DStep G.P ops o (D.rd k) (D.F k) σ ⟨[],[(g,ob)],v⟩:=Wp h1 h2 h3 fun τ _=>LP o.dst g ob v
  refine Ii hm ho ⟨[],[(g,ob)],v⟩ hs (Ds ho hav) hT (by simp only [I3,List.all_nil,Bool.and_true,o8];exact ⟨hfv.1.1,hfv.1.2,hfv.2⟩) ?_
  have e:σ.act o.dst ⟨[],[(g,ob)],v⟩=mU ⟨σ.s,(g,ob)::σ.h⟩ o.dst v:=by
   have:∀ h:HP,h.Eb []=h:=by
    intro h
    induction h with
    | nil=>rfl
    | cons x h ih=>obtain ⟨g,o⟩:=x;simp [HP.Eb,ih]
   simp only [St.act,this,S6]
  rw [e];exact next
 ·have:=congrArg (fun r=>r.sets.length) h2
  simp [Res.val] at this
def TZ (G:Prg) (ops:Array Oper) (D:DD) (m k:Nat) (σ:St):Option PV:=if E6 m k=true then none else match eX G ops k σ with
 | some ⟨[],[],v⟩=>if avB ops k (D.av k) σ=true∧eK (D.fv k) v=true then some v else none
 | _=>none
def AZ (G:Prg) (ops:Array Oper) (D:DD) (m:Nat):Nat→Nat→St→Option St
 | _,0,σ=>some σ
 | k,n+1,σ=>match TZ G ops D m k σ with
   | some v=>AZ G ops D m (k+1) n (mU σ (fX ops k) v)
   | none=>none
def SX (G:Prg) (ops:Array Oper) (D:DD) (m k n:Nat) (σ:St):St:=(AZ G ops D m k n σ).getD ⟨[],[]⟩
theorem VF (n:Nat) (h:(AZ G ops D m k n σ).isSome=true) (next:EVD G ops D m (k+n) (SX G ops D m k n σ) K):EVD G ops D m k σ K:=by
 induction n generalizing k σ with
 | zero=>exact next
 | succ n ih =>
   simp only [AZ] at h
   simp only [SX,AZ] at next
   cases hs:TZ G ops D m k σ with
   | none=>rw [hs] at h;cases h
   | some v =>
     rw [hs] at h next
     unfold TZ at hs
     split at hs
     ·cases hs
     rename_i hm
     split at hs
     ·rename_i v' hst
      split at hs
      case isFalse=>cases hs
      rename_i hh
      injection hs with hs
      subst hs
      refine Bg (by cases hq:E6 m k with | false=>rfl | true=>exact absurd hq hm) hst hh.1 hh.2 (ih h ?_)
      rw [show k+1+n=k+(n+1) from by omega]
      exact next
     ·cases hs
theorem ED {o:Oper} (hm:E6 m k=false) (ho:Eg ops k=some o) (hg:lY ops σ o=some true) {f:Nat} {args:List PV} {R1:TL} {vis:List Nat} {qs:List PV} {r:PV} {H1:HP} (hc:oD σ o.op=some (f,args)) (hp:PC G.P f qs [] r H1)
  (hR1:R1.okB=true) (hsmall:R1.all (fun x=>H8 x.2 PIN)=true) (hF:R1.all (fun x=>(D.F k).any fun y=>E4 y x.2)=true) (MO:inL vis (D.rd k)=true) (hq:PV.qD [] (σ.h.only vis) DEEP args=qs) (hind:vis=[]∨(r.ind=true∧∀ g o,H1.get g=some o→o.ind))
  (hav:avB ops k (D.av k) σ=true) (hT:inL ((H1.ren R1).map (·.1)) (D.T k)=true) (hfv:(eK (D.fv k) (r.ren R1)&&(H1.ren R1).all fun x=>!((D.fv k).any fun y=>E4 y x.1)&&x.2.Cd (D.fv k))=true)
  (next:EVD G ops D m (k+1) (mU ⟨σ.s,H1.ren R1++σ.h⟩ (fX ops k) (r.ren R1)) K):EVD G ops D m k σ K:=by
 rw [tC ho] at next
 refine Ii hm ho ⟨[],H1.ren R1,r.ren R1⟩ (GR hg hc hp hR1 hsmall hF MO hq hind) (Ds ho hav) (by simpa [Fz.touch] using hT) hfv ?_
 have e:σ.act o.dst ⟨[],H1.ren R1,r.ren R1⟩=mU ⟨σ.s,H1.ren R1++σ.h⟩ o.dst (r.ren R1):=by
  have:∀ h:HP,h.Eb []=h:=by
   intro h
   induction h with
   | nil=>rfl
   | cons x h ih=>obtain ⟨g,o⟩:=x;simp [HP.Eb,ih]
  simp only [St.act,this]
 rw [e];exact next
end
end Go.VI
namespace Go.VI
open Go.RowKit
def St.ren (R:TL) (σ:St):St:=⟨σ.s.map (PV.ren R),σ.h.ren R⟩
def KW (R:TL):Bool:=R.all fun x=>E4 x.1 x.2 || (H8 x.1 PIN&&H8 x.2 PIN)
theorem VO (R:TL) (σ:St) (k:Nat):(σ.ren R).get k=(σ.get k).ren R:=get_map _ rfl _ _
theorem Inv.ren {P:Program} {E:Ent} {S0:Nat→Prop} {N:Nat} {σ:St} {a:Act} {w:World} {c:Ctx} (h:Inv P E S0 N σ a w c) {R:TL} (hR:R.okB=true) (hp:KW R=true):∃ c',Inv P E S0 N (σ.ren R) a w c':=by
 let c1:=jR c c R c.S
 let c2:Ctx:=⟨c1.S,c1.τ,c1.hd,c1.ty,fun k=>(R.inn k.tag).isSome=true∧c1.D k⟩
 have hag:∀ k,Agree c1 c2 k:=fun k=>⟨rfl,rfl,rfl⟩
 have old:∀ k,c2.D k→∃ t,R.inn k.tag=some t∧c2.τ k=c.τ (k.dO t)∧c.D (k.dO t):=fun k hk=>by
  obtain ⟨t,ht⟩:=u9.1 hk.1
  refine ⟨t,ht,by simp [c2,c1,jR,ht], ?_⟩
  have:=hk.2
  simpa [c1,jR,ht] using this
 refine ⟨c2,h.below,⟨h.ok.hS,fun k hk=>?_,fun k k' hk hk' he=>?_⟩,h.sub,h.sup,fun i=>?_,fun g o hg=>?_,fun g hg=>?_,h.small,h.size,h.defers⟩
 ·obtain ⟨t,ht,q1,q2⟩:=old k hk
  rw [q1];exact h.ok.hD _ q2
 ·obtain ⟨t,ht,q1,q2⟩:=old k hk
  obtain ⟨t',ht',q1',q2'⟩:=old k' hk'
  rw [q1,q1'] at he
  have e:=h.ok.inj _ _ q2 q2' he
  have et:t=t':=by have:=congrArg Key.tag e;rwa [qZ,qZ] at this
  subst et
  have hg:k.tag=k'.tag:=by
   have p1:=(TL.lH hR).2 ht
   rw [(TL.lH hR).2 ht'] at p1
   injection p1 with p1;exact p1.symm
  exact Nz e hg
 ·rw [VO]
  exact RV.Fm (c:=c1) (c':=c2) (fun _ _=>rfl) (fun _ h=>h) hag (IC (c:=c) (c1:=c) (S:=c.S) hR (h.slots i) (.inl fun _ h=>h))
 ·have hgg:(σ.ren R).hget g=(σ.h.ren R).get g:=rfl
  rw [hgg] at hg
  obtain ⟨t,o1,q1,q2,rfl⟩:=KY hR hg
  have:=ER (c:=c) (c1:=c) (S:=c.S) hR q1 (.inl fun _ h=>h) (h.fE t o1 q2)
  exact oW.Fm (c:=c1) (c':=c2) (fun _ _=>rfl) (fun _ h=>h) hag (fun k hk hD=>⟨rfl,by rw [hk,(TL.lH hR).1 q1];rfl,hD⟩) this
 ·obtain ⟨p1,p2,p3⟩:=h.pin g hg
  cases hi:R.inn g with
  | none =>
    obtain ⟨⟨q1,q2,q3⟩,_⟩:=xC (c:=c) (c1:=c) (R1:=R) (S:=c.S) (k:=.top g) hi
    exact ⟨q1.trans p1,q2.trans p2,q3.trans p3⟩
  | some t =>
    have hm:=p7.1 hp _ (Vf hi)
    simp only [F6,o8] at hm
    have ht:t=g:=by
     rcases hm with q | ⟨_,q⟩
     ·exact t7 q
     ·have:g<PIN:=by simpa using q
      omega
    subst ht
    simp only [Agree,c2,c1,jR,Key.tag,hi]
    exact ⟨p1,p2,p3⟩
def gG (P:Program) (σ' σ:St):Prop:=∀ {E:Ent} {S0:Nat→Prop} {N:Nat} {a:Act} {w:World} {c:Ctx},Inv P E S0 N σ a w c→∃ c',Inv P E S0 N σ' a w c'
theorem gG.inv {P:Program} {E:Ent} {S0:Nat→Prop} {N:Nat} {σ σ':St} {a:Act} {w:World} {c:Ctx} (hs:gG P σ' σ) (h:Inv P E S0 N σ a w c):∃ c',Inv P E S0 N σ' a w c':=hs h
theorem Lt {P:Program} {σ'' σ' σ:St} (h:gG P σ'' σ') (k:gG P σ' σ):gG P σ'' σ:=fun i=>by
 obtain ⟨c',i'⟩:=k i
 exact h i'
theorem FZ {P:Program} {σ' σ:St} (h:Sub σ' σ):gG P σ' σ:=fun i=>⟨_,Rw h i⟩
theorem Db {P:Program} (σ:St):gG P σ σ:=fun i=>⟨_,i⟩
inductive Pl where
 | slot (i:Nat)
 | cell (i j:Nat)
 | box (g j:Nat)
def St.Ou (σ:St):Pl→PV
 | .slot i=>σ.get i
 | .cell i j=>match σ.get i with
   | .agg cs=>cs.getD j .undef
   | _=>.undef
 | .box g j=>match σ.hget g with
   | some (.box cs)=>cs.getD j .undef
   | _=>.undef
def St.Pc (σ:St) (v:PV):Pl→St
 | .slot i=>σ.set i v
 | .cell i j=>match σ.get i with
   | .agg cs=>σ.set i (.agg (cs.set j v))
   | _=>σ
 | .box g j=>match σ.hget g with
   | some (.box cs)=>σ.put g (.box (cs.set j v))
   | _=>σ
section
variable {P:Program} {E:Ent} {S0:Nat→Prop} {N:Nat} {σ:St} {a:Act} {w:World} {c:Ctx}
theorem Inv.LF (h:Inv P E S0 N σ a w c) {i:Nat} {v:PV} (hv:RV P w c v (a.tmps.getD i undef)):Inv P E S0 N (σ.set i v) a w c:=
 ⟨h.below,h.ok,h.sub,h.sup,fun k=>by
  rw [Fk]
  split
  ·rename_i e;subst e;exact hv
  ·exact h.slots k,h.fE,h.pin,h.small,h.size,h.defers⟩
theorem uV (cs:List PV) (j k:Nat) (v:PV):(cs.set j v)[k]?=if j=k∧k<cs.length then some v else cs[k]?:=by
 rw [List.getElem?_set]
 by_cases e:j=k
 ·subst e
  by_cases hl:j<cs.length
  ·simp [hl]
  ·simp [hl]
 ·simp [e]
theorem Inv.Pc (h:Inv P E S0 N σ a w c) {p:Pl} {v:PV} (hv:∀ x,RV P w c (σ.Ou p) x→RV P w c v x):Inv P E S0 N (σ.Pc v p) a w c:=by
 cases p with
 | slot i=>exact h.LF (hv _ (h.slots i))
 | cell i j =>
   simp only [St.Pc]
   split
   case h_2=>exact h
   rename_i cs hcs
   have hi:=h.slots i
   simp only [St.Ou,hcs] at hv
   rw [hcs] at hi
   refine h.LF ?_
   generalize a.tmps.getD i undef=X at hi
   have fin:∀ (vs:Array Value),vs.size=cs.length→(∀ i pv,cs[i]?=some pv→RV P w c pv (vs.getD i undef))→RV P w c (.agg (cs.set j v)) (.agg vs):=fun vs hn hr=>by
    refine .agg _ _ (by simpa using hn) fun k pv hk=>?_
    rw [uV] at hk
    split at hk
    ·rename_i e
     obtain ⟨rfl,hl⟩:=e
     injection hk with hk;subst hk
     have:=hr j _ (l8 hl)
     refine hv _ ?_
     rwa [m8,l8 hl]
    ·exact hr k pv hk
   cases hi with
   | free _ _ hf=>cases hf with
     | agg _ vs hn hr=>exact fin vs hn fun i pv hg=>.free _ _ (hr i pv hg)
   | agg _ vs hn hr=>exact fin vs hn hr
 | box g j =>
   simp only [St.Pc]
   split
   case h_2=>exact h
   rename_i cs hcs
   simp only [St.Ou,hcs] at hv
   refine ⟨h.below,h.ok,h.sub,h.sup,h.slots,fun g' o hg=>?_,h.pin,h.small,h.size,h.defers⟩
   rw [eH] at hg
   split at hg
   ·rename_i e;subst e
    injection hg with hg;subst hg
    obtain ⟨hD,vs,T,q1,q2,q3⟩:=h.fE _ _ hcs
    refine ⟨hD,vs,T,q1,by simpa using q2,fun k pv hk=>?_⟩
    rw [uV] at hk
    split at hk
    ·rename_i e
     obtain ⟨rfl,hl⟩:=e
     injection hk with hk;subst hk
     refine hv _ ?_
     have:=q3 j _ (l8 hl)
     rwa [m8,l8 hl]
    ·exact q3 k pv hk
   ·exact h.fE g' o hg
theorem Inv.empty (h:Inv P E S0 N σ a w c) {g e:Nat} {J:List (Nat×Nat)} (hg:g<PIN) (he:0<aJ P e):∃ c',Inv P E S0 N ((σ.kill (dU g)).put g (.row e J [])) a w c'∧RV P w c' (.row (.top g) e) (.slice none 0 0):=by
 let c':=c.lay g 0 (.slice none 0 0) e False
 have hhd:c'.hd (.top g)=.slice none 0 0:=dP.2.1
 have hrep:oW P w c' g (.row e J []):=⟨[],dP.2.2.1,he,by simp,by rw [hhd];exact World.ownsRow_nil w 0 e _,fun b hb=>by rw [hhd] at hb;simp [Value.ownBlock] at hb,by simp [dV],by simp [dV]⟩
 refine ⟨c', ?_, ?_⟩
 ·refine h.step (dU g) (fun x=>x=g) h.below (Iz h.ok (v7 _) (fun q=>q.elim) fun q=>q.elim) (fun _ _=>rfl) (fun _ h=>h) h.sup (fun k hk hp=>?_) (fun k hk=>kO (lS.1 hk)) (fun k hk hx=>⟨rfl,(Gr hx).2 hk⟩) (fun k hk=>gE.1 hk) rfl (fun g' o hx hg'=>?_) fun g' o hx hg'=>?_
  ·have:=gE.1 hp;omega
  ·rw [eH,if_neg hx] at hg';exact hg'
  ·replace hx:g'=g:=hx
   subst hx
   rw [eH,if_pos rfl] at hg'
   injection hg' with hg';subst hg'
   exact hrep
 ·obtain ⟨xs',r'⟩:=hrep
  have:=RV.row (P:=P) (w:=w) (c:=c') (.top g) e r'.ty r'.Bk
  rwa [hhd] at this
end
inductive BL where
 | frz (g:Nat)
 | row (p:Pl) (g e:Nat) (J:List (Nat×Nat))
 | soft (p:Pl)
 | drop (p:Pl)
 | jrow (g:Nat) (J:List (Nat×Nat))
def St.SP (P:Program) (σ:St):BL→Option St
 | .frz g=>if H8 g PIN=true then (match σ.hget g with
   | some (.row _ _ es)=>some (σ.frz g (.sl es))
   | some (.map m)=>some (σ.frz g (.fmap m))
   | _=>none) else none
 | .row p g e J=>if (H8 g PIN&&H8 0 (aJ P e)&&(σ.hget g).isNone)=true then (match σ.Ou p with
   | .nl=>some (((σ.kill (dU g)).put g (.row e J [])).Pc (.row (.top g) e) p)
   | _=>none) else none
 | .soft p=>match σ.Ou p with
   | .nl=>some (σ.Pc (.sl []) p)
   | _=>none
 | .drop p=>some (σ.Pc .undef p)
 | .jrow g J=>match σ.hget g with
   | some (.row e [] [])=>some (σ.put g (.row e J []))
   | _=>none
def St.FJ (P:Program) (σ:St):List BL→Option St
 | []=>some σ
 | x::l=>match σ.SP P x with
   | some σ'=>σ'.FJ P l
   | none=>none
theorem GZ {σ:St} {g:Nat} {o:HO} {p:Pl} (h:σ.Ou p=.nl) (hg:σ.hget g=none):((σ.kill (dU g)).put g o).Ou p=.nl:=by
 cases p with
 | slot i=>simp only [St.Ou] at h ⊢;rw [CC,Jy,h];rfl
 | cell i j =>
   simp only [St.Ou] at h ⊢
   rw [CC,Jy]
   split at h
   ·rename_i cs hcs
    rw [hcs]
    simp only [PV.kill]
    have:∀ (l:List PV) (j:Nat),l.getD j .undef=.nl→(PV.uC (dU g) l).getD j .undef=.nl:=by
     intro l
     induction l with
     | nil=>intro j h;simp at h
     | cons x l ih =>
       intro j h
       cases j with
       | zero=>simp at h;subst h;rfl
       | succ j=>simpa [PV.uC] using ih j (by simpa using h)
    exact this cs j h
   ·cases h
 | box g' j =>
   simp only [St.Ou] at h ⊢
   split at h
   ·rename_i cs hcs
    have hne:g'≠g:=by rintro rfl;rw [hg] at hcs;cases hcs
    rw [eH,if_neg hne,Aq,if_neg (by rw [gE];exact hne),hcs]
    simp only [s8,HO.kill]
    have:∀ (l:List PV) (j:Nat),l.getD j .undef=.nl→(PV.uC (dU g) l).getD j .undef=.nl:=by
     intro l
     induction l with
     | nil=>intro j h;simp at h
     | cons x l ih =>
       intro j h
       cases j with
       | zero=>simp at h;subst h;rfl
       | succ j=>simpa [PV.uC] using ih j (by simpa using h)
    exact this cs j h
   ·cases h
theorem IY {P:Program} {σ σ':St} {x:BL} (h:σ.SP P x=some σ'):gG P σ' σ:=by
 intro E S0 N a w c hi
 unfold St.SP at h
 split at h
 ·rename_i g
  split at h
  case isFalse=>cases h
  rename_i hg
  split at h
  ·rename_i e J es ho
   injection h with h;subst h
   exact hi.freeze (by simpa using hg) (.inl ⟨e,J,es,ho,rfl⟩)
  ·rename_i m ho
   injection h with h;subst h
   exact hi.freeze (by simpa using hg) (.inr ⟨m,ho,rfl⟩)
  ·cases h
 ·rename_i p g e J
  split at h
  case isFalse=>cases h
  rename_i hg
  simp only [o8,Option.isNone_iff_eq_none] at hg
  obtain ⟨⟨hg,he⟩,hn⟩:=hg
  split at h
  case h_2=>cases h
  rename_i hp
  injection h with h;subst h
  obtain ⟨c',hi',hr⟩:=hi.empty (J:=J) (by simpa using hg) (show 0<aJ P e by simpa using he)
  refine ⟨c',hi'.Pc fun x hx=>?_⟩
  rw [GZ hp hn] at hx
  rw [hx.RQ];exact hr
 ·rename_i p
  split at h
  case h_2=>cases h
  rename_i hp
  injection h with h;subst h
  refine ⟨c,hi.Pc fun x hx=>?_⟩
  rw [hp] at hx
  rw [hx.RQ];exact .free _ _ (RF.Tj w _)
 ·rename_i p
  injection h with h;subst h
  exact ⟨c,hi.Pc fun x _=>.free _ _ (.undef _)⟩
 ·rename_i g J
  split at h
  case h_2=>cases h
  rename_i e ho
  injection h with h;subst h
  refine ⟨c,hi.below,hi.ok,hi.sub,hi.sup,hi.slots,fun g' o hg=>?_,hi.pin,hi.small,hi.size,hi.defers⟩
  rw [eH] at hg
  split at hg
  ·rename_i q
   injection hg with hg
   subst hg q
   obtain ⟨xs,r⟩:=hi.fE _ _ ho
   exact ⟨xs,r.ty,r.pos,r.len,r.own,r.blk,r.one,fun i j pv hg=>by simp [dV] at hg⟩
  ·exact hi.fE _ _ hg
theorem Ls {P:Program}:∀ {l:List BL} {σ σ':St},σ.FJ P l=some σ'→gG P σ' σ
 | [],σ,σ',h=>by injection h with h;subst h;exact Db _
 | x::l,σ,σ',h=>by
   simp only [St.FJ] at h
   split at h
   ·rename_i σ1 h1
    exact Lt (Ls h) (IY h1)
   ·cases h
def St.Ya (P:Program) (l:List BL) (σ:St):St:=(σ.FJ P l).getD ⟨[],[]⟩
theorem BD {P:Program} (l:List BL) (R:TL) {X σe:St} (hp:(X.FJ P l).isSome=true) (h1:R.okB=true) (h2:KW R=true) (h:atS σe ((X.Ya P l).ren R)=asS σe):gG P σe X:=by
 obtain ⟨σ1,hs⟩:=u9.1 hp
 unfold St.Ya at h
 rw [hs] at h
 refine Lt ?_ (Ls hs)
 intro E S0 N a w c hi
 obtain ⟨c',hi'⟩:=hi.ren h1 h2
 exact ⟨c',Rw (CX h) hi'⟩
theorem Og {P:Program} (R:TL) {X σe:St} (h1:R.okB=true) (h2:KW R=true) (h:atS σe (X.ren R)=asS σe):gG P σe X:=BD [] R rfl h1 h2 h
section
variable {G:Prg} {cd:Code} {σ:St} {K:PX→St→Prop}
theorem Rt {σ':St} (hs:gG G.P σ' σ) (h:SEM G cd σ' K):SEM G cd σ K:=fun E S0 N a w c hd hi=>by
 obtain ⟨c',hi'⟩:=hs hi
 exact h E S0 N a w c' hd hi'
theorem EE {ops:Array Oper} {k:Nat} {K:St→Prop} {σ':St} (hs:gG G.P σ' σ) (h:EVS G ops k σ' K):EVS G ops k σ K:=fun E S0 N a w c hd hi=>by
 obtain ⟨c',hi'⟩:=hs hi
 exact h E S0 N a w c' hd hi'
def LKR (P:Program) {S R:Type} (emb:S→St) (out:R→PX×St) (t:S ⊕ R) (px:PX) (τ:St):Prop:=match t with
 | .inl s'=>px=.normal∧gG P (emb s') τ
 | .inr r=>px=(out r).1∧gG P (out r).2 τ
theorem NX {S R:Type} (emb:S→St) (out:R→PX×St) (body:S→Option (S ⊕ R)) (s:S) (r:R) (hk:knd cd=6) (h0:gG G.P (emb s) σ) (h:aM body s=some r)
  (hbody:∀ s t,body s=some t→SEM G (cL cd) (emb s) (LKR G.P emb out t)) (hout:∀ r,(out r).1≠.normal) (hK:∀ τ,gG G.P (out r).2 τ→K (out r).1 τ):SEM G cd σ K:=by
 refine Rt h0 ?_
 cases cd <;> simp [knd] at hk
 ·rename_i b;cases b <;> simp [knd] at hk
 rename_i x
 intro E S0 N a w c hd hi
 obtain ⟨n,hn⟩:=Nu.1 h
 refine wp_loop_rounds n ?_
 clear h0 h
 induction n generalizing s a w c with
 | zero=>cases hn
 | succ n ih =>
   simp only [Kb] at hn
   rw [rounds_succ]
   cases hb:body s with
   | none=>rw [hb] at hn;cases hn
   | some t =>
     rw [hb] at hn
     refine wp_mono (hbody s t hb E S0 N a w c (by rw [Ec] at hd;exact hd) hi) fun e a' w' he=>?_
     obtain ⟨px,σ',c',hl,hk,hi⟩:=he
     cases t with
     | inl s' =>
       obtain ⟨rfl,hs⟩:=hk
       cases e <;> simp only [PX.like] at hl
       obtain ⟨c2,hi2⟩:=hs.inv hi
       exact ih s' _ _ _ hi2 hn
     | inr r' =>
       simp only [n9] at hn
       subst hn
       obtain ⟨he,hs⟩:=hk
       have hne:=hout r'
       have hfin:=hK σ' hs
       rw [← he] at hne hfin
       cases px <;> cases e <;> simp only [PX.like] at hl
       ·exact absurd rfl hne
       ·subst hl;exact ⟨.exit _,σ',c',rfl,hfin,hi⟩
       ·exact ⟨.ret,σ',c',trivial,hfin,hi⟩
end
end Go.VI
namespace Go.VI
open Go.RowKit
abbrev vI (n:Int):PV:=.lit (.int .i64 n)
abbrev vK (k:IntKind) (n:Int):PV:=.lit (.int k n)
abbrev vB (b:Bool):PV:=.lit (.bool b)
abbrev vS (s:ByteArray):PV:=.lit (.string s)
abbrev vU:PV:=.lit undef
def cI (n:Int):List PV:=[vI n]
def cB (b:Bool):List PV:=[vB b]
def ZV (s:ByteArray):List PV:=[vS s]
def cS {α:Type} (c:α→List PV) (l:List α):List PV:=[.sl (l.map c)]
theorem MQ {α:Type} {b:Bool} {x:Option α} {r:α} (h:(if b then x else none)=some r):b=true∧x=some r:=by
 split at h
 ·exact ⟨by assumption,h⟩
 ·cases h
section
variable {G:Prg} {P:Program} {cd:Code} {σ τ X:St} {K:PX→St→Prop}
theorem here {σe X:St} (h:atS σe X=asS σe):gG P σe X:=FZ (CX h)
theorem AI {σe:St} (hτ:gG P X τ) (h:gG P σe X):gG P σe τ:=Lt h hτ
theorem Hj {b:Code} (hτ:gG G.P X τ) (σ':St) (h:gG G.P σ' X) (next:SEM G b σ' K):Kl G b K .normal τ:=Rt (AI hτ h) next
theorem NV (i:Nat) (hk:knd cd=7) (hi:cId cd=i) (next:∀ τ,gG G.P σ τ→K (.exit i) τ):SEM G cd σ K:=TD i hk hi (next _ (Db _))
theorem FQ (hk:knd cd=8) (next:∀ τ,gG G.P σ τ→K .ret τ):SEM G cd σ K:=WQ hk (next _ (Db _))
theorem IM (hk:knd cd=11) (next:∀ τ,gG G.P σ τ→K .normal τ):SEM G cd σ K:=NW hk (next _ (Db _))
theorem Th (hk:knd cd=0) (next:∀ τ,gG G.P σ τ→K .normal τ):SEM G cd σ K:=TG hk (next _ (Db _))
theorem Qq {ops:Array Oper} {k:Nat} {K:St→Prop} (h:E6 ops.size k=true) (next:∀ τ,gG G.P σ τ→K τ):EVS G ops k σ K:=VL h (next _ (Db _))
theorem PY {ops:Array Oper} {k:Nat} {K:St→Prop} (h:E6 ops.size k=true) (next:∀ τ,gG G.P σ τ→K τ):EVO G ops k σ K:=VH h (next _ (Db _))
theorem QC {ops:Array Oper} {k:Nat} {K K':St→Prop} (hk:∀ τ,K' τ→K τ) (h:EVS G ops k σ K'):EVS G ops k σ K:=fun E S0 N a w c hd hi Q hn=>h E S0 N a w c hd hi Q fun σ' a' w' c' hK hI=>hn σ' a' w' c' (hk _ hK) hI
theorem MK {ops:Array Oper} {k:Nat} {K:St→Prop} (b:Bool) (σf:Bool→St) (h:atS (σf b) σ=asS (σf b)) (ht:b=true→EVS G ops k (σf true) K) (hf:b=false→EVS G ops k (σf false) K):EVS G ops k σ K:=by
 refine VM _ h ?_
 cases b
 ·exact hf rfl
 ·exact ht rfl
theorem eT {σe:St} (hτ:gG P X τ) (h:gG P σe X):gG P σe τ:=Lt h hτ
theorem FP (σj:St) (hk:knd cd=1) (h:EVS G (vM cd) 0 σ (fun τ=>gG G.P σj τ)) (next:∀ τ,gG G.P σj τ→K .normal τ):SEM G cd σ K:=Cv hk (QC next h)
theorem NU (σj:St) (T F rd av fv:List (Nat×List Nat)) (m:Nat) (hk:knd cd=2) (hok:Mj (vM cd) T F rd av fv m=true) (L:List Nat) (hL:L.all (fun g=>H8 g PIN)=true) (hF:F.all (fun x=>inL x.2 L)=true)
  (h:EVD G (vM cd) ⟨lst T,lst F,lst rd,lst av,lst fv⟩ m 0 (σ.kill (Ce L)) fun σ'=>EVO G (vM cd) m σ' (fun τ=>gG G.P σj τ)) (next:∀ τ,gG G.P σj τ→K .normal τ):SEM G cd σ K:=
 kF T F rd av fv m hk hok L hL hF (PS (fun _ q=>PZ next q) h)
theorem Kd {S R:Type} {emb:S→St} {out:R→PX×St} {s':S} (hτ:gG P X τ) (h:gG P (emb s') X):LKR P emb out (.inl s') .normal τ:=⟨rfl,AI hτ h⟩
theorem sS {S R:Type} {emb:S→St} {out:R→PX×St} {r:R} {px:PX} (hτ:gG P X τ) (e:(out r).1=px) (h:gG P (out r).2 X):LKR P emb out (.inr r) px τ:=⟨e.symm,AI hτ h⟩
def isN:PX→Bool
 | .normal=>true
 | _=>false
theorem NY {S R:Type} (emb:S→St) (out:R→PX×St) (body:S→Option (S ⊕ R)) (s:S) (r:R) (hk:knd cd=6) (h0:gG G.P (emb s) σ) (h:aM body s=some r)
  (hbody:∀ s t,body s=some t→SEM G (cL cd) (emb s) (LKR G.P emb out t)) (hout:∀ r,isN (out r).1=false) (hK:∀ τ,gG G.P (out r).2 τ→K (out r).1 τ):SEM G cd σ K:=
 NX emb out body s r hk h0 h hbody (fun r e=>by have:=hout r;rw [e] at this;cases this) hK
def JK (P:Program) {J T:Type} (σj:J→St) (kN:J→Option T) (t:T) (K:PX→St→Prop):PX→St→Prop
 | .normal,τ=>∃ j,kN j=some t∧gG P (σj j) τ
 | .exit i,τ=>K (.exit i) τ
 | .ret,τ=>K .ret τ
theorem aP {J T:Type} {σj:J→St} {kN:J→Option T} {t:T} (j:J) (h:kN j=some t) (hτ:gG P X τ) (hs:gG P (σj j) X):JK P σj kN t K .normal τ:=⟨j,h,AI hτ hs⟩
theorem Iy {J T:Type} {σj:J→St} {kN:J→Option T} {t:T} (h:K .ret τ):JK P σj kN t K .ret τ:=h
theorem bR {J T:Type} (σj:J→St) (kN:J→Option T) (t:T) (hk:knd cd=3) (hrest:∀ j,kN j=some t→SEM G (cR cd) (σj j) K) (hfirst:SEM G (cL cd) σ (JK G.P σj kN t K)):SEM G cd σ K:=by
 refine Ob hk (TE (fun px τ h=>?_) hfirst)
 cases px with
 | normal=>obtain ⟨j,hj,hs⟩:=h;exact Rt hs (hrest j hj)
 | exit i=>exact h
 | ret=>exact h
def RK (P:Program) (l:List ResultVar) (r:PV) (H1:HP) (x:PX) (σ:St):Prop:=(match x with | .exit _=>False | _=>True)∧∃ σ0,gG P σ0 σ∧HZ P σ0 l=some r∧∀ g o,H1.get g=some o→σ0.hget g=some o
theorem Mx {l:List ResultVar} {r:PV} {H1:HP} (hτ:gG P X τ) (s:SL) (hs:gG P ⟨s,H1⟩ X) (h:HZ P ⟨s,H1⟩ l=some r):RK P l r H1 .ret τ:=⟨trivial,⟨s,H1⟩,AI hτ hs,h,fun _ _ h=>h⟩
theorem fC {l:List ResultVar} {r:PV} {H1:HP} (hτ:gG P X τ) (s:SL) (hs:gG P ⟨s,H1⟩ X) (h:HZ P ⟨s,H1⟩ l=some r):RK P l r H1 .normal τ:=⟨trivial,⟨s,H1⟩,AI hτ hs,h,fun _ _ h=>h⟩
theorem TF (l:List BL) (hp:(σ.FJ G.P l).isSome=true) (next:SEM G cd (σ.Ya G.P l) K):SEM G cd σ K:=by
 obtain ⟨σ1,hs⟩:=u9.1 hp
 unfold St.Ya at next
 rw [hs] at next
 exact Rt (Ls hs) next
theorem xW {ops:Array Oper} {k:Nat} {Q:St→Prop} (l:List BL) (hp:(σ.FJ G.P l).isSome=true) (next:EVS G ops k (σ.Ya G.P l) Q):EVS G ops k σ Q:=by
 obtain ⟨σ1,hs⟩:=u9.1 hp
 unfold St.Ya at next
 rw [hs] at next
 exact EE (Ls hs) next
theorem TI {α:Type} {l:List α} {i:Nat} {x y:α} (h:l[i]?=some x):(l.set i y)[i]?=some y:=by
 have:=(m9.1 h).1
 simp [this]
def Wb (ops:Array Oper) (k:Nat) (σ:St):Option (Nat×List PV):=match Bs ops k σ with
 | some o=>oD σ o.op
 | none=>none
theorem Hv {ops:Array Oper} {k f:Nat} {args:List PV} (h:Wb ops k σ=some (f,args)):∃ o,Eg ops k=some o∧lY ops σ o=some true∧oD σ o.op=some (f,args):=by
 unfold Wb at h
 split at h
 ·rename_i o ho
  obtain ⟨h1,h2⟩:=fH ho
  exact ⟨o,h1,h2,h⟩
 ·cases h
def Ji (ops:Array Oper) (k:Nat) (σ:St) (R:TL) (vis:List Nat):Option (Nat×List PV):=match Wb ops k σ with
 | some (f,args)=>some (f,PV.qD R (σ.h.only vis) DEEP args)
 | none=>none
theorem Pj {ops:Array Oper} {k:Nat} {R:TL} {vis:List Nat} {f:Nat} {qs:List PV} (h:Ji ops k σ R vis=some (f,qs)):∃ args,Wb ops k σ=some (f,args)∧PV.qD R (σ.h.only vis) DEEP args=qs:=by
 unfold Ji at h
 split at h
 ·rename_i f' args hc
  simp only [n9,Prod.mk.injEq] at h
  obtain ⟨rfl,rfl⟩:=h
  exact ⟨args,hc,rfl⟩
 ·cases h
def Lu (R N:TL) (vis:List Nat):Bool:=R.okB&&(R++N).okB&&R.all (fun x=>H8 x.2 PIN || E6 PIN x.1)&&N.all (fun x=>H8 x.2 PIN)&&vis.all (fun g=>(R.inn g).isNone)
theorem HS {R N:TL} {t g:Nat}:(R++N).out t=some g→R.out t=some g∨(R.out t=none∧N.out t=some g):=by
 induction R with
 | nil=>intro h;exact .inr ⟨rfl,h⟩
 | cons x R ih =>
   obtain ⟨t0,g0⟩:=x
   simp only [K8,TL.out]
   split
   ·intro h;exact .inl h
   ·exact ih
theorem CQ {R N:TL} {t g:Nat} (h:R.out t=some g):(R++N).out t=some g:=by
 induction R with
 | nil=>cases h
 | cons x R ih =>
   obtain ⟨t0,g0⟩:=x
   simp only [K8,TL.out] at h ⊢
   split
   ·rename_i e;rw [if_pos e] at h;exact h
   ·rename_i e;rw [if_neg e] at h;exact ih h
theorem KS:∀ {N:TL} {t g:Nat},N.out t=some g→(t,g) ∈ N
 | [],_,_,h=>nomatch h
 | (t0,g0)::N,t,g,h=>by
   simp only [TL.out] at h
   split at h
   ·rename_i e
    injection h with h
    rw [t7 e,h];simp
   ·exact List.mem_cons_of_mem _ (KS h)
theorem DL {ops:Array Oper} {k:Nat} {o:Oper} (ho:Eg ops k=some o) {Q:St→Prop} (R N:TL) (vis:List Nat) {f:Nat} {args qs:List PV} {H0:HP} {r:PV} {H1:HP} (pc:PC P f qs H0 r H1) (ht:Lu R N vis=true)
  (hq:PV.qD R (σ.h.only vis) DEEP args=qs) (hH:handed R (σ.h.only vis) σ.h R=H0) (ind:vis=[]∨(r.ind=true∧∀ g o,H1.get g=some o→o.ind))
  (next:Q (mU (after (R++N) ((R.filter fun x=>E6 PIN x.1).map (·.2)) σ H1) (fX ops k) (r.ren (R++N)))):DA P f args o.dst σ R (R++N) vis qs H0 r H1 Q:=by
 simp only [Lu,o8] at ht
 obtain ⟨⟨⟨⟨h1,h2⟩,h3⟩,h4⟩,h5⟩:=ht
 rw [tC ho] at next
 refine ⟨pc,h1,h2,fun t g h=>CQ h,fun t g h=>?_,h5,hq,hH,ind,next⟩
 rcases HS h with h | ⟨hn,h⟩
 ·left
  refine ⟨h,fun hp=>?_⟩
  have:=p7.1 h3 _ (Vf ((TL.lH h1).1 h))
  simp only [F6] at this
  rcases this with q | q
  ·have:g<PIN:=by simpa using q
   omega
  ·exact J3 q
 ·right
  refine ⟨hn, ?_⟩
  have:=KS h
  have:=p7.1 h4 _ this
  simpa using this
theorem nE {ops:Array Oper} {k:Nat} {Q:St→Prop} (R N:TL) (vis:List Nat) {f:Nat} {qs:List PV} {H0:HP} {r:PV} {H1:HP} (hc:Ji ops k σ R vis=some (f,qs)) (pc:PC G.P f qs H0 r H1) (ht:Lu R N vis=true)
  (hH:handed R (σ.h.only vis) σ.h R=H0) (ind:vis=[]∨(r.ind=true∧∀ g o,H1.get g=some o→o.ind))
  (next:EVS G ops (k+1) (mU (after (R++N) ((R.filter fun x=>E6 PIN x.1).map (·.2)) σ H1) (fX ops k) (r.ren (R++N))) Q):EVS G ops k σ Q:=by
 obtain ⟨args,hc,hq⟩:=Pj hc
 obtain ⟨o,h1,h2,h3⟩:=Hv hc
 exact MJ h1 h2 h3 (DL h1 R N vis pc ht hq hH ind next)
theorem MI {ops:Array Oper} {k:Nat} {Q:St→Prop} (R N:TL) (vis:List Nat) {f:Nat} {qs:List PV} {H0:HP} {r:PV} {H1:HP} (hc:Ji ops k σ R vis=some (f,qs)) (pc:PC G.P f qs H0 r H1) (ht:Lu R N vis=true)
  (hH:handed R (σ.h.only vis) σ.h R=H0) (ind:vis=[]∨(r.ind=true∧∀ g o,H1.get g=some o→o.ind))
  (next:EVO G ops (k+1) (mU (after (R++N) ((R.filter fun x=>E6 PIN x.1).map (·.2)) σ H1) (fX ops k) (r.ren (R++N))) Q):EVO G ops k σ Q:=by
 obtain ⟨args,hc,hq⟩:=Pj hc
 obtain ⟨o,h1,h2,h3⟩:=Hv hc
 exact MH h1 h2 h3 (DL h1 R N vis pc ht hq hH ind next)
def Qp (N:TL) (vis F rd:List Nat):Bool:=N.okB&&N.all (fun x=>H8 x.2 PIN)&&N.all (fun x=>F.any fun y=>E4 y x.2)&&inL vis rd
theorem tD {ops:Array Oper} {D:DD} {m k:Nat} {Q:St→Prop} (N:TL) (vis:List Nat) {f:Nat} {qs:List PV} {r:PV} {H1:HP} (hm:E6 m k=false) (hc:Ji ops k σ [] vis=some (f,qs)) (pc:PC G.P f qs [] r H1) (ht:Qp N vis (D.F k) (D.rd k)=true)
  (ind:vis=[]∨(r.ind=true∧∀ g o,H1.get g=some o→o.ind)) (hav:avB ops k (D.av k) σ=true)
  (hT:(inL ((H1.ren N).map (·.1)) (D.T k)&&eK (D.fv k) (r.ren N)&&(H1.ren N).all fun x=>!((D.fv k).any fun y=>E4 y x.1)&&x.2.Cd (D.fv k))=true)
  (next:EVD G ops D m (k+1) (mU ⟨σ.s,H1.ren N++σ.h⟩ (fX ops k) (r.ren N)) Q):EVD G ops D m k σ Q:=by
 obtain ⟨args,hc,hq⟩:=Pj hc
 obtain ⟨o,h1,h2,h3⟩:=Hv hc
 simp only [Qp,o8] at ht
 obtain ⟨⟨⟨t1,t2⟩,t3⟩,t4⟩:=ht
 simp only [o8] at hT
 exact ED hm h1 h2 h3 pc t1 t2 t3 t4 hq ind hav hT.1.1 (by rw [o8];exact ⟨hT.1.2,hT.2⟩) next
end
def Si (fn:Func):Code:=fn.body.getD .skip
section
variable (G:Prg) {f:FuncId} {fn:Func} {args:List PV} {H0:HP} {r:PV} {H1:HP}
theorem A6 (hf:G.P.funcs[f]?=some fn) (hb:fn.body.isSome=true) (hname:(fn.name == "runtime.NumGoroutine")=false)
  (hd:Ec fn.ntmps (Si fn)=true) (hl:E6 args.length fn.ntmps=true) (hN:E6 fn.ntmps PIN=true) (h:SEM G (Si fn) ⟨Mq 0 args,H0⟩ (RK G.P fn.results.toList r H1)):PC G.P f args H0 r H1:=by
 obtain ⟨cd,hcd⟩:=u9.1 hb
 have e:Si fn=cd:=by unfold Si;rw [hcd];rfl
 rw [e] at hd h
 have hl:=J3 hl
 have hN:=J3 hN
 refine ⟨by unfold enters;simp [hf,hcd,hname],fun w c vals heg hok hobj hlen hrep=>?_⟩
 refine calls_of_wp hf hcd ?_
 have hsz:(vals.toArray++N6 (fn.ntmps-vals.toArray.size) undef).size=fn.ntmps:=by simp;omega
 have inv:Inv G.P ⟨w,fun b=>w.heap.size≤b∨∃ k,c.D k∧c.τ k=b,fun _ h=>.inl h,c⟩ c.S fn.ntmps ⟨Mq 0 args,H0⟩ { tmps:=vals.toArray++N6 (fn.ntmps-vals.toArray.size) undef,defers:=[] } w c:=by
  refine ⟨⟨rfl,rfl,rfl,v7 _,fun _ _ _=>rfl⟩,⟨hok.hS,fun k hk=>⟨.inr ⟨k,hk,rfl⟩,(hok.hD k hk).2⟩,hok.inj⟩,fun _ h=>h,fun _ h=>.inl h,fun i=>?_,hobj,fun g _=>Agree.refl c _,⟨hN,heg⟩,hsz,rfl⟩
  show RV G.P w c ((Mq 0 args).get i) _
  rw [HF]
  simp only [Nat.zero_le,if_true,Nat.sub_zero]
  cases hi:args[i]? with
  | none=>exact .free _ _ (.undef _)
  | some pv =>
    have hlt:i<vals.length:=by
     rw [hlen]
     exact cV hi
    have:=hrep i pv hi
    simp only [Option.getD_some]
    rw [Array.getD_eq_getD_getElem?,Array.getElem?_append_left (by simpa using hlt)]
    simpa [m8] using this
 refine wp_mono (h _ _ _ _ _ _ hd inv) fun e a' w' he=>?_
 obtain ⟨px,σ',c',hl,⟨hk1,σ0,hs,hk2,hk3⟩,hi⟩:=he
 obtain ⟨c2,hi⟩:=hs.inv hi
 obtain ⟨v,q1,q2⟩:=WJ hi hk2
 have fin:bodyPost G.P fn (fun e w'=>∃ v c',e=.returned v∧Ent.Fr ⟨w,fun b=>w.heap.size≤b∨∃ k,c.D k∧c.τ k=b,fun _ h=>.inl h,c⟩ w'∧(∀ b,c.S b→c'.S b)∧(∀ b,c'.S b→c.S b∨w.heap.size≤b∨∃ k,c.D k∧c.τ k=b) ∧
   c'.Ok (fun b=>w.heap.size≤b∨∃ k,c.D k∧c.τ k=b) w'∧Pinned c c'∧RV G.P w' c' r v∧∀ g o,H1.get g=some o→oW G.P w' c' g o) .ret a' w':=
  ⟨hi.defers,v,q1,v,c2,rfl,hi.below,hi.sub,hi.sup,hi.ok,hi.pin,q2,fun g o hg=>hi.fE g o (hk3 g o hg)⟩
 cases px <;> cases e <;> simp only [PX.like] at hl
 ·exact fin
 ·exact hk1.elim
 ·exact fin
end
theorem RI {α:Type} {c:α→List PV} {l:List α} (h:∀ x,(c x).all (fun p=>match p with | .lit _=>true | _=>false)=true):YB (l.map c):=by
 intro i j p hg
 unfold dV at hg
 rw [List.getElem?_map] at hg
 cases hi:l[i]? with
 | none=>rw [hi] at hg;simp at hg
 | some x =>
   rw [hi] at hg
   simp only [s8,i9] at hg
   have:=p7.1 (h x) p (List.mem_of_getElem? hg)
   cases p <;> simp at this
   exact ⟨_,rfl⟩
theorem qE {α:Type} {c:α→List PV} {l:List α} {e:Nat} (h:∀ x,(c x).all (fun p=>match p with | .lit _=>true | _=>false)=true):HO.ind (.row e [] (l.map c)):=fun i j p hg=>.inl ⟨rfl,RI h i j p hg⟩
theorem rN {g:Nat} {o:HO}:HP.get [] g=some o→o.ind:=fun h=>nomatch h
theorem jH {t g:Nat} {o ob:HO} {H:HP} (h:ob.ind) (hH:∀ g o,HP.get H g=some o→o.ind):HP.get ((t,ob)::H) g=some o→o.ind:=fun hg=>by
 simp only [HP.get] at hg
 split at hg
 ·injection hg with hg;subst hg;exact h
 ·exact hH g o hg
end Go.VI
namespace Go.VI
end Go.VI
namespace Go.VI
open Go.RowKit Go.ChangeShapes
def RFl (w:World) (S:Nat→Prop) (ps:List PV) (vs:List Value):Prop:=ps.length=vs.length∧∀ (i:Nat) p,ps[i]?=some p→RF w S p (vs.getD i undef)∧(vs.getD i undef).oneCell'=true
theorem Ho {w:World} {S:Nat→Prop} {vs:List Value} (h:vs.length=0):RFl w S [] vs:=⟨h.symm,by simp⟩
theorem eC {w:World} {S:Nat→Prop} {p q:List PV} {vs:List Value} {o n:Nat} (h1:RFl w S p ((vs.drop o).take n)) (hn:p.length=n) (h2:RFl w S q (vs.drop (o+n))):RFl w S (p++q) (vs.drop o):=by
 obtain ⟨a1,a2⟩:=h1
 obtain ⟨b1,b2⟩:=h2
 have hl:o+n≤vs.length∨n=0:=by simp at a1;omega
 refine ⟨by simp at a1 b1 ⊢;omega,fun i x hx=>?_⟩
 by_cases hi:i<p.length
 ·rw [x6 hi] at hx
  have:=a2 i x hx
  rw [m8,D9,if_pos (by omega)] at this
  rwa [m8]
 ·rw [x8 (by omega)] at hx
  have:=b2 _ x hx
  rw [m8,E8] at this
  rw [m8,E8]
  rwa [show o+n+(i-p.length)=o+i from by omega] at this
def Rd {α:Type} (P:Program) (t:TypeId) (c:α→List PV) (R:α→Prop):Prop:=
 ∀ {H:Type} {enc:TypeId×Value→H} {W:World} {sp:Nat→Bool} {fuel:Nat} {cs:List Value} {x:DataW H×List MemPlace},DataW.trod enc P W 0 sp true fuel t cs=some x→∃ a:α,R a∧RFl W (fun b=>b<W.heap.size) (c a) cs
def R64 (n:Int):Prop:=-9223372036854775808≤n∧n≤9223372036854775807
def RT {α:Type} (_:α):Prop:=True
section
variable {P:Program} {t:TypeId}
theorem Rm {W:World} {S:Nat→Prop} {p:PV} {v:Value} (h:RF W S p v) (h1:v.oneCell'=true):RFl W S [p] [v]:=⟨rfl,fun i q hq=>by
 cases i with
 | zero=>simp at hq;subst hq;exact ⟨h,h1⟩
 | succ i=>simp at hq⟩
theorem mapM_some {α β:Type} {f:α→Option β}:∀ {l:List α} {ys:List β},l.mapM f=some ys→ys.length=l.length∧∀ i:Nat,(l[i]?).bind f=ys[i]?
 | [],ys,h=>by simp at h;subst h;simp
 | x::l,ys,h=>by
   rw [List.mapM_cons] at h
   simp only [bind,Option.bind_eq_some_iff] at h
   obtain ⟨y,hy,zs,hz,he⟩:=h
   simp only [pure,n9] at he
   subst he
   obtain ⟨h1,h2⟩:=mapM_some hz
   refine ⟨by simp [h1],fun i=>?_⟩
   cases i with
   | zero=>simp [hy]
   | succ i=>simpa using h2 i
theorem ZC (hu:P.underlying t=some (.int .i64)):Rd P t cI R64:=by
 intro H enc W sp fuel cs x h
 cases fuel with
 | zero=>simp [DataW.trod] at h
 | succ fuel =>
   unfold DataW.trod at h
   rw [hu] at h
   split at h <;> first | (rename_i he;simp at he;done) | skip
   ·rename_i k0 k' n he
    simp only [n9,TypeDesc.int.injEq] at he
    subst he
    split at h
    ·rename_i hk
     obtain ⟨rfl,hw⟩:=hk
     refine ⟨n, ?_,Rm (.lit _) rfl⟩
     simp [Lit.wf,IntKind.has,R3,Q4,O9,P9] at hw
     exact hw
    ·cases h
   ·cases h
theorem WK (hu:P.underlying t=some .bool):Rd P t cB RT:=by
 intro H enc W sp fuel cs x h
 cases fuel with
 | zero=>simp [DataW.trod] at h
 | succ fuel =>
   unfold DataW.trod at h
   rw [hu] at h
   split at h <;> first | (rename_i he;simp at he;done) | skip
   ·rename_i b he
    exact ⟨b,trivial,Rm (.lit _) rfl⟩
   ·cases h
theorem ZD (hu:P.underlying t=some .string):Rd P t ZV RT:=by
 intro H enc W sp fuel cs x h
 cases fuel with
 | zero=>simp [DataW.trod] at h
 | succ fuel =>
   unfold DataW.trod at h
   rw [hu] at h
   split at h <;> first | (rename_i he;simp at he;done) | skip
   ·rename_i s he
    exact ⟨s,trivial,Rm (.lit _) rfl⟩
   ·cases h
theorem Au {fs:Array Field} (hu:P.underlying t=some (.struct fs)) {H:Type} {enc:TypeId×Value→H} {W:World} {sp:Nat→Bool} {fuel:Nat} {cs:List Value} {x:DataW H×List MemPlace} (h:DataW.trod enc P W 0 sp true fuel t cs=some x) :
  cs.length=P.cellsOf t∧∀ f ∈ fs.toList,∃ fu y,DataW.trod enc P W 0 sp true fu f.type ((cs.drop f.offset).take (P.cellsOf f.type))=some y:=by
 cases fuel with
 | zero=>simp [DataW.trod] at h
 | succ fuel =>
   unfold DataW.trod at h
   rw [hu] at h
   split at h <;> first | (rename_i he;simp at he;done) | skip
   ·rename_i fs' he
    simp only [n9,TypeDesc.struct.injEq] at he
    subst he
    split at h
    case isFalse=>cases h
    rename_i hl
    refine ⟨hl,fun f hf=>?_⟩
    simp only [Option.map_eq_some_iff] at h
    obtain ⟨ys,hm,_⟩:=h
    refine ⟨fuel, ?_⟩
    obtain ⟨i,hi⟩:=List.mem_iff_getElem?.1 hf
    have:=(mapM_some hm).2 i
    rw [hi] at this
    simp only [i9] at this
    have hlt:i<ys.length:=by rw [(mapM_some hm).1];exact (m9.1 hi).1
    rw [l8 hlt] at this
    exact ⟨_,this⟩
   ·exact (‹∀ fs_1:Array Field,some (TypeDesc.struct fs)=some (TypeDesc.struct fs_1)→False› fs rfl).elim
theorem DP {W:World} {a:Addr} {n:Nat} {cs:List Value} (h:W.cells? 0 a n=some cs):cs.length=n∧∀ j,j<n→W.cell? (a.add j)=cs[j]?:=by
 unfold World.cells? at h
 rw [if_pos (Nat.zero_le _)] at h
 obtain ⟨h1,h2⟩:=mapM_some h
 refine ⟨by simpa using h1,fun j hj=>?_⟩
 have:=h2 j
 rw [List.getElem?_range hj] at this
 exact this
theorem KZ {α:Type} {W:World} {c:α→List PV} {R:α→Prop} {a:Addr} {size:Nat}:∀ (len:Nat),(∀ i,i<len→∃ x cs,R x∧W.cells? 0 (a.add (i*size)) size=some cs∧RFl W (fun b=>b<W.heap.size) (c x) cs) →
  ∃ l:List α,l.length=len∧∀ (i:Nat) x,l[i]?=some x→∃ cs,R x∧W.cells? 0 (a.add (i*size)) size=some cs∧RFl W (fun b=>b<W.heap.size) (c x) cs
 | 0,_=>⟨[],rfl,by simp⟩
 | n+1,h=>by
   obtain ⟨l,hl,hr⟩:=KZ n fun i hi=>h i (by omega)
   obtain ⟨x,hx⟩:=h n (by omega)
   refine ⟨l++[x],by simp [hl],fun i y hy=>?_⟩
   rcases Nat.lt_or_ge i l.length with q | q
   ·rw [x6 q] at hy;exact hr i y hy
   ·rw [x8 q] at hy
    have:i=n:=by
     have:=(m9.1 hy).1
     simp at this;omega
    subst this
    rw [hl,Nat.sub_self] at hy
    simp at hy;subst hy;exact hx
section
variable {H:Type} {enc:TypeId×Value→H} {W:World} {base:Nat} {sp:Nat→Bool} {v:Value} {d:DataW H} {ps:List MemPlace} {α:Type} {c:α→List PV} {R:α→Prop}
theorem RR {e:TypeId} (hu:P.underlying t=some (.slice e)) (hv:Value.okWide P W .any base t v):∀ cs,v≠.agg cs:=by
 rintro cs rfl
 simp [Value.okWide,hu,Cell.okWide,Cell.ok] at hv
theorem Pf (hl:laidOutB P=true) {W':World} (hb:Below W.heap.size W W'):∀ {ts:List TypeId} {vs:List Value} {ds:List (DataW H)} {ps:List MemPlace},(ts.all fun t=>P.readableRec t&&decide (t<P.types.size))=true→(∀ x ∈ ps,x.block<W.heap.size) →
  DataW.TrodAll enc P W 0 (fun _=>true) true ts vs ds ps→DataW.TrodAll enc P W' 0 (fun b=>decide (b<W.heap.size)) true ts vs ds ps
 | [],[],[],_,_,_,h=>h
 | t::ts,v::vs,d::ds,ps,hr,hlt,h=>by
   obtain ⟨p,q,h1,h2,rfl⟩:=h
   simp only [I3,o8,decide_eq_true_eq] at hr
   exact ⟨p,q,Below.trod hl hr.1.1 hr.1.2 h1 hb fun x hx=>hlt x (List.mem_append_left _ hx),Pf hl hb hr.2 (fun x hx=>hlt x (List.mem_append_right _ hx)) h2,rfl⟩
 | [],[],_::_,_,_,_,h=>h.elim
 | [],_::_,_,_,_,_,h=>h.elim
 | _::_,[],_,_,_,_,h=>h.elim
 | _::_,_::_,[],_,_,_,h=>h.elim
theorem RC {f:Func} {s:ChangeSpec} {apart fresh handsOn:Bool} {W':World} {args:Array Value} {ds gs:List (DataW H)} {before:List MemPlace} {tb:TypeId} (hl:laidOutB P=true)
  (hW:DataW.Whole enc P f.params.toList s.vars apart W args.toList ds gs before) (hvars:s.vars=[]) (hb:Below W.heap.size W W')
  (hp:(f.params.toList.all fun t=>P.readableRec t&&decide (t<P.types.size))=true) (hrt:f.resultTypes=#[tb]) (hub:P.underlying tb=some .bool)
  (hs:(s.fn H (ds++gs)).results=[.lit (.bool true)]) (ha:(s.fn H (ds++gs)).args=ds) (hv:(s.fn H (ds++gs)).vars=[]) :
  s.post enc P f apart fresh handsOn false W args (.bool true) W':=by
 have hlt:=hW.lt
 obtain ⟨p,q,h1,h2,rfl,_,_⟩:=id hW
 rw [hvars] at h2
 obtain ⟨rfl,rfl⟩:=trodVars_none h2
 rw [N7] at *
 refine ⟨ds,[],p,[],p,[],by simpa using hW, ?_, ?_, ?_,hb.frame _,fun h=>nomatch h⟩
 ·simp only [N7] at *
  rw [hs,hrt]
  exact trodAll_mk1 (shut_bool hub true)
 ·simp only [N7] at *
  rw [ha]
  exact Pf hl hb hp (fun x hx=>hlt x (by simpa using hx)) h1
 ·simp only [N7] at *
  rw [hv,hvars]
  rfl
end
end
theorem MS {P:Program} {f:FuncId} {pvs:List PV} {vals:List Value} {W:World} (hgl:∀ b,QI P=some b→b<W.heap.size∧∃ m,W.cell? ⟨b,0,none⟩=some (.int .i64 m)) (h:PC P f pvs [] (.lit (.bool true)) []) (hlen:vals.length=pvs.length) (hrep:∀ (i:Nat) pv,pvs[i]?=some pv→RF W (fun b=>b<W.heap.size) pv (vals.getD i undef)) :
  Calls P f vals.toArray W fun e W'=>e=.returned (.bool true)∧Below W.heap.size W W':=by
 refine (h.2 W ⟨fun b=>b<W.heap.size,fun _=>0,fun _=>undef,fun _=>0,fun _=>False⟩ vals (fun b hb=>by obtain ⟨q1,q2⟩:=hgl b hb;exact ⟨q1,by rintro (q | ⟨_,q,_⟩);omega;exact q,q2⟩) ⟨fun _ h=>h,fun _ h=>h.elim,fun _ _ h=>h.elim⟩ (fun _ _ h=>nomatch h) hlen fun i pv hg=>.free _ _ (hrep i pv hg)).mono fun e W' he=>?_
 obtain ⟨v,c',rfl,hb,_,_,_,_,hv,_⟩:=he
 rw [hv.iB]
 exact ⟨rfl,hb.os,hb.tape,hb.output,hb.size,fun k hk=>hb.block k hk (by rintro (q | ⟨_,q,_⟩);omega;exact q)⟩
end Go.VI
namespace Go.VI
theorem zX (n:Int) (h1 : -9223372036854775808≤n) (h2:n≤9223372036854775807):IntKind.i64.wrap n=n:=by
 simp only [IntKind.wrap,O9,P9,R3,Q4]
 first | omega | (simp only [Int.reducePow,if_true];omega) | (simp;omega) | skip
theorem bA {a b:Int} (h1 : -9223372036854775808≤a+b) (h2:a+b≤9223372036854775807):aQ a b=a+b:=zX _ h1 h2
theorem bP {a b:Int} (h1 : -9223372036854775808≤a-b) (h2:a-b≤9223372036854775807):aK a b=a-b:=zX _ h1 h2
theorem Fl {a b:Int} (h1 : -9223372036854775808≤a*b) (h2:a*b≤9223372036854775807):gZ a b=a*b:=zX _ h1 h2
theorem Re {a:Int} (h1 : -9223372036854775808≤-a) (h2 : -a≤9223372036854775807):xU a=-a:=by
 unfold xU;rw [Int.zero_sub];exact zX _ h1 h2
theorem aW {α:Type} {l:List α} {k:Nat} {x:α} (h:l[k]?=some x):idx l (k:Int)=some x:=by
 unfold idx;rw [if_pos (U7 k),y9];exact h
theorem CD {α:Type} (l:List α) (k:Nat):idx l (k:Int)=l[k]?:=by
 unfold idx;rw [if_pos (U7 k),y9]
theorem iF {α:Type} {l xs:List α} (h:l.length+xs.length≤LIM):app l xs=some (l++xs):=by unfold app;rw [if_pos h]
theorem iY {S R:Type} {body:S→Option (S ⊕ R)} {s s':S} (h:body s=some (.inl s')):aM body s=aM body s':=by rw [EV,h]
theorem dK {S R:Type} {body:S→Option (S ⊕ R)} {s:S} {r:R} (h:body s=some (.inr r)):aM body s=some r:=by rw [EV,h]
theorem gN {α S R:Type} (l:List α) (body:S→Option (S ⊕ R)) (st:Nat→S) (r:R) (step:∀ (k:Nat) (x:α),l[k]?=some x→body (st k)=some (.inl (st (k+1)))) (fin:body (st l.length)=some (.inr r)):aM body (st 0)=some r:=by
 have key:∀ n k,k+n=l.length→aM body (st k)=some r:=by
  intro n
  induction n with
  | zero => intro k h;obtain rfl:k = l.length := by omega
            exact dK fin
  | succ n ih =>
    intro k h
    rw [iY (step k l[k] (by simp))]
    exact ih (k+1) (by omega)
 exact key l.length 0 (by omega)
theorem Xj {α R:Type} (l:List α) (body:Int→Option (Int ⊕ R)) (q:α→Bool) (no yes:R) (step:∀ (k:Nat) (x:α),l[k]?=some x→body k=if q x then some (.inl ((k+1:Nat):Int)) else some (.inr no)) (fin:body (l.length:Int)=some (.inr yes)) :
  aM body 0=some (if l.all q then yes else no):=by
 have key:∀ (n k:Nat),k+n=l.length→aM body (k:Int)=some (if (l.drop k).all q then yes else no):=by
  intro n
  induction n with
  | zero =>
    intro k h;obtain rfl:k=l.length:=by omega
    rw [List.drop_length,dK fin];rfl
  | succ n ih =>
    intro k h
    have hk:k<l.length:=by omega
    have hx:l[k]?=some l[k]:=by simp
    have e:l.drop k=l[k]::l.drop (k+1):=List.drop_eq_getElem_cons hk
    have hb:=step k l[k] hx
    by_cases hq:q l[k]=true
    ·rw [if_pos hq] at hb
     rw [iY hb,ih (k+1) (by omega),e,I3,hq,Bool.true_and]
    ·rw [if_neg hq] at hb
     rw [dK hb,e,I3,Bool.eq_false_iff.2 hq,Bool.false_and];rfl
 have:=key l.length 0 (by omega)
 simpa using this
theorem RL {α R:Type} (l:List α) (body:Int→Option (Int ⊕ R)) (q:α→Bool) (no yes:R) (step:∀ (k:Nat) (x:α),l[k]?=some x→body k=if q x then some (.inr yes) else some (.inl ((k+1:Nat):Int))) (fin:body (l.length:Int)=some (.inr no)) :
  aM body 0=some (if l.any q then yes else no):=by
 rw [Xj l body (fun x=>!q x) yes no (fun k x h=>?_) fin]
 ·congr 1
  have:l.all (fun x=>!q x)=!l.any q:=by simp [List.all_eq_not_any_not]
  rw [this];cases l.any q <;> rfl
 ·rw [step k x h];cases q x <;> rfl
end Go.VI
namespace Go.VI
open Go.RowKit
section
variable {P:Program} {E:Ent} {S0:Nat→Prop} {N:Nat} {σ:St} {a:Act} {w:World} {c:Ctx}
theorem Tm {es:List (List PV)} {n i j:Nat} {pv:PV} (hg:dV (es.take n) i j=some pv):i<n∧dV es i j=some pv:=by
 unfold dV at hg ⊢
 rw [D9] at hg
 split at hg
 ·exact ⟨by assumption,hg⟩
 ·simp at hg
theorem YO {o:Oper} {t e g n:Nat} {x y:Operand} {J:List (Nat×Nat)} {es:List (List PV)} (ho:o.op=.slice t x none (some y) none) (ht:kL P t=some e) (hinfo:(P.info? e).isSome=true) (hg:g<PIN)
  (hx:pev σ x=.row (.top g) e) (hy:Li (pev σ y)=some n) (hr:σ.hget g=some (.row e J es)) (hn:n≤es.length) (h:Inv P E S0 N σ a w c) (hd:∀ k,o.dst=some k→k<N) :
  vJ P E S0 N o a w (Res.put σ o.dst ⟨[dU g],[(g,.row e J (es.take n))],.row (.top g) e⟩):=by
 have rx:=h.ev x
 rw [hx] at rx
 obtain ⟨k,ey⟩:=rO (h.ev y) hy
 have hX:a.eval x=c.hd (.top g):=by
  generalize a.eval x=X at rx
  cases rx with
  | free _ _ hf=>cases hf
  | row=>rfl
 obtain ⟨xs,r⟩:=h.fE g _ hr
 have hu:=kM ht
 have hlen:(es.take n).length=n:=by simp;omega
 -- the run
 have run:∀ (A:Option Addr) (m cc:Nat),n≤m→m≤cc→(Instr.sliceAt t (.slice A m cc) none (some (.int k n)) none).run P w=.ok (.slice (if cc=0 then A else A.map (·.add (0*aJ P e))) (n-0) (cc-0)) w:=by
  intro A m cc h2 h3
  have bnd:(Instr.sliceBounds true m cc none (some (.int k n)) none).run P w=.ok (0,n,cc) w:=by
   have:=run_sliceBound (P:=P) (w:=w) k (n:Int) cc .sliceAcap (by omega) (by omega)
   simp [Instr.sliceBounds,this]
  simp only [Instr.sliceAt,Instr.slice,o5,run_underlying hu,m6,bnd,run_sizeOf (u9.1 hinfo),o9]
 have hexec:∀ v,(Instr.sliceAt t (a.eval x) none (some (.int k n)) none).run P w=.ok v w→(execOp a.eval o).run P w=.ok (.value v) w:=by
  intro v hrun
  unfold execOp
  simp only [ho,o5,o9,Option.map_none,s8,ey,hrun,m6]
 have fin:∀ v',(execOp a.eval o).run P w=.ok (.value v') w→w.ownsRow 0 e (aJ P e) v' n (xs.take (n*aJ P e))→(∀ b,v'.ownBlock=some b→c.D (.top g)∧c.τ (.top g)=b) →
   vJ P E S0 N o a w (Res.put σ o.dst ⟨[dU g],[(g,.row e J (es.take n))],.row (.top g) e⟩):=by
  intro v' hrun hown hblk
  let c':Ctx:=⟨c.S,c.τ,fun k=>if k=.top g then v' else c.hd k,c.ty,c.D⟩
  have hhd:c'.hd (.top g)=v':=by simp [c']
  have hag:∀ k,k≠.top g→Agree c c' k:=fun k hk=>⟨rfl,by simp [c',hk],rfl⟩
  have hxs:∀ i j pv,dV (es.take n) i j=some pv→(xs.take (n*aJ P e)).getD (i*aJ P e+j) undef=xs.getD (i*aJ P e+j) undef:=by
   intro i j pv hg
   obtain ⟨q1,q2⟩:=Tm hg
   rw [pM _ _ _ (kX q1 (jQ r.len q2).2)]
  have hrep:oW P w c' g (.row e J (es.take n)):=by
   refine ⟨xs.take (n*aJ P e),r.ty,r.pos,fun l hl=>r.len l (List.mem_of_mem_take hl),by rw [hhd,hlen];exact hown,fun b hb=>by rw [hhd] at hb;exact hblk b hb,fun i j pv hg=>by rw [hxs i j pv hg];exact r.one i j pv (Tm hg).2,fun i j pv hgE=>?_⟩
   rw [hxs i j pv hgE]
   have hc:=r.rep i j pv (Tm hgE).2
   unfold eL at hc ⊢
   split at hc
   ·exact hc
   ·rcases hc with hc | ⟨h1,es',xs',h2,r'⟩
    ·exact .inl hc
    exact .inr ⟨h1.trans (hag (.sub g i j) (by simp)).2.1.symm,es',xs',h2,jB.dO (c:=c) (c':=c') rfl (hag (.sub g i j) (by simp)).2.1 rfl (fun h=>h) (fun _ _ _ _ _ q=>q) r'⟩
  have hrv:RV P w c' (.row (.top g) e) v':=by
   obtain ⟨xs',r'⟩:=hrep
   have:=RV.row (P:=P) (w:=w) (c:=c') (.top g) e r'.ty r'.Bk
   rwa [hhd] at this
  refine mQ hd (.inl hrun) (c':=c') ?_ hrv
  refine h.step (c':=c') (dU g) (·=g) h.below ⟨h.ok.hS,h.ok.hD,h.ok.inj⟩ (fun _ _=>rfl) (fun _ h=>h) h.sup (fun k hk hp=>?_) (fun k hk=>hag k (by rintro rfl;rw [lS] at hk;exact hk rfl)) (fun k hD _=>⟨rfl,hD⟩) (fun k hk=>gE.1 hk) rfl (fun g' o' hx hg'=>?_) (fun g' o' hx hg'=>?_)
  ·rw [gE.1 hp] at hk;omega
  ·simp only [Res.base,y8,G2,eH] at hg'
   rwa [if_neg hx] at hg'
  ·simp only [Res.base,y8,G2,eH] at hg'
   rw [if_pos hx] at hg'
   injection hg' with hg'
   subst hg' hx
   exact hrep
 rcases r.own.2 with ⟨h0,hz⟩ | ⟨g2,cap,cur,h0,hb2,hg2,hnc,hcm,hcs,htake⟩
 ·have hn0:n=0:=by omega
  subst hn0
  have hrun:=hexec _ (by rw [hX,h0];exact run none 0 0 (v7 _) (v7 _))
  simp only [if_true,Nat.sub_self] at hrun
  exact fin _ hrun (by simpa using World.ownsRow_nil w 0 e (aJ P e)) fun b hb=>by simp [Value.ownBlock] at hb
 ·have hrun:=hexec _ (by rw [hX,h0];exact run (some ⟨g2,0,none⟩) es.length cap hn hnc)
  have hadd:(if cap=0 then (some ⟨g2,0,none⟩:Option Addr) else (some ⟨g2,0,none⟩:Option Addr).map (·.add (0*aJ P e)))=some ⟨g2,0,none⟩:=by
   split <;> simp [add_lit]
  rw [hadd] at hrun
  simp only [Nat.sub_zero] at hrun
  refine fin _ hrun ⟨?_,.inr ⟨g2,cap,cur,rfl,hb2,hg2,by omega,hcm,hcs, ?_⟩⟩ fun b hb=>r.blk b (by rw [h0];exact hb)
  ·rw [List.length_take,r.own.1]
   have:=u7 (aJ P e) hn
   omega
  ·rw [← htake,List.take_take]
   have:=u7 (aJ P e) hn
   congr 1
   omega
end
end Go.VI
namespace Go.VI
open Go.RowKit
section
variable {P:Program} {E:Ent} {S0:Nat→Prop} {N:Nat} {σ:St} {a:Act} {w:World} {c:Ctx}
def Ctx.move (c:Ctx) (d g i j:Nat):Ctx:=
 ⟨c.S,fun k=>if k=.sub g i j then c.τ (.top d) else c.τ k,fun k=>if k=.sub g i j then c.hd (.top d) else c.hd k,fun k=>if k=.sub g i j then c.ty (.top d) else c.ty k,fun k=>if k=.sub g i j then c.D (.top d) else k.tag≠d∧c.D k⟩
def Rj (d g:Nat) (k:Key):Bool:=dU d k || UB g k
theorem VY {o:Oper} {t:TypeId} {ad x:Operand} {e e' d g i off:Nat} {J:List (Nat×Nat)} {es es':List (List PV)} (ho:o.op=.store t ad x) (hagg:Hm P t=some false) (hsz1:aJ P t=1) (hg:g<PIN∨True) (hd1:d<PIN) (hne:d≠g)
  (ha:pev σ ad=.rptr (.top g) e i off) (hx:pev σ x=.row (.top d) e') (hrg:σ.hget g=some (.row e J es)) (hrd:σ.hget d=some (.row e' [] es')) (hi:i<es.length) (hoff:off<aJ P e) (hJ:Jat J off=some e')
  (h:Inv P E S0 N σ a w c) (hd:∀ k,o.dst=some k→k<N) :
  vJ P E S0 N o a w (Res.put σ o.dst ⟨[Rj d g],[(g,.row e J (setRow es i off [.sl es']))],.lit undef⟩):=by
 have rp:=h.ev ad
 have rx:=h.ev x
 rw [ha] at rp
 rw [hx] at rx
 have hP:a.eval ad=.pointer (some ⟨c.τ (.top g),i*aJ P e+off,none⟩):=by
  generalize a.eval ad=X at rp
  cases rp with
  | free _ _ hf=>cases hf
  | rptr=>rfl
 have hX:a.eval x=c.hd (.top d):=by
  generalize a.eval x=X at rx
  cases rx with
  | free _ _ hf=>cases hf
  | row=>rfl
 obtain ⟨xs,r⟩:=h.fE g _ hrg
 obtain ⟨xsd,rd⟩:=h.fE d _ hrd
 have hone:=rd.Bk
 rcases r.own.2 with ⟨h0,hz⟩ | ⟨g2,cap,cur,h0,hb2,hg2,hnc,hcm,hcs,htake⟩
 ·omega
 obtain ⟨hD,hτ⟩:=r.blk g2 (by rw [h0];rfl)
 rw [← hτ] at hg2
 have hcell1:(c.hd (.top d)).cells=#[c.hd (.top d)]:=Ks hone
 have hfit:i*aJ P e+off+(c.hd (.top d)).cells.size≤cur.size:=by
  have q1:=u7 (aJ P e) (show i+1≤cap by omega)
  rw [Nat.succ_mul] at q1
  rw [hcell1];simp;omega
 have hrun:=Lm (P:=P) (t:=t) (Ar hagg) (o:=i*aJ P e+off) (X:=c.hd (.top d)) hg2 (by rw [hcell1,hsz1];rfl) hfit (by rw [hcell1];simpa using hone)
 have hexec:(execOp a.eval o).run P w=.ok .skip (w.setRow (c.τ (.top g)) (jF cur (i*aJ P e+off) (c.hd (.top d)).cells.toList)):=by
  unfold execOp
  simp only [ho,hP,hX,Instr.storeAt,Instr.sureAddr,o5,o9,m6,hrun]
 have hfit':i*aJ P e+off+(c.hd (.top d)).cells.toList.length≤cur.size:=by simpa using hfit
 have hnl:(c.hd (.top d)).cells.toList=[c.hd (.top d)]:=by rw [hcell1]
 generalize hw':w.setRow (c.τ (.top g)) (jF cur (i*aJ P e+off) (c.hd (.top d)).cells.toList)=w' at hexec
 have hoth:∀ b,b≠c.τ (.top g)→w'.heap[b]?=w.heap[b]?:=fun b hb'=>by rw [← hw'];exact setRow_other w _ b _ hb'
 have hDg:=h.ok.hD _ hD
 have hSm:Ga c.S w w':=fun b hS=>hoth b fun e=>hDg.2.2 (e ▸ hS)
 have hsize:w'.heap.size=w.heap.size:=by rw [← hw'];simp [World.setRow]
 have hh':w'.heap[c.τ (.top g)]?=some (.cells (jF cur (i*aJ P e+off) (c.hd (.top d)).cells.toList) e (0,0)):=by rw [← hw'];exact setRow_heap w _ cur _ e (0,0) hg2
 let c':=c.move d g i off
 have hsub:c'.τ (.sub g i off)=c.τ (.top d)∧c'.hd (.sub g i off)=c.hd (.top d)∧c'.ty (.sub g i off)=c.ty (.top d)∧(c'.D (.sub g i off)↔c.D (.top d)):=by simp [c',Ctx.move]
 have hag:∀ k,k≠.sub g i off→Agree c c' k:=fun k hk=>by simp [Agree,c',Ctx.move,hk]
 have hDo:∀ k,k≠.sub g i off→(c'.D k↔k.tag≠d∧c.D k):=fun k hk=>by simp [c',Ctx.move,hk]
 have hok:c'.Ok E.M w':=by
  refine ⟨fun b hb=>by rw [hsize];exact h.ok.hS b hb,fun k hk=>?_,fun k k' hk hk' he=>?_⟩
  ·rw [hsize]
   by_cases e1:k=.sub g i off
   ·subst e1;rw [hsub.1];exact h.ok.hD _ (hsub.2.2.2.1 hk)
   ·rw [(hag k e1).1];exact h.ok.hD _ ((hDo k e1).1 hk).2
  ·by_cases e1:k=.sub g i off <;> by_cases e2:k'=.sub g i off
   ·rw [e1,e2]
   ·subst e1
    rw [hsub.1,(hag k' e2).1] at he
    have:=h.ok.inj _ _ (hsub.2.2.2.1 hk) ((hDo k' e2).1 hk').2 he
    exact absurd (by rw [← this];rfl) ((hDo k' e2).1 hk').1
   ·subst e2
    rw [hsub.1,(hag k e1).1] at he
    have:=h.ok.inj _ _ ((hDo k e1).1 hk).2 (hsub.2.2.2.1 hk') he
    exact absurd (by rw [this];rfl) ((hDo k e1).1 hk).1
   ·rw [(hag k e1).1,(hag k' e2).1] at he
    exact h.ok.inj _ _ ((hDo k e1).1 hk).2 ((hDo k' e2).1 hk').2 he
 have hrep:oW P w' c' g (.row e J (setRow es i off [.sl es'])):=by
  have key:=r.upd (w':=w') (R':=eL P w' c' g J) (i:=i) (off:=off) (ws:=[.sl es']) (c0:=cur) (c1:=jF cur (i*aJ P e+off) (c.hd (.top d)).cells.toList) (T:=e) (by simp;omega) hi hg2 hh' (Ek hfit')
   (fun m hm=>by rw [Af hfit',if_neg (by rw [hnl];simpa using hm)]) (fun a' b' pv v hnew hc=>?_) (fun j pv hj=>?_)
  ·obtain ⟨xs',r'⟩:=key
   exact ⟨xs',r'.dO (c':=c') (k':=.top g) (hag (.top g) (by simp)).1 (hag (.top g) (by simp)).2.1 (hag (.top g) (by simp)).2.2 (fun q=>(hDo (.top g) (by simp)).2 ⟨fun q=>hne q.symm,q⟩) fun _ _ _ _ _ q=>q⟩
  ·unfold eL at hc ⊢
   split at hc
   ·exact hc.same hSm fun _ h=>h
   ·rename_i e2 hj2
    rcases hc with hc | ⟨h1,es2,xs2,h2,r2⟩
    ·exact .inl hc
    have hk:(Key.sub g a' b')≠.sub g i off:=by
     intro q;injection q with _ q1 q2
     exact hnew ⟨q1,by omega,by simp;omega⟩
    refine .inr ⟨h1.trans (hag _ hk).2.1.symm,es2,xs2,h2,jB.keep (c:=c) (c':=c') (hag _ hk) (fun q=>⟨hoth _ fun q2=>?_,(hDo _ hk).2 ⟨fun q3=>hne q3.symm,q⟩⟩) (fun _ _ _ _ q=>RF.same hSm (fun _ h=>h) q) r2⟩
    exact Key.noConfusion (h.ok.inj _ _ q hD q2)
  ·match j,hj with
   | 0,hj =>
     simp at hj
     subst hj
     have hv:(jF cur (i*aJ P e+off) (c.hd (.top d)).cells.toList).getD (i*aJ P e+off+0) undef=c.hd (.top d):=by
      rw [Af hfit',if_pos ⟨by omega,by rw [hnl];simp⟩,hnl]
      simp
     rw [hv]
     refine ⟨?_,hone⟩
     unfold eL
     rw [Nat.add_zero,hJ]
     refine .inr ⟨hsub.2.1.symm,es',xsd,rfl, ?_⟩
     have k1:jB P w' c (.top d) e' es' (fun _ _ pv v=>RF w' c.S pv v) xsd:=jB.keep (c:=c) (c':=c) (Agree.refl c _) (fun q=>⟨hoth _ fun q2=>by have:=h.ok.inj _ _ q hD q2;injection this with this;exact hne this,q⟩) (fun _ _ _ _ q=>RF.same hSm (fun _ h=>h) q) rd
     exact jB.dO (c:=c) (c':=c') hsub.1 hsub.2.1 hsub.2.2.1 hsub.2.2.2.2 (fun _ _ _ _ _ q=>q) k1
 refine mQ (v:=undef) (c':=c') hd (.inr ⟨hexec,rfl⟩) ?_ (.free _ _ (.lit _))
 have notp:∀ k,Rj d g k=false→k.tag≠d∧k≠.sub g i off:=fun k hk=>by
  simp only [Rj,I7] at hk
  exact ⟨lS.1 hk.1,by rintro rfl;simp [UB] at hk⟩
 refine h.step (c':=c') (Rj d g) (fun q=>q=g∨q=d) ⟨?_, ?_, ?_,by rw [hsize];exact h.below.size,fun k hk hm=>(hoth k fun q=>hm (q ▸ hDg.1)).trans (h.below.block k hk hm)⟩ hok hSm (fun _ h=>h) h.sup (fun k hk hp=>?_) (fun k hk=>hag k (notp k hk).2) (fun k hDk hx=>⟨hoth _ fun q=>hx (.inl (by rw [h.ok.inj _ _ hDk hD q];rfl)),(hDo k (by rintro rfl;exact hx (.inl rfl))).2 ⟨fun q=>hx (.inr q),hDk⟩⟩)
  (fun k hk=>?_) rfl (fun g' o' hx hg'=>?_) (fun g' o' hx hg'=>?_)
 ·rw [← hw'];exact h.below.os
 ·rw [← hw'];exact h.below.tape
 ·rw [← hw'];exact h.below.output
 ·cases k with
  | sub=>rfl
  | top q =>
    simp only [Rj,UB,Bool.or_false] at hp
    have:=gE.1 hp
    simp only [Key.tag] at this hk
    omega
 ·simp only [Rj,F6] at hk
  rcases hk with q | q
  ·exact .inr (gE.1 q)
  ·cases k with
   | top=>cases q
   | sub q1 _ _=>exact .inl (t7 q)
 ·simp only [Res.base,y8,G2,eH] at hg'
  rwa [if_neg (fun q=>hx (.inl q))] at hg'
 ·simp only [Res.base,y8,G2,eH] at hg'
  split at hg'
  ·rename_i q
   injection hg' with hg'
   subst hg' q
   exact hrep
  ·rename_i q
   rcases hx with hx | hx
   ·exact absurd hx q
   ·subst hx
    rw [Aq] at hg'
    have:Rj g' g (.top g')=true:=by simp [Rj,dU,Key.tag]
    rw [if_pos this] at hg'
    cases hg'
end
end Go.VI
