/- The evaluator, part 4. -/
import Derived.Test.YtgbiimcgilaklaaGreatVHC3
import Derived.Maps.RangeRun
import Derived.Laws.CopyRow
import Derived.JoinedCond
import Derived.HandedShaped
set_option linter.unusedVariables false
set_option linter.unusedSimpArgs false
set_option linter.unusedSectionVars false
open Array renaming getD_eq_getD_getElem?→o7,getElem?_append_left→M8,getElem?_modify→R9,getElem?_toList→w9,length_toList→K6,toList_inj→E9,toList_map→M3,toList_range→T4
open Bool renaming and_eq_true→o8,and_true→O8,false_eq_true→j9,not_eq_true'→F2,or_eq_false_iff→I7
open List renaming all_cons→I3,all_eq_true→p7,all_nil→P7,append_assoc→K4,cons_append→K8,ext_getElem?→G0,foldl_cons→y8,foldl_nil→G2,getD_eq_getElem?_getD→m8,getElem?_append_left→x6,getElem?_append_right→x8,getElem?_cons_succ→J6,getElem?_cons_zero→I0,getElem?_drop→E8,getElem?_eq_getElem→l8,getElem?_eq_none→s5,getElem?_eq_some_iff→m9,getElem?_map→p8,getElem?_range→G8,getElem?_set_ne→K2,getElem?_take→D9,getElem?_toArray→J0,getElem_mem→F9,length_append→E5,length_cons→H5,length_drop→K5,length_map→p9,length_nil→L5,length_take→x7,map→l7,map_append→H3,map_cons→E1,map_nil→H9,map_replicate→U2,map_toArray→I9,mem_append→q9,mem_iff_getElem?→u6,mem_map→E3,mem_map_of_mem→K9,mem_of_getElem?→m5,mem_of_mem_drop→M6,mem_of_mem_take→G4,nil_append→I8,range'_succ→N5,replicate→q8,take_of_length_le→N9
open Nat renaming add_mul→I5,add_zero→K3,beq→E4,beq_refl→G9,ble→E6,blt→H8,eq_of_beq_eq_true→t7,eq_zero_or_pos→P5,le_refl→v7,le_trans→J1,lt_of_lt_of_le→D8,lt_or_ge→G3,mul_le_mul_right→u7,mul_one→Q0,zero_add→I2,zero_le→M0
open Option renaming bind_eq_some_iff→Q6,bind_some→i9,getD_some→H2,isSome_iff_exists→u9,isSome_none→S9,isSome_some→O4,map_eq_some_iff→s6,map_some→s8
open Option.some renaming inj→w7,injEq→n9
open Prod.mk renaming injEq→t8
open Go.Result renaming andThen_ok→m6
open Go.Sem renaming run_bind→o5,run_pure→o9
namespace Go.VI
open Go.RowKit
section
variable {P:Program} {E:Ent} {S0:Nat→Prop} {N:Nat} {σ:St} {a:Act} {w:World} {c:Ctx}
end
end Go.VI
namespace Go.VI
open Go.RowKit
section
variable {P:Program} {E:Ent} {S0:Nat→Prop} {N:Nat} {σ:St} {a:Act} {w:World} {c:Ctx}
end
section
variable {G:Prg} {ops:Array Oper} {k:Nat} {σ:St} {K:St→Prop}
theorem QA {o:Oper} (ho:Eg ops k=some o) (hg:lY ops σ o=some true) {σ':St} (h:∀ {E:Ent} {S0:Nat→Prop} {N:Nat} {a:Act} {w:World} {c:Ctx},Inv G.P E S0 N σ a w c→(∀ k,o.dst=some k→k<N)→vJ G.P E S0 N o a w σ') (next:EVS G ops (k+1) σ' K):EVS G ops k σ K:=
 Nq ho hg (fun _ E S0 N a w c hi hd nx Q hn=>h hi hd nx Q fun a' w' c' hi'=>hn _ _ _ _ next hi') fun e=>nomatch e
end
section
variable {G:Prg} {cd:Code} {σ:St} {K:PX→St→Prop}
end
end Go.VI
namespace Go.VI
end Go.VI
namespace Go.VI
def Pt (k:IntKind) (a b:Int):Int:=k.wrap (BitVec.ofInt k.bits a &&& BitVec.ofInt k.bits b).toNat
def iX (k:IntKind) (a b:Int):Int:=k.wrap (BitVec.ofInt k.bits a ^^^ BitVec.ofInt k.bits b).toNat
def cpy {α:Type} (es:List α) (lo:Nat) (ys:List α):List α:=es.take lo++ys++es.drop (lo+ys.length)
def Zn (s:ByteArray) (i:Int):Option Int:=if 0≤i then (s[i.toNat]?).map (fun b=>(b.toNat:Int)) else none
end Go.VI
namespace Go.VI
open Go.RowKit
section
variable {P:Program} {E:Ent} {S0:Nat→Prop} {N:Nat} {σ:St} {a:Act} {w:World} {c:Ctx}
theorem NQ {t:TypeId} {A:Option Addr} {n cc:Nat} {e:TypeId} (ht:kL P t=some e):(binOp .eql t (.slice A n cc) (.slice none 0 0)).run P w=.ok (.bool A.isNone) w:=by
 have hu:=kM ht
 have:(Op.equal t (.slice A n cc) (.slice none 0 0)).run P w=.ok A.isNone w:=by
  unfold Op.equal
  show (Op.equalIn (9999+1) t _ _).run P w=_
  unfold Op.equalIn
  cases A <;> simp only [o5,run_underlying hu,m6,o9] <;> rfl
 simp only [binOp,o5,this,m6,o9]
theorem QX {o:Oper} {t t':TypeId} {x:Operand} {e:TypeId} {es:List (List PV)} (ho:o.op=.binOp .eql t x (.const (.slice none 0 0)) t') (ht:kL P t=some e) (hx:pev σ x=.sl es) (h:Inv P E S0 N σ a w c) (hd:∀ k,o.dst=some k→k<N) :
  ∃ b:Bool,(b=true→es=[])∧vJ P E S0 N o a w (Res.put σ o.dst (.val (.lit (.bool b)))):=by
 have rx:=h.ev x
 rw [hx] at rx
 obtain ⟨A,n,cc,hX,hA⟩:∃ A n cc,a.eval x=.slice A n cc∧(A.isNone=true→es=[]):=by
  generalize a.eval x=X at rx
  cases rx with
  | free _ _ hf=>cases hf with
    | sl _ k A n cc vf hn hk hk0 hc ha =>
      refine ⟨A,n,cc,rfl,fun hq=>?_⟩
      rcases es with _ | ⟨y,ys⟩
      ·rfl
      ·obtain ⟨ad,h1,_⟩:=ha (by simp)
       rw [h1] at hq;cases hq
 refine ⟨A.isNone,hA,bY h hd ?_ (.free _ _ (.lit _))⟩
 unfold execOp
 have hg:(eqGuard .eql t x (.const (.slice none 0 0)) (.slice A n cc) (.slice none 0 0)).run P w=.ok () w:=by
  unfold eqGuard;rfl
 have hY:a.eval (.const (.slice none 0 0))=.slice none 0 0:=rfl
 simp only [ho,hX,hY,o5,hg,NQ ht,m6,o9]
theorem LZ {o:Oper} {t e:TypeId} {len:Nat} {parts:Array (Nat×Operand)} (ho:o.op=.buildSlice t len parts) (ht:kL P t=some e) (hidx:parts.toList.map (·.1)=List.range len) (hk:0<aJ P e) (hlim:len*aJ P e≤16777216)
  (hrow:Hf P e=true) (hall:(parts.toList.all fun p=>(pev σ p.2).cells.length==aJ P e&&(pev σ p.2).cells.all PV.still)=true) (h:Inv P E S0 N σ a w c) (hd:∀ k,o.dst=some k→k<N) :
  vJ P E S0 N o a w (Res.put σ o.dst (.new (o.dst.getD 0) (.row e [] (parts.toList.map fun p=>(pev σ p.2).cells)) (.row (.top (o.dst.getD 0)) e))):=by
 obtain ⟨i,z,hi,hz,hsz,hby,hzs,hsize⟩:=vH hrow
 have hlen:parts.toList.length=len:=by have:=congrArg List.length hidx;simpa using this
 let cells:List Value:=parts.toList.flatMap fun p=>(a.eval p.2).cells.toList
 have each:∀ p ∈ parts.toList,(pev σ p.2).cells.length=aJ P e∧(pev σ p.2).cells.all PV.still=true:=fun p hp=>by
  have:=p7.1 hall p hp
  simpa using this
 have rep:∀ p ∈ parts.toList,(a.eval p.2).cells.size=aJ P e∧∀ (j:Nat) pv,(pev σ p.2).cells[j]?=some pv→RF w c.S pv ((a.eval p.2).cells.getD j undef)∧((a.eval p.2).cells.getD j undef).oneCell'=true:=fun p hp=>by
  obtain ⟨q1,q2⟩:=each p hp
  obtain ⟨q3,q4⟩:=(h.ev p.2).cells (Gc q2)
  exact ⟨by omega,fun j pv hg=>⟨(q4 j pv hg).1.ZQ (Py (p7.1 q2 pv (m5 hg))),(q4 j pv hg).2⟩⟩
 have hrun:(Instr.buildSlice t len (parts.map fun p=>(p.1,a.eval p.2))).run P w=.ok (.slice (some ⟨w.heap.size,0,none⟩) len len) (w.alloc (.cells cells.toArray e)):=Gx ht hidx hk hlim hrow fun p hp=>(rep p hp).1
 have hexec:(execOp a.eval o).run P w=.ok (.value (.slice (some ⟨w.heap.size,0,none⟩) len len)) (w.alloc (.cells cells.toArray e)):=by
  unfold execOp
  simp only [ho,o5,hrun,m6,o9]
 have hb:Below w.heap.size w (w.alloc (.cells cells.toArray e)):=(Below.refl _ _).alloc (v7 _) _
 have hcsz:∀ p ∈ parts.toList,(a.eval p.2).cells.toList.length=aJ P e:=fun p hp=>by simpa using (rep p hp).1
 have hcl:cells.length=len*aJ P e:=by
  have:∀ l:List (Nat×Operand),(∀ p ∈ l,(a.eval p.2).cells.toList.length=aJ P e)→(l.flatMap fun p=>(a.eval p.2).cells.toList).length=l.length*aJ P e:=by
   intro l
   induction l with
   | nil=>intro _;simp
   | cons p l ih =>
     intro hl
     rw [List.flatMap_cons,E5,hl p (by simp),ih fun q hq=>hl q (by simp [hq]),H5,I5];omega
  rw [← hlen];exact this _ hcsz
 have hg:∀ i j pv,dV (parts.toList.map fun p=>(pev σ p.2).cells) i j=some pv→∃ p,p ∈ parts.toList∧(pev σ p.2).cells[j]?=some pv∧j<aJ P e∧i<len∧cells[i*aJ P e+j]?=some ((a.eval p.2).cells.getD j undef):=by
  intro i j pv hg
  unfold dV at hg
  rw [p8] at hg
  cases hp:parts.toList[i]? with
  | none=>simp [hp] at hg
  | some p =>
    simp only [hp,s8,i9] at hg
    have hmem:=m5 hp
    have hj:j<aJ P e:=by
     rcases G3 j (pev σ p.2).cells.length with q | q
     ·rw [(each p hmem).1] at q;exact q
     ·rw [s5 q] at hg;cases hg
    have hi':i<len:=by
     rcases G3 i parts.toList.length with q | q
     ·omega
     ·rw [s5 q] at hp;cases hp
    refine ⟨p,hmem,hg,hj,hi', ?_⟩
    rw [Ww (aJ P e) parts.toList (fun p=>(a.eval p.2).cells.toList) hcsz i j hj,hp]
    simp only [i9]
    rw [w9]
    exact La (by have:=(rep p hmem).1;omega)
 let c':=c.lay (o.dst.getD 0) w.heap.size (.slice (some ⟨w.heap.size,0,none⟩) len len) e True
 have hok:c'.Ok E.M (w.alloc (.cells cells.toArray e)):=Iz h.ok hb.size (fun _=>⟨h.below.mine (v7 _),by simp,fun hS=>by have:=h.ok.hS _ hS;omega⟩) fun _ k' _ hg' e=>by have:=(h.ok.hD k' hg').2.1;omega
 have hhd:c'.hd (.top (o.dst.getD 0))=.slice (some ⟨w.heap.size,0,none⟩) len len:=dP.2.1
 have hrep:oW P (w.alloc (.cells cells.toArray e)) c' (o.dst.getD 0) (.row e [] (parts.toList.map fun p=>(pev σ p.2).cells)):=by
  refine ⟨cells,dP.2.2.1,hk,fun l hl=>?_, ?_,fun b hb'=>?_,fun i j pv hgE=>?_,fun i j pv hgE=>?_⟩
  ·obtain ⟨p,hp,rfl⟩:=E3.1 hl
   exact (each p hp).1
  ·rw [hhd]
   refine ⟨by rw [hcl,p9,hlen],.inr ⟨w.heap.size,len,cells.toArray,by rw [p9,hlen],M0 _,heap_alloc_new w _,by rw [p9,hlen];exact v7 _, ?_,by simp [hcl], ?_⟩⟩
   ·have:=Nat.le_mul_of_pos_right len hk
    unfold maxLen;omega
   ·rw [p9,hlen,← hcl];simp
  ·rw [hhd] at hb'
   simp [Value.ownBlock] at hb';subst hb'
   exact ⟨dP.2.2.2.2 trivial,dP.1⟩
  ·obtain ⟨p,hp,q1,_,_,q⟩:=hg i j pv hgE
   rw [m8,q]
   exact ((rep p hp).2 j pv q1).2
  ·obtain ⟨p,hp,q1,_,_,q⟩:=hg i j pv hgE
   rw [m8,q]
   exact (((rep p hp).2 j pv q1).1).same (fun b hS=>hb.block b (h.ok.hS b hS)) fun b hb=>hb
 refine Js (Jt h hd) h hd hexec hb hok (fun _=>Iff.rfl) (fun k hk=>⟨kO hk,(Gr hk).2⟩) hrep ?_
 obtain ⟨xs',r'⟩:=hrep
 have:=RV.row (P:=P) (w:=w.alloc (.cells cells.toArray e)) (c:=c') (.top (o.dst.getD 0)) e r'.ty r'.Bk
 rwa [hhd] at this
end
section
variable {G:Prg} {ops:Array Oper} {k:Nat} {σ:St} {K:St→Prop}
theorem PW {o:Oper} (ho:Eg ops k=some o) (hg:lY ops σ o=some true) {σ':St} (h:∀ {E:Ent} {S0:Nat→Prop} {N:Nat} {a:Act} {w:World} {c:Ctx},Inv G.P E S0 N σ a w c→(∀ k,o.dst=some k→k<N)→vJ G.P E S0 N o a w σ') (next:EVO G ops (k+1) σ' K):EVO G ops k σ K:=
 Va ho hg (fun _ E S0 N a w c hi hd nx Q hn=>h hi hd nx Q fun a' w' c' hi'=>hn _ _ _ _ next hi') fun e=>nomatch e
def uE (G:Prg) (ops:Array Oper) (k:Nat) (σ:St) (r:Res):Prop:=∃ o,Eg ops k=some o∧lY ops σ o=some true∧∀ {E:Ent} {S0:Nat→Prop} {N:Nat} {a:Act} {w:World} {c:Ctx},Inv G.P E S0 N σ a w c→(∀ k,o.dst=some k→k<N)→vJ G.P E S0 N o a w (r.put σ o.dst)
theorem fF {r:Res} (h:uE G ops k σ r) (next:EVS G ops (k+1) (r.put σ (fX ops k)) K):EVS G ops k σ K:=by
 obtain ⟨o,h1,h2,h3⟩:=h
 rw [tC h1] at next
 exact QA h1 h2 h3 next
theorem PU {r:Res} (h:uE G ops k σ r) (next:EVO G ops (k+1) (r.put σ (fX ops k)) K):EVO G ops k σ K:=by
 obtain ⟨o,h1,h2,h3⟩:=h
 rw [tC h1] at next
 exact PW h1 h2 h3 next
def KG (G:Prg) (ops:Array Oper) (k:Nat) (σ:St):Option PV:=match Bs ops k σ with
 | some o=>(match o.op with
   | .binOp .eql t x (.const (.slice none 0 0)) _=>(match kL G.P t with
     | some _=>some (pev σ x)
     | none=>none)
   | _=>none)
 | none=>none
theorem Sk {es:List (List PV)} (h:KG G ops k σ=some (.sl es)) (h1:es=[]→EVS G ops (k+1) (mU σ (fX ops k) (vB true)) K) (h2:EVS G ops (k+1) (mU σ (fX ops k) (vB false)) K):EVS G ops k σ K:=by
 unfold KG at h
 split at h
 case h_2=>cases h
 rename_i o ho
 split at h
 case h_2=>cases h
 rename_i t x t' hop
 split at h
 case h_2=>cases h
 rename_i e he
 injection h with hx
 obtain ⟨q1,q2⟩:=fH ho
 rw [tC q1] at h1 h2
 refine Nq q1 q2 (fun _ E S0 N a w c hi hd nx Q hn=>?_) fun e=>nomatch e
 obtain ⟨b,hb,hdo⟩:=QX hop he hx hi hd
 refine hdo nx Q fun a' w' c' hi'=>?_
 rw [put_eq] at hi'
 cases b with
 | true=>exact hn _ _ _ _ (h1 (hb rfl)) hi'
 | false=>exact hn _ _ _ _ h2 hi'
def XD (G:Prg) (ops:Array Oper) (k:Nat) (σ:St):Option (Nat×List (List PV)×Nat):=match Bs ops k σ with
 | some o=>(match o.op with
   | .buildSlice t len parts=>(match kL G.P t with
     | some e=>if decide (parts.toList.map (·.1)=List.range len)&&H8 0 (aJ G.P e)&&E6 (len*aJ G.P e) 16777216&&Hf G.P e&&(parts.toList.all fun p=>(pev σ p.2).cells.length==aJ G.P e&&(pev σ p.2).cells.all PV.still) then some (e,parts.toList.map (fun p=>(pev σ p.2).cells),o.dst.getD 0) else none
     | none=>none)
   | _=>none)
 | none=>none
theorem Dr {e d:Nat} {es:List (List PV)} (h:XD G ops k σ=some (e,es,d)):uE G ops k σ (.new d (.row e [] es) (.row (.top d) e)):=by
 unfold XD at h
 split at h
 case h_2=>cases h
 rename_i o ho
 split at h
 case h_2=>cases h
 rename_i t len parts hop
 split at h
 case h_2=>cases h
 rename_i e' he
 split at h
 case isFalse=>cases h
 rename_i hc
 simp only [o8,decide_eq_true_eq] at hc
 obtain ⟨⟨⟨⟨c1,c2⟩,c3⟩,c4⟩,c5⟩:=hc
 simp only [n9,t8] at h
 obtain ⟨rfl,rfl,rfl⟩:=h
 obtain ⟨q1,q2⟩:=fH ho
 exact ⟨o,q1,q2,fun hi hd=>LZ hop he c1 (by simpa using c2) (Nat.le_of_ble_eq_true c3) c4 c5 hi hd⟩
def TJ (G:Prg) (ops:Array Oper) (k:Nat) (σ:St):Option (PV×PV):=match Bs ops k σ with
 | some o=>(match o.op with
   | .index t x ix=>(match G.P.underlying t with
     | some .string=>some (pev σ x,pev σ ix)
     | _=>none)
   | _=>none)
 | none=>none
theorem Uz {s:ByteArray} {i x:Int} {kd:IntKind} (h:TJ G ops k σ=some (.lit (.string s),.lit (.int kd i))) (hx:Zn s i=some x):uE G ops k σ (.val (.lit (.int .u8 x))):=by
 unfold TJ at h
 split at h
 case h_2=>cases h
 rename_i o ho
 split at h
 case h_2=>cases h
 rename_i t y z hop
 split at h
 case h_2=>cases h
 rename_i hu
 simp only [n9,t8] at h
 obtain ⟨h1,h2⟩:=h
 obtain ⟨q1,q2⟩:=fH ho
 refine ⟨o,q1,q2,fun hi hd=>?_⟩
 have r1:=hi.ev y
 rw [h1] at r1
 have r2:=hi.ev z
 rw [h2] at r2
 refine bY hi hd ?_ (.free _ _ (.lit _))
 unfold Zn at hx
 split at hx
 case isFalse=>cases hx
 rename_i h0
 obtain ⟨b,hb,rfl⟩:=s6.1 hx
 unfold execOp
 simp only [hop,r1.iB,r2.iB,Instr.index,asIntOf,o5,o9,m6,run_underlying hu,h0,if_true,hb]
end
end Go.VI
namespace Go.VI
open Go.RowKit
theorem Wg {α:Type} {es ys:List α} {lo:Nat} (h:lo+ys.length≤es.length):(cpy es lo ys).length=es.length:=by unfold cpy;simp;omega
theorem JQ {α:Type} {es ys:List α} {lo:Nat} (h:lo+ys.length≤es.length) (i:Nat):(cpy es lo ys)[i]?=if lo≤i∧i<lo+ys.length then ys[i-lo]? else es[i]?:=by
 have ht:(es.take lo).length=lo:=by simp;omega
 unfold cpy
 by_cases h1:i<lo
 ·rw [K4,x6 (by omega),D9,if_pos h1,if_neg (by omega)]
 ·by_cases h2:i<lo+ys.length
  ·rw [K4,x8 (by omega),ht,x6 (by omega),if_pos ⟨by omega,h2⟩]
  ·rw [x8 (by simp;omega),E8,if_neg (by omega)]
   have:(List.take lo es++ys).length=lo+ys.length:=by simp;omega
   rw [this,show lo+ys.length+(i-(lo+ys.length))=i from by omega]
theorem JR {α β:Type} (f:α→β) (es ys:List α) (lo:Nat):(cpy es lo ys).map f=cpy (es.map f) lo (ys.map f):=by unfold cpy;simp
def Uj (h:HP) (g:Nat):PV→Option (Nat×Nat)
 | .row (.top g') _=>if E4 g' g=true then (match h.get g with
   | some (.row _ _ es)=>some (0,es.length)
   | _=>none) else none
 | .part (.top g') _ lo n=>if E4 g' g=true then some (lo,n) else none
 | _=>none
def JM (m g:Nat):PV→Option (Nat×Nat)
 | .row (.top g') _=>if E4 g' g=true then some (0,m) else none
 | .part (.top g') _ lo n=>if E4 g' g=true then some (lo,n) else none
 | _=>none
theorem JN {h:HP} {g e m:Nat} {J:List (Nat×Nat)} {es:List (List PV)} (hg:h.get g=some (.row e J es)) (hm:es.length=m) (x:PV):Uj h g x=JM m g x:=by
 cases x with
 | row k0 e0 =>
   cases k0 with
   | top g0 =>
     simp only [Uj,JM]
     split
     ·rw [hg];simp [hm]
     ·rfl
   | sub=>rfl
 | part k0 e0 lo0 n0=>cases k0 <;> rfl
 | _=>rfl
theorem Lv (c:Array Value) (m:Nat):c.toList.getD m undef=c.getD m undef:=by simp [o7]
section
variable {P:Program} {E:Ent} {S0:Nat→Prop} {N:Nat} {σ:St} {a:Act} {w:World} {c:Ctx}
theorem DM {e g lo n:Nat} {d:PV} {V:Value} {es:List (List PV)} {xs0:List Value} (r:jB P w c (.top g) e es (eL P w c g []) xs0) (hg:σ.hget g=some (.row e [] es)) (hd0:Uj σ.h g d=some (lo,n)) (rd:RV P w c d V) :
  ∃ B cc',V=.slice B n cc'∧(0<n→B=some ⟨c.τ (.top g),lo*aJ P e,none⟩):=by
 cases rd with
 | free pv v hf=>cases hf <;> simp [Uj] at hd0
 | row k e' he h1 =>
   cases k with
   | sub=>simp [Uj] at hd0
   | top g' =>
     simp only [Uj] at hd0
     split at hd0
     case isFalse=>cases hd0
     rename_i hb
     have:=t7 hb
     subst this
     rw [show σ.h.get g'=some (.row e [] es) from hg] at hd0
     simp only [n9,t8] at hd0
     obtain ⟨rfl,rfl⟩:=hd0
     rcases r.own.2 with ⟨h0,hn⟩ | ⟨g2,cap,cur,h0,_⟩
     ·exact ⟨none,0,by rw [h0,hn],fun q=>by omega⟩
     ·have hob:(c.hd (.top g')).ownBlock=some g2:=by rw [h0];rfl
      obtain ⟨_,hτ⟩:=r.blk g2 hob
      exact ⟨_,cap,h0,fun _=>by rw [hτ,Nat.zero_mul]⟩
 | part k e' lo' n' B cc' he hn hB =>
   cases k with
   | sub=>simp [Uj] at hd0
   | top g' =>
     simp only [Uj] at hd0
     split at hd0
     case isFalse=>cases hd0
     rename_i hb
     have:=t7 hb
     subst this
     simp only [n9,t8] at hd0
     obtain ⟨rfl,rfl⟩:=hd0
     have e1:e'=e:=he.symm.trans r.ty
     subst e1
     exact ⟨B,cc',rfl,hB⟩
 | _=>simp [Uj] at hd0
theorem SS {e g lo m:Nat} {es xs:List (List PV)} {xs0 news:List Value} (r:jB P w c (.top g) e es (eL P w c g []) xs0) (hlen:∀ l ∈ xs,l.length=aJ P e) (hnl:news.length=xs.length*aJ P e) (hone:∀ u ∈ news,u.oneCell'=true)
  (hrep:∀ i j pv,dV xs i j=some pv→RF w c.S pv (news.getD (i*aJ P e+j) undef)) (hm1:m≤xs.length) (hfit:lo+m≤es.length) (hmp:0<m) (h:Inv P E S0 N σ a w c) :
  ∃ (g':Nat) (cur:Array Value),c.τ (.top g)=g'∧(∃ cap',c.hd (.top g)=.slice (some ⟨g',0,none⟩) es.length cap')∧(storeCells ⟨g',lo*aJ P e,none⟩ (news.take (m*aJ P e))).run P w=.ok () (w.setRow g' (jF cur (lo*aJ P e) (news.take (m*aJ P e)))) ∧
    Inv P E S0 N (σ.put g (.row e [] (cpy es lo (xs.take m)))) a (w.setRow g' (jF cur (lo*aJ P e) (news.take (m*aJ P e)))) c:=by
 have hyl:(xs.take m).length=m:=by simp;omega
 obtain ⟨hl,⟨_,hn⟩ | ⟨g',cap',cur,hv,hb,hgc,hnc,hcm,hcs,htake⟩⟩:=r.own
 ·omega
 have hob:(c.hd (.top g)).ownBlock=some g':=by rw [hv];rfl
 obtain ⟨hDk,hτ⟩:=r.blk g' hob
 let ns:=news.take (m*aJ P e)
 have hmul:m*aJ P e≤news.length:=by rw [hnl];exact u7 _ hm1
 have hnsl:ns.length=m*aJ P e:=by simp only [ns,x7];omega
 have hns1:∀ v ∈ ns,v.oneCell'=true:=fun v hv'=>hone v (G4 hv')
 have hfit2:lo*aJ P e+ns.length≤cur.size:=by
  rw [hnsl,hcs,← I5]
  exact u7 _ (by omega)
 have hst:=run_storeCells_at (P:=P) g' (lo*aJ P e) e ns 0 cur w hgc (by simpa using hfit2) hns1
 simp only [K3] at hst
 let c1:=jF cur (lo*aJ P e) ns
 have hst':(storeCells ⟨g',lo*aJ P e,none⟩ ns).run P w=.ok () (w.setRow g' c1):=by simpa [c1,jF] using hst
 have hcl:=Wg (es:=es) (ys:=xs.take m) (lo:=lo) (by omega)
 have hkl:∀ l ∈ cpy es lo (xs.take m),l.length=aJ P e:=fun l hl'=>by
  unfold cpy at hl'
  simp only [q9] at hl'
  rcases hl' with (q | q) | q
  ·exact r.len l (G4 q)
  ·exact hlen l (G4 q)
  ·exact r.len l (M6 q)
 have hgE:∀ i j pv,dV (cpy es lo (xs.take m)) i j=some pv→(lo≤i∧i<lo+m∧dV xs (i-lo) j=some pv)∨(¬ (lo≤i∧i<lo+m)∧dV es i j=some pv):=fun i j pv hg'=>by
  unfold dV at hg' ⊢
  rw [JQ (by omega),hyl] at hg'
  split at hg'
  ·rename_i q
   rw [D9,if_pos (by omega)] at hg'
   exact .inl ⟨q.1,q.2,hg'⟩
  ·rename_i q
   exact .inr ⟨q,hg'⟩
 have hval : ∀ i j,j<aJ P e→i<es.length→c1.getD (i*aJ P e+j) undef=if lo≤i∧i<lo+m then news.getD ((i-lo)*aJ P e+j) undef else xs0.getD (i*aJ P e+j) undef:=fun i j hj hi=>by
  have hlt:=kX hi hj
  rw [Af hfit2,hnsl]
  have iff_:(lo*aJ P e≤i*aJ P e+j∧i*aJ P e+j<lo*aJ P e+m*aJ P e)↔(lo≤i∧i<lo+m):=by
   rw [← I5]
   constructor
   ·rintro ⟨q1,q2⟩
    refine ⟨?_, ?_⟩
    ·rcases G3 i lo with q | q
     ·have:=u7 (aJ P e) (show i+1≤lo from q)
      rw [I5] at this;omega
     ·exact q
    ·rcases G3 i (lo+m) with q | q
     ·exact q
     ·have:=u7 (aJ P e) q;omega
   ·rintro ⟨q1,q2⟩
    have h1:=u7 (aJ P e) q1
    have h2:=u7 (aJ P e) (show i+1≤lo+m from q2)
    rw [I5] at h2
    omega
  by_cases q:lo≤i∧i<lo+m
  ·rw [if_pos (iff_.2 q),if_pos q]
   have e1:i*aJ P e+j-lo*aJ P e=(i-lo)*aJ P e+j:=by rw [Nat.sub_mul];have:=u7 (aJ P e) q.1;omega
   have hin:(i-lo)*aJ P e+j<m*aJ P e:=kX (by omega) hj
   rw [e1,pM _ _ _ hin]
  ·rw [if_neg (fun hh=>q (iff_.1 hh)),if_neg q,← htake,pM _ _ _ hlt]
   simp [o7]
 have hrow:oW P (w.setRow g' c1) c g (.row e [] (cpy es lo (xs.take m))):=by
  have hh':(w.setRow g' c1).heap[g']?=some (.cells c1 e (0,0)):=by
   unfold World.setRow
   rw [R9,if_pos rfl,hgc];rfl
  refine ⟨c1.toList.take (es.length*aJ P e),r.ty,r.pos,hkl, ?_,r.blk,fun i j pv hg'=>?_,fun i j pv hg'=>?_⟩
  ·rw [hcl]
   have hc1:c1.size=cur.size:=Ek hfit2
   refine ⟨?_,.inr ⟨g',cap',c1,hv,hb,hh',hnc,hcm,by rw [hc1,hcs],rfl⟩⟩
   simp only [x7,K6,hc1,hcs]
   have:=u7 (aJ P e) hnc
   omega
  ·have hlt:=jQ hkl hg'
   rw [hcl] at hlt
   rw [pM _ _ _ (kX hlt.1 hlt.2),Lv,hval i j hlt.2 hlt.1]
   rcases hgE i j pv hg' with ⟨q1,q2,q3⟩ | ⟨q1,q3⟩
   ·rw [if_pos ⟨q1,q2⟩]
    have hlt2:=jQ hlen q3
    have hin:=kX hlt2.1 hlt2.2
    rw [← hnl] at hin
    rw [m8,l8 hin]
    exact hone _ (F9 hin)
   ·rw [if_neg q1];exact r.one i j pv q3
  ·have hlt:=jQ hkl hg'
   rw [hcl] at hlt
   rw [pM _ _ _ (kX hlt.1 hlt.2),Lv,hval i j hlt.2 hlt.1]
   have hsame:Ga c.S w (w.setRow g' c1):=fun b hS=>setRow_other w g' b c1 fun q=>(h.ok.hD _ hDk).2.2 (by rw [hτ];exact q ▸ hS)
   have lift:∀ {v:Value},RF w c.S pv v→RF (w.setRow g' c1) c.S pv v:=fun hr=>RF.same hsame (fun _ h=>h) hr
   have:RF (w.setRow g' c1) c.S pv (if lo≤i∧i<lo+m then news.getD ((i-lo)*aJ P e+j) undef else xs0.getD (i*aJ P e+j) undef):=by
    rcases hgE i j pv hg' with ⟨q1,q2,q3⟩ | ⟨q1,q3⟩
    ·rw [if_pos ⟨q1,q2⟩];exact lift (hrep _ _ pv q3)
    ·rw [if_neg q1];exact lift (r.rep i j pv q3)
   exact this
 have hinv:=h.write (k0:=.top g) hDk c1 (o:=.row e [] (cpy es lo (xs.take m))) (by rw [hτ];exact hrow)
 rw [hτ] at hinv
 exact ⟨g',cur,hτ,⟨cap',hv⟩,hst',hinv⟩
theorem UQ {o : Oper} {t t' e g lo n:Nat} {d x:Operand} {es xs:List (List PV)} (ho:o.op=.call { callee:=.builtin .copy,args:=#[d,x],argTypes:=#[t,t'] }) (ht:kL P t=some e) (hinfo:∃ i,P.info? e=some i)
  (hg:σ.hget g=some (.row e [] es)) (hd0:Uj σ.h g (pev σ d)=some (lo,n)) (hfit:lo+n≤es.length) (hxs:(pev σ x).elems σ.h=some xs) (hflat:(pev σ x).flat σ.h=true) (hlen:∀ l ∈ xs,l.length=aJ P e)
  (h:Inv P E S0 N σ a w c) (hd:∀ k,o.dst=some k→k<N) :
  vJ P E S0 N o a w (Res.put σ o.dst ⟨[],[(g,.row e [] (cpy es lo (xs.take (min xs.length n))))],.lit (.int .i64 (min xs.length n:Nat))⟩):=by
 obtain ⟨xs0,r⟩:=h.fE g _ hg
 have hk0:=r.pos
 -- the source
 obtain ⟨A,cc,news,hX,hnl,hA,hcells,hone,hrep⟩:=Np h.fE (h.ev x) hxs hflat hlen hk0
 have hD:=DM r hg hd0 (h.ev d)
 obtain ⟨B,cc',hV,hB⟩:=hD
 have hu:=kM ht
 generalize hm:min xs.length n=m
 have hm1:m≤xs.length:=by omega
 have hm2:m≤n:=by omega
 have hmn:Nat.min xs.length n=m:=hm
 have hyl:(xs.take m).length=m:=by simp;omega
 -- nothing to be copied
 rcases P5 m with hm0 | hmp
 ·have hrun:(Builtin.copy_ #[t,t'] o.type #[a.eval d,a.eval x]).run P w=.ok (goInt 0) w:=by
   rw [hV,hX]
   have hfc:(Builtin.firstCells (aJ P e) 0 (.slice A xs.length cc)).run P w=.ok #[] w:=by
    cases A with
    | none=>exact run_firstCells_none (P:=P) (w:=w) (aJ P e) 0 xs.length cc
    | some ad => have := run_firstCells_some (P := P) (w := w) (aJ P e) 0 ad xs.length cc [] (by simp) (by simp)
                 simpa using this
   unfold Builtin.copy_
   simp only [J0,I0,J6,o5,run_underlying hu,m6,Builtin.lenOf,o9,hmn,hm0,run_sizeOf hinfo,hfc]
   cases B <;> simp [storeCells,o5,o9]
  have hexec:(execOp a.eval o).run P w=.ok (.value (.int .i64 0)) w:=by
   unfold execOp
   simp only [ho,resolve,invoke,builtin,o5,o9,m6,I9,E1,H9,hrun]
   rfl
  have hes:cpy es lo (xs.take m)=es:=by rw [hm0];unfold cpy;simp
  rw [hes]
  have hinv:Inv P E S0 N (σ.put g (.row e [] es)) a w c:=by
   refine ⟨h.below,h.ok,h.sub,h.sup,h.slots,fun g' o' hg'=>?_,h.pin,h.small,h.size,h.defers⟩
   rw [eH] at hg'
   split at hg'
   ·rename_i e';subst e';injection hg' with hg';subst hg';exact h.fE _ _ hg
   ·exact h.fE g' o' hg'
  have:=mQ (σ:=σ) (r:=⟨[],[(g,.row e [] es)],.lit (.int .i64 (m:Nat))⟩) (c':=c) hd (.inl hexec) hinv (by rw [hm0];exact .free _ _ (.lit _))
  exact this
 ·-- the row's block
  obtain ⟨hl,⟨_,hn⟩ | ⟨g',cap',cur,hv,hb,hgc,hnc,hcm,hcs,htake⟩⟩:=r.own
  ·omega
  have hob:(c.hd (.top g)).ownBlock=some g':=by rw [hv];rfl
  obtain ⟨hDk,hτ⟩:=r.blk g' hob
  have hBs:=hB (by omega)
  obtain ⟨ad,had⟩:=hA (by intro q;rw [q] at hm1;simp at hm1;omega)
  let ns:=news.take (m*aJ P e)
  have hmul:m*aJ P e≤news.length:=by rw [hnl];exact u7 _ hm1
  have hnsl:ns.length=m*aJ P e:=by simp only [ns,x7];omega
  have hfc:(Builtin.firstCells (aJ P e) m (.slice (some ad) xs.length cc)).run P w=.ok ns.toArray w:=by
   refine run_firstCells_some (P:=P) (w:=w) (aJ P e) m ad xs.length cc ns hnsl fun j v hj=>?_
   have:news[j]?=some v:=by
    simp only [ns,D9] at hj
    split at hj
    ·exact hj
    ·cases hj
   exact hcells ad had j v this
  have hns1:∀ v ∈ ns,v.oneCell'=true:=fun v hv'=>hone v (G4 hv')
  have hfit2:lo*aJ P e+ns.length≤cur.size:=by
   rw [hnsl,hcs,← I5]
   exact u7 _ (by omega)
  have hst:=run_storeCells_at (P:=P) g' (lo*aJ P e) e ns 0 cur w hgc (by simpa using hfit2) hns1
  simp only [K3] at hst
  let c1:=jF cur (lo*aJ P e) ns
  have hst':(storeCells ⟨g',lo*aJ P e,none⟩ ns).run P w=.ok () (w.setRow g' c1):=by simpa [c1,jF] using hst
  have hrun:(Builtin.copy_ #[t,t'] o.type #[a.eval d,a.eval x]).run P w=.ok (goInt m) (w.setRow g' c1):=by
   rw [hV,hX,hBs,had,hτ]
   unfold Builtin.copy_
   simp only [J0,I0,J6,o5,run_underlying hu,m6,Builtin.lenOf,o9,hmn,run_sizeOf hinfo,hfc,hst']
  have hexec:(execOp a.eval o).run P w=.ok (.value (.int .i64 (m:Nat))) (w.setRow g' c1):=by
   unfold execOp
   simp only [ho,resolve,invoke,builtin,o5,o9,m6,I9,E1,H9,hrun]
   rfl
  have hcl:=Wg (es:=es) (ys:=xs.take m) (lo:=lo) (by omega)
  have hkl:∀ l ∈ cpy es lo (xs.take m),l.length=aJ P e:=fun l hl'=>by
   unfold cpy at hl'
   simp only [q9] at hl'
   rcases hl' with (q | q) | q
   ·exact r.len l (G4 q)
   ·exact hlen l (G4 q)
   ·exact r.len l (M6 q)
  have hgE:∀ i j pv,dV (cpy es lo (xs.take m)) i j=some pv→(lo≤i∧i<lo+m∧dV xs (i-lo) j=some pv)∨(¬ (lo≤i∧i<lo+m)∧dV es i j=some pv):=fun i j pv hg'=>by
   unfold dV at hg' ⊢
   rw [JQ (by omega),hyl] at hg'
   split at hg'
   ·rename_i q
    rw [D9,if_pos (by omega)] at hg'
    exact .inl ⟨q.1,q.2,hg'⟩
   ·rename_i q
    exact .inr ⟨q,hg'⟩
  have hval : ∀ i j,j<aJ P e→i<es.length→c1.getD (i*aJ P e+j) undef=if lo≤i∧i<lo+m then news.getD ((i-lo)*aJ P e+j) undef else xs0.getD (i*aJ P e+j) undef:=fun i j hj hi=>by
   have hlt:=kX hi hj
   rw [Af hfit2,hnsl]
   have iff_:(lo*aJ P e≤i*aJ P e+j∧i*aJ P e+j<lo*aJ P e+m*aJ P e)↔(lo≤i∧i<lo+m):=by
    rw [← I5]
    constructor
    ·rintro ⟨q1,q2⟩
     refine ⟨?_, ?_⟩
     ·rcases G3 i lo with q | q
      ·have:=u7 (aJ P e) (show i+1≤lo from q)
       rw [I5] at this;omega
      ·exact q
     ·rcases G3 i (lo+m) with q | q
      ·exact q
      ·have:=u7 (aJ P e) q;omega
    ·rintro ⟨q1,q2⟩
     have h1:=u7 (aJ P e) q1
     have h2:=u7 (aJ P e) (show i+1≤lo+m from q2)
     rw [I5] at h2
     omega
   by_cases q:lo≤i∧i<lo+m
   ·rw [if_pos (iff_.2 q),if_pos q]
    have e1:i*aJ P e+j-lo*aJ P e=(i-lo)*aJ P e+j:=by rw [Nat.sub_mul];have:=u7 (aJ P e) q.1;omega
    have hin:(i-lo)*aJ P e+j<m*aJ P e:=kX (by omega) hj
    rw [e1,pM _ _ _ hin]
   ·rw [if_neg (fun hh=>q (iff_.1 hh)),if_neg q,← htake,pM _ _ _ hlt]
    simp [o7]
  have hrow:oW P (w.setRow g' c1) c g (.row e [] (cpy es lo (xs.take m))):=by
   have hh':(w.setRow g' c1).heap[g']?=some (.cells c1 e (0,0)):=by
    unfold World.setRow
    rw [R9,if_pos rfl,hgc];rfl
   refine ⟨c1.toList.take (es.length*aJ P e),r.ty,r.pos,hkl, ?_,r.blk,fun i j pv hg'=>?_,fun i j pv hg'=>?_⟩
   ·rw [hcl]
    have hc1:c1.size=cur.size:=Ek hfit2
    refine ⟨?_,.inr ⟨g',cap',c1,hv,hb,hh',hnc,hcm,by rw [hc1,hcs],rfl⟩⟩
    simp only [x7,K6,hc1,hcs]
    have:=u7 (aJ P e) hnc
    omega
   ·have hlt:=jQ hkl hg'
    rw [hcl] at hlt
    rw [pM _ _ _ (kX hlt.1 hlt.2),Lv,hval i j hlt.2 hlt.1]
    rcases hgE i j pv hg' with ⟨q1,q2,q3⟩ | ⟨q1,q3⟩
    ·rw [if_pos ⟨q1,q2⟩]
     have hlt2:=jQ hlen q3
     have hin:=kX hlt2.1 hlt2.2
     rw [← hnl] at hin
     rw [m8,l8 hin]
     exact hone _ (F9 hin)
    ·rw [if_neg q1];exact r.one i j pv q3
   ·have hlt:=jQ hkl hg'
    rw [hcl] at hlt
    rw [pM _ _ _ (kX hlt.1 hlt.2),Lv,hval i j hlt.2 hlt.1]
    have hsame:Ga c.S w (w.setRow g' c1):=fun b hS=>setRow_other w g' b c1 fun q=>(h.ok.hD _ hDk).2.2 (by rw [hτ];exact q ▸ hS)
    have lift:∀ {v:Value},RF w c.S pv v→RF (w.setRow g' c1) c.S pv v:=fun hr=>RF.same hsame (fun _ h=>h) hr
    have:RF (w.setRow g' c1) c.S pv (if lo≤i∧i<lo+m then news.getD ((i-lo)*aJ P e+j) undef else xs0.getD (i*aJ P e+j) undef):=by
     rcases hgE i j pv hg' with ⟨q1,q2,q3⟩ | ⟨q1,q3⟩
     ·rw [if_pos ⟨q1,q2⟩];exact lift (hrep _ _ pv q3)
     ·rw [if_neg q1];exact lift (r.rep i j pv q3)
    exact this
  have hinv:=h.write (k0:=.top g) hDk c1 (o:=.row e [] (cpy es lo (xs.take m))) (by rw [hτ];exact hrow)
  rw [hτ] at hinv
  exact mQ (σ:=σ) (r:=⟨[],[(g,.row e [] (cpy es lo (xs.take m)))],.lit (.int .i64 (m:Nat))⟩) (c':=c) hd (.inl hexec) hinv (.free _ _ (.lit _))
theorem Pg (z:Array Value) (n:Nat):(Builtin.zeroCells z n).toList.length=n*z.size:=by simp [Builtin.zeroCells]
theorem Zo {z:Array Value} {n i j:Nat} (hi:i<n) (hj:j<z.size):(Builtin.zeroCells z n).toList.getD (i*z.size+j) undef=z.getD j undef:=by
 have hlt:i*z.size+j<n*z.size:=kX hi hj
 have hmod:(i*z.size+j)%z.size=j:=by rw [Nat.add_comm,Nat.add_mul_mod_self_right,Nat.mod_eq_of_lt hj]
 have hlt2:i*z.size+j<(Array.range (n*z.size)).size:=by simpa using hlt
 have hz:0<z.size:=by omega
 simp only [Builtin.zeroCells,M3,T4,m8,p8,G8 hlt,s8,H2,hmod]
 rw [getElem!_pos z j hj]
 simp [o7,hj]
theorem PJ {o:Oper} {t e g lo n:Nat} {d:Operand} {es:List (List PV)} {z:Value} (ho:o.op=.call { callee:=.builtin .clear,args:=#[d],argTypes:=#[t] }) (ht:kL P t=some e) (hz:Hg P e=some z) (hrow:Hf P e=true) (hz1:z.cells.toList.all Value.oneCell'=true)
  (hg:σ.hget g=some (.row e [] es)) (hd0:Uj σ.h g (pev σ d)=some (lo,n)) (hfit:lo+n≤es.length) (h:Inv P E S0 N σ a w c) (hd:∀ k,o.dst=some k→k<N) :
  vJ P E S0 N o a w (Res.put σ o.dst ⟨[],[(g,.row e [] (cpy es lo (q8 n (z.cells.toList.map ofE))))],.tup []⟩):=by
 obtain ⟨i,z',hi,hz',hsz,hby,hzs,hsize⟩:=vH hrow
 obtain rfl:z'=z:=by unfold Hg at hz;simp [hi,hz'] at hz;exact hz
 obtain ⟨xs0,r⟩:=h.fE g _ hg
 have hk0:=r.pos
 obtain ⟨B,cc',hV,hB⟩:=DM r hg hd0 (h.ev d)
 have hu:=kM ht
 have hzv:(zeroValue e).run P w=.ok z' w:=by simp [zeroValue,typeInfo,hi,hz']
 have hval:∀ {w':World},(Builtin.clear_ #[t] o.type #[a.eval d]).run P w=.ok (.tuple #[]) w'→(execOp a.eval o).run P w=.ok (.value (.tuple #[])) w':=fun hrun=>by
  unfold execOp
  simp only [ho,resolve,invoke,builtin,o5,o9,m6,I9,E1,H9,hrun]
 rcases P5 n with hn0 | hnp
 ·subst hn0
  have hrun:(Builtin.clear_ #[t] o.type #[a.eval d]).run P w=.ok (.tuple #[]) w:=by
   rw [hV]
   unfold Builtin.clear_
   cases B <;> simp only [J0,I0,o5,run_underlying hu,m6,o9]
  have hes:cpy es lo (q8 0 (z'.cells.toList.map ofE))=es:=by unfold cpy;simp
  rw [hes]
  have hinv:Inv P E S0 N (σ.put g (.row e [] es)) a w c:=by
   refine ⟨h.below,h.ok,h.sub,h.sup,h.slots,fun g' o' hg'=>?_,h.pin,h.small,h.size,h.defers⟩
   rw [eH] at hg'
   split at hg'
   ·rename_i e';subst e';injection hg' with hg';subst hg';exact h.fE _ _ hg
   ·exact h.fE g' o' hg'
  exact mQ (σ:=σ) (r:=⟨[],[(g,.row e [] es)],.tup []⟩) (c':=c) hd (.inl (hval hrun)) hinv (.free _ _ (.tup _ _ rfl (by simp)))
 ·have hzl:(z'.cells.toList.map ofE).length=aJ P e:=by simp [hzs,hsize]
  have hzn:z'.cells.size=aJ P e:=by rw [hzs,hsize]
  obtain ⟨g',cur,hτ,⟨cap',hhd⟩,hst,hinv⟩:=SS (m:=n) (lo:=lo) (xs:=q8 n (z'.cells.toList.map ofE)) (news:=(Builtin.zeroCells z'.cells n).toList) r (fun l hl=>by rw [List.eq_of_mem_replicate hl];exact hzl) (by rw [Pg,List.length_replicate,hzn])
   (fun u hu'=>by
    obtain ⟨q,hq⟩:=u6.1 hu'
    have hql:=cV hq
    simp only [Builtin.zeroCells,M3,T4] at hq
    rw [p8] at hq
    obtain ⟨v,hv,rfl⟩:=s6.1 hq
    have hpos:0<z'.cells.size:=by omega
    have hm:=Nat.mod_lt v hpos
    rw [getElem!_pos z'.cells _ hm]
    exact p7.1 hz1 _ (by simp))
   (fun i j pv hgE=>by
    unfold dV at hgE
    rw [List.getElem?_replicate] at hgE
    split at hgE
    case isFalse=>cases hgE
    rename_i hi'
    simp only [i9,p8] at hgE
    obtain ⟨u,hu',rfl⟩:=s6.1 hgE
    have hj:j<z'.cells.size:=by have:=cV hu';simpa using this
    rw [← hzn,Zo hi' hj]
    have:z'.cells.getD j undef=u:=by
     rw [w9] at hu'
     simp [o7,hu']
    rw [this]
    exact RX w c.S u) (by simp) hfit hnp h
  have htk:((Builtin.zeroCells z'.cells n).toList.take (n*aJ P e))=(Builtin.zeroCells z'.cells n).toList:=N9 (by rw [Pg,hzn];exact v7 _)
  have htr:(q8 n (z'.cells.toList.map ofE)).take n=q8 n (z'.cells.toList.map ofE):=N9 (by simp)
  rw [htk] at hst
  rw [htr] at hinv
  have hBs:=hB hnp
  have hrun:(Builtin.clear_ #[t] o.type #[a.eval d]).run P w=.ok (.tuple #[]) (w.setRow g' (jF cur (lo*aJ P e) (Builtin.zeroCells z'.cells n).toList)):=by
   rw [hV,hBs,hτ]
   obtain ⟨n',rfl⟩:∃ n',n=n'+1:=⟨n-1,by omega⟩
   unfold Builtin.clear_
   simp only [J0,I0,o5,run_underlying hu,m6,hzv,hst,o9]
  exact mQ (σ:=σ) (r:=⟨[],[(g,.row e [] (cpy es lo (q8 n (z'.cells.toList.map ofE))))],.tup []⟩) (c':=c) hd (.inl (hval hrun)) (by rw [htk] at hinv;exact hinv) (.free _ _ (.tup _ _ rfl (by simp)))
end
section
variable {G:Prg} {ops:Array Oper} {k:Nat} {σ:St} {K:St→Prop}
def XF (G:Prg) (ops:Array Oper) (k:Nat) (σ:St):Option (PV×PV×Nat×Nat):=match Bs ops k σ with
 | some o=>(match o.op with
   | .call { callee:=.builtin .copy,args:=args,argTypes:=tys }=>(match args.toList,tys.toList with
     | [d,x],[t,_]=>(match kL G.P t with
       | some e=>if (G.P.info? e).isSome=true then some (pev σ d,pev σ x,e,aJ G.P e) else none
       | none=>none)
     | _,_=>none)
   | _=>none)
 | none=>none
theorem UM {α:Type} {c:α→List PV} {l l2:List α} {d x:PV} {e sz g lo n:Nat} (h:XF G ops k σ=some (d,x,e,sz)) (hg:σ.h.get g=some (.row e [] (l.map c))) (hd:JM l.length g d=some (lo,n)) (hfit:lo+n≤l.length)
  (hx:x.elems σ.h=some (l2.map c)) (hf:x.flat σ.h=true) (hs:∀ y,(c y).length=sz):uE G ops k σ ⟨[],[(g,.row e [] ((cpy l lo (l2.take (min l2.length n))).map c))],vI (min l2.length n:Nat)⟩:=by
 unfold XF at h
 split at h
 case h_2=>cases h
 rename_i o ho
 split at h
 case h_2=>cases h
 rename_i args tys hop
 split at h
 case h_2=>cases h
 rename_i d' x' t t' hargs htys
 split at h
 case h_2=>cases h
 rename_i e' he
 split at h
 case isFalse=>cases h
 rename_i hinf
 simp only [n9,t8] at h
 obtain ⟨rfl,rfl,rfl,rfl⟩:=h
 obtain ⟨q1,q2⟩:=fH ho
 obtain rfl:args=#[d',x']:=E9.1 hargs
 obtain rfl:tys=#[t,t']:=E9.1 htys
 refine ⟨o,q1,q2,fun hi hdd=>?_⟩
 have hd2:Uj σ.h g (pev σ d')=some (lo,n):=by rw [JN hg (p9 _)];exact hd
 have:=UQ (n:=n) hop he (u9.1 hinf) hg hd2 (by simpa using hfit) hx hf (fun r hr=>by
  obtain ⟨y,_,rfl⟩:=E3.1 hr
  exact hs y) hi hdd
 rw [p9,← List.map_take,← JR] at this
 exact this
theorem Xs {α:Type} {l:List α} {lo hi:Int} (h:(decide (0≤lo)&&(decide (lo≤hi)&&decide (hi≤(l.length:Int))))=true):lo.toNat+(hi.toNat-lo.toNat)≤l.length:=by
 simp only [o8,decide_eq_true_eq] at h
 omega
theorem Vm {α:Type} {c:α→List PV} {l:List α} {kk:Key} {e sz:Nat} {k1:IntKind} {lo:Int} (h:OD G ops k σ=some (.row kk e,sz,some (.lit (.int k1 lo)),none)) (hr:σ.h.rowAt kk=some (l.map c)) (hs:∀ y,(c y).length=sz)
  (hb:(decide (0≤lo)&&(decide (lo≤(l.length:Int))&&decide ((l.length:Int)≤(l.length:Int))))=true):eX G ops k σ=some (.val (.part kk e lo.toNat ((l.length:Int).toNat-lo.toNat))):=by
 simp only [o8,decide_eq_true_eq] at hb
 exact ZO h hr hs (by simp only [loN,Bt hb.1]) (by simp only [hiN];congr 1) ⟨by omega,by omega⟩
def XE (G:Prg) (ops:Array Oper) (k:Nat) (σ:St):Option (PV×Nat×List PV):=match Bs ops k σ with
 | some o=>(match o.op with
   | .call { callee:=.builtin .clear,args:=args,argTypes:=tys }=>(match args.toList,tys.toList with
     | [d],[t]=>(match kL G.P t with
       | some e=>(match Hg G.P e with
         | some z=>if (Hf G.P e&&z.cells.toList.all Value.oneCell')=true then some (pev σ d,e,z.cells.toList.map ofE) else none
         | none=>none)
       | none=>none)
     | _,_=>none)
   | _=>none)
 | none=>none
theorem Vy {α:Type} {c:α→List PV} {l:List α} {z:α} {d:PV} {e g lo n:Nat} {zs:List PV} (h:XE G ops k σ=some (d,e,zs)) (hg:σ.h.get g=some (.row e [] (l.map c))) (hd:JM l.length g d=some (lo,n)) (hfit:lo+n≤l.length) (hz:zs=c z) :
  uE G ops k σ ⟨[],[(g,.row e [] ((cpy l lo (q8 n z)).map c))],.tup []⟩:=by
 unfold XE at h
 split at h
 case h_2=>cases h
 rename_i o ho
 split at h
 case h_2=>cases h
 rename_i args tys hop
 split at h
 case h_2=>cases h
 rename_i d' t hargs htys
 split at h
 case h_2=>cases h
 rename_i e' he
 split at h
 case h_2=>cases h
 rename_i z' hz'
 split at h
 case isFalse=>cases h
 rename_i hc
 simp only [o8] at hc
 simp only [n9,t8] at h
 obtain ⟨rfl,rfl,h3⟩:=h
 obtain ⟨q1,q2⟩:=fH ho
 obtain rfl:args=#[d']:=E9.1 hargs
 obtain rfl:tys=#[t]:=E9.1 htys
 refine ⟨o,q1,q2,fun hi hdd=>?_⟩
 have:=PJ (n:=n) (lo:=lo) hop he hz' hc.1 hc.2 hg (by rw [JN hg (p9 _)];exact hd) (by simpa using hfit) hi hdd
 rw [h3,hz,← U2,← JR] at this
 exact this
def cutAt (G:Prg) (ops:Array Oper) (k:Nat) (σ:St):Option (PV×Nat×PV):=match Bs ops k σ with
 | some o=>(match o.op with
   | .slice t x none (some y) none=>(match kL G.P t with
     | some e=>if (G.P.info? e).isSome=true then some (pev σ x,e,pev σ y) else none
     | none=>none)
   | _=>none)
 | none=>none
theorem GL {α:Type} {c:α→List PV} {l l':List α} {e g:Nat} {J:List (Nat×Nat)} {k2:IntKind} {hi:Int} (h:cutAt G ops k σ=some (.row (.top g) e,e,.lit (.int k2 hi))) (hg:σ.h.get g=some (.row e J (l.map c))) (hp:H8 g PIN=true) (hl:slc l 0 hi=some l') :
  uE G ops k σ ⟨[dU g],[(g,.row e J (l'.map c))],.row (.top g) e⟩:=by
 obtain ⟨⟨h1,h2,h3⟩,rfl⟩:=ZJ hl
 unfold cutAt at h
 split at h
 case h_2=>cases h
 rename_i o ho
 split at h
 case h_2=>cases h
 rename_i t x y hop
 split at h
 case h_2=>cases h
 rename_i e' he
 split at h
 case isFalse=>cases h
 rename_i hinf
 simp only [n9,t8] at h
 obtain ⟨hx,rfl,hy⟩:=h
 obtain ⟨q1,q2⟩:=fH ho
 refine ⟨o,q1,q2,fun hi' hdd=>?_⟩
 have:=YO (n:=hi.toNat) hop he hinf (by simpa using hp) hx (by rw [hy];exact Bt h2) hg (by simp;omega) hi' hdd
 rw [← List.map_take] at this
 simpa using this
theorem Xf {α:Type} {l:List α} {lo n:Nat} {i:Int} {x:α} (h:idx ((l.drop lo).take n) i=some x):l[lo+i.toNat]?=some x:=by
 obtain ⟨_,h1⟩:=Mp h
 rw [D9] at h1
 split at h1
 ·rwa [E8] at h1
 ·cases h1
theorem WV {kk:Key} {e lo n:Nat} (h:Ov G ops k σ=some (.part kk e lo n)):eX G ops k σ=some (.val (.lit (.int .i64 n))):=by
 unfold Ov at h
 split at h
 case h_2=>cases h
 rename_i o ho
 split at h
 case h_2=>cases h
 rename_i cl hop
 split at h
 case h_2=>cases h
 rename_i hcal
 split at h
 case h_2=>cases h
 rename_i a t hargs hty
 split at h
 case h_2=>cases h
 rename_i e he
 injection h with h
 refine Dq ho (by rw [hop];simp only [oD,hcal]) ?_
 rw [hop]
 simp only [kQ,Tb,hcal,hargs,hty,he,h,Us]
 rfl
end
end Go.VI
namespace Go.VI
open Go.RowKit
section
variable {P:Program} {E:Ent} {S0:Nat→Prop} {N:Nat} {σ:St} {a:Act} {w:World} {c:Ctx}
def OP (P:Program) (E:Ent) (o:Oper) (a:Act) (w:World) (c:Ctx) (g e:Nat) (ob:HO):Prop:=
 ∃ (v:Value) (w':World) (c':Ctx),(execOp a.eval o).run P w=.ok (.value v) w'∧E.Fr w'∧c'.Ok E.M w'∧Ga c.S w w'∧(∀ b,c'.S b↔c.S b)∧(∀ k,k.tag≠g→Agree c c' k) ∧
   (∀ k,c.D k→k.tag≠g→w'.heap[c.τ k]?=w.heap[c.τ k]?∧c'.D k)∧oW P w' c' g ob∧RV P w' c' (.row (.top g) e) v
theorem LW {o:Oper} {t e g:Nat} {s x:Operand} {es es2:List (List PV)} (ho:o.op=.call { callee:=.builtin .append,args:=#[s,x],argTypes:=#[t,t] }) (ht:kL P t=some e) (hrow:Hf P e=true) (hs:pev σ s=.row (.top g) e) (hgR:σ.hget g=some (.row e [] es)) (hpin:g<PIN)
  (hel:(pev σ x).elems σ.h=some es2) (hflat:(pev σ x).flat σ.h=true) (hk2:∀ l ∈ es2,l.length=aJ P e) (hlim:es.length+es2.length≤LIM) (h:Inv P E S0 N σ a w c):OP P E o a w c g e (.row e [] (es++es2)):=by
 have rs:=h.ev s
 have rx:=h.ev x
 rw [hs] at rs
 obtain ⟨i,z,hi,hz,hsz,hby,hzs,hsize⟩:=vH hrow
 have hu:=kM ht
 have hexec:∀ v' w',(Builtin.append_ #[t,t] o.type #[a.eval s,a.eval x]).run P w=.ok v' w'→(execOp a.eval o).run P w=.ok (.value v') w':=by
  intro v' w' hrun
  unfold execOp
  simp only [ho,resolve,invoke,builtin,o5,o9,m6,I9,E1,H9,hrun]
 have hVs:a.eval s=c.hd (.top g):=by
  generalize a.eval s=X at rs
  cases rs with
  | free _ _ hf=>cases hf
  | row=>rfl
 rw [hVs] at hexec
 obtain ⟨A,cc,news,hX,hnl,hA,hcell,h1,hrf⟩:=Np h.fE rx hel hflat hk2 (by omega)
 rw [hX] at hexec
 have hA':es2.length≠0→∃ ad,A=some ad:=fun hne=>hA (by rintro rfl;simp at hne)
 obtain ⟨xs,rr⟩:=h.fE g _ hgR
 have hRF:∀ i j pv,dV es i j=some pv→RF w c.S pv (xs.getD (i*aJ P e+j) undef):=fun i j pv hg=>rr.rep i j pv hg
 obtain ⟨v',w',hrun,hown',hgrow,hblk⟩:=Bu (P:=P) 0 t o.type e i z (aJ P e) hu hi hz hsize hby hzs rr.pos (c.hd (.top g)) es.length xs rr.own A es2.length cc news hnl hA' hcell h1 hlim (M0 _)
 have hVb:∀ b,(c.hd (.top g)).ownBlock=some b→E.M b∧¬ c.S b∧∀ k',k'.tag≠g→c.D k'→c.τ k'≠b:=fun b hb'=>by
  obtain ⟨q1,q2⟩:=rr.blk b hb'
  have:=h.ok.hD _ q1
  rw [q2] at this
  exact ⟨this.1,this.2.2,fun k' hne hg' e=>hne (by rw [h.ok.inj _ _ hg' q1 (by rw [e,q2])];rfl)⟩
 have hsame:∀ b,b<w.heap.size→(c.hd (.top g)).ownBlock≠some b→w'.heap[b]?=w.heap[b]?:=fun b hb' hne=>hgrow.block b hb' (Ne.symm hne)
 have hS:Ga c.S w w':=fun b hS=>hsame b (h.ok.hS b hS) fun e=>(hVb b e).2.1 hS
 have below:E.Fr w':=⟨hgrow.os.trans h.below.os,hgrow.tape.trans h.below.tape,hgrow.output.trans h.below.output,J1 h.below.size hgrow.size,fun k hk' hm=>(hsame k (D8 hk' h.below.size) fun e=>hm (hVb k e).1).trans (h.below.block k hk' hm)⟩
 -- the block of the new row
 let b:=(v'.ownBlock).getD 0
 let c':=c.lay g b v' e (v'.ownBlock.isSome=true)
 have hbb:v'.ownBlock.isSome=true→E.M b∧b<w'.heap.size∧¬ c.S b∧∀ k',k'.tag≠g→c.D k'→c.τ k'≠b:=fun hs=>by
  obtain ⟨b',hb'⟩:=u9.1 hs
  have hbe:b=b':=by simp [b,hb']
  rw [hbe]
  have hlt:b'<w'.heap.size:=(hown'.lt b' hb').2
  rcases hblk with hq | hq
  ·have:=hVb b' (by rw [← hq,hb'])
   exact ⟨this.1,hlt,this.2.1,this.2.2⟩
  ·rw [hb'] at hq
   injection hq with hq
   subst hq
   exact ⟨h.below.mine (v7 _),hlt,fun hS=>by have:=h.ok.hS _ hS;omega,fun k' _ hg' e=>by have:=(h.ok.hD k' hg').2.1;omega⟩
 have hok:c'.Ok E.M w':=Iz h.ok hgrow.size (fun q=>⟨(hbb q).1,(hbb q).2.1,(hbb q).2.2.1⟩) fun q=>(hbb q).2.2.2
 have hrep:oW P w' c' g (.row e [] (es++es2)):=by
  refine ⟨xs++news,dP.2.2.1,rr.pos,fun l hl=>(q9.1 hl).elim (rr.len l) (hk2 l),by rw [dP.2.1,E5];exact hown',fun b' hb'=>?_,fun i j pv hg=>?_,fun i j pv hg=>?_⟩
  ·rw [dP.2.1] at hb'
   exact ⟨dP.2.2.2.2 (by rw [hb'];rfl),by rw [dP.1];simp [b,hb']⟩
  ·rcases Ch rr.len hk2 rr.own.1 (news:=news) hg with ⟨q1,q2⟩ | ⟨i',_,q1,q2⟩
   ·rw [q2];exact rr.one i j pv q1
   ·rw [q2]
    have hlt:=jQ hk2 q1
    have:=kX hlt.1 hlt.2
    exact h1 _ (by rw [m8,l8 (by omega)];exact F9 _)
  ·show RF w' c.S pv _
   rcases Ch rr.len hk2 rr.own.1 (news:=news) hg with ⟨q1,q2⟩ | ⟨i',_,q1,q2⟩
   ·rw [q2];exact (hRF i j pv q1).same hS fun _ h=>h
   ·rw [q2];exact (hrf i' j pv q1).same hS fun _ h=>h
 have hrv:RV P w' c' (.row (.top g) e) v':=by
  obtain ⟨xs',r'⟩:=hrep
  have:=RV.row (P:=P) (w:=w') (c:=c') (.top g) e r'.ty r'.Bk
  rwa [show c'.hd (.top g)=v' from dP.2.1] at this
 exact ⟨v',w',c',hexec _ _ hrun,below,hok,hS,fun _=>Iff.rfl,fun k hk=>kO hk,fun k hD hx=>⟨hsame _ (h.ok.hD k hD).2.1 fun e=>(hVb _ e).2.2 k hx hD rfl,(Gr hx).2 hD⟩,hrep,hrv⟩
theorem renamed {o:Oper} {g d e:Nat} {ob:HO} (hgd:d≠g) (hdp:d<PIN) (hgp:g<PIN) (h:Inv P E S0 N σ a w c) (hcl:Clean [d] σ) (hd:∀ k,o.dst=some k→k<N) {eR:Nat} {J:List (Nat×Nat)} {es:List (List PV)} (hob:ob=.row eR J es) (hdo:OP P E o a w c g e ob)
  (next:Act→World→Prop) (Q:Exit→Act→World→Prop) (hn:∀ a' w' c',Inv P E S0 N (σ.act o.dst ⟨[g],[(d,ob)],.row (.top d) e⟩) a' w' c'→next a' w'):o.wp P a w next Q:=by
 obtain ⟨v,w',c1,hrun,below,hok,hS,hSS,hag,hkeep,hrep,hrv⟩:=hdo
 let c2:Ctx:=⟨c1.S,fun k=>if k.tag=d then c1.τ (k.dO g) else if k.tag=g then c.τ k else c1.τ k,fun k=>if k.tag=d then c1.hd (k.dO g) else if k.tag=g then c.hd k else c1.hd k,
  fun k=>if k.tag=d then c1.ty (k.dO g) else if k.tag=g then c.ty k else c1.ty k,fun k=>if k.tag=d then c1.D (k.dO g) else if k.tag=g then False else c1.D k⟩
 have atd:∀ k:Key,k.tag=d→c2.τ k=c1.τ (k.dO g)∧c2.hd k=c1.hd (k.dO g)∧c2.ty k=c1.ty (k.dO g)∧(c2.D k↔c1.D (k.dO g)):=fun k hk=>by simp [c2,hk]
 have off:∀ k:Key,k.tag≠d→Agree c c2 k:=fun k hk=>by
  by_cases hg:k.tag=g
  ·simp [Agree,c2,hg,Ne.symm hgd]
  ·obtain ⟨q1,q2,q3⟩:=hag k hg
   simp [Agree,c2,hk,hg,q1,q2,q3]
 have Dof:∀ k:Key,k.tag≠d→(c2.D k↔k.tag≠g∧c1.D k):=fun k hk=>by
  by_cases hg:k.tag=g
  ·simp [c2,hg,Ne.symm hgd]
  ·simp [c2,hk,hg]
 have phi:∀ k,c2.D k→∃ k0,c1.D k0∧c2.τ k=c1.τ k0∧((k.tag=d∧k0=k.dO g)∨(k.tag≠d∧k.tag≠g∧k0=k)):=fun k hk=>by
  by_cases hkd:k.tag=d
  ·obtain ⟨q1,_,_,q4⟩:=atd k hkd
   exact ⟨_,q4.1 hk,q1,.inl ⟨hkd,rfl⟩⟩
  ·obtain ⟨q1,q2⟩:=(Dof k hkd).1 hk
   exact ⟨k,q2,by simp [c2,hkd,q1],.inr ⟨hkd,q1,rfl⟩⟩
 have ok2:c2.Ok E.M w':=by
  refine ⟨hok.hS,fun k hk=>?_,fun k k' hk hk' he=>?_⟩
  ·obtain ⟨k0,q1,q2,_⟩:=phi k hk
   rw [q2];exact hok.hD k0 q1
  ·obtain ⟨k0,q1,q2,q3⟩:=phi k hk
   obtain ⟨k1,p1,p2,p3⟩:=phi k' hk'
   rw [q2,p2] at he
   have e0:=hok.inj _ _ q1 p1 he
   rcases q3 with ⟨a1,rfl⟩ | ⟨a1,a2,rfl⟩ <;> rcases p3 with ⟨b1,rfl⟩ | ⟨b1,b2,rfl⟩
   ·exact Nz e0 (by rw [a1,b1])
   ·exact absurd (by rw [← e0,qZ]) b2
   ·exact absurd (by rw [e0,qZ]) a2
   ·exact e0
 have hS2:∀ b,c.S b→c2.S b:=fun b hb=>(hSS b).2 hb
 have av:∀ pv:PV,eK [d] pv=true→pv.has (dU d)=false:=fun pv hpv=>by simpa [eK] using hpv
 have rv2:RV P w' c2 (.row (.top d) e) v:=by
  generalize hX:PV.row (.top g) e=X at hrv
  cases hrv with
  | free _ _ hf=>subst hX;cases hf
  | row k e' he h1 =>
    injection hX with q1 q2
    subst q1 q2
    obtain ⟨q1,q2,q3,_⟩:=atd (.top d) rfl
    have:=RV.row (P:=P) (w:=w') (c:=c2) (.top d) e (q3.trans he) (by rw [q2];exact h1)
    rwa [q2] at this
  | _=>cases hX
 have hrepd:oW P w' c2 d ob:=by
  subst hob
  obtain ⟨xs,r⟩:=hrep
  obtain ⟨q1,q2,q3,q4⟩:=atd (.top d) rfl
  refine ⟨xs,r.dO (k':=.top d) q1 q2 q3 q4.2 fun i j pv v hgE hc=>?_⟩
  unfold eL at hc ⊢
  split at hc
  ·exact hc
  ·rcases hc with hc | ⟨h1,es',xs',rfl,r'⟩
   ·exact .inl hc
   obtain ⟨p1,p2,p3,p4⟩:=atd (.sub d i j) rfl
   exact .inr ⟨h1.trans p2.symm,es',xs',rfl,r'.dO (k':=.sub d i j) p1 p2 p3 p4.2 fun _ _ _ _ _ q=>q⟩
 have hinv : Inv P E S0 N ⟨σ.s,[(d,ob)]++σ.h.Eb [g]⟩ a w' c2:=by
  refine ⟨below,ok2,fun b hb=>hS2 b (h.sub b hb),fun b hb=>h.sup b ((hSS b).1 hb),fun i=>?_,fun g' o' hg'=>?_,fun k hk=>?_,h.small,h.size,h.defers⟩
  ·exact (h.slots i).keep (p:=dU d) hS hS2 (fun k hk=>off k (lS.1 hk)) (av _ (hcl.1 i))
  ·have e1 : (⟨σ.s,[(d,ob)]++σ.h.Eb [g]⟩:St).hget g'=HP.get ([(d,ob)]++σ.h.Eb [g]) g':=rfl
   rw [e1,Hs,DZ] at hg'
   by_cases hd':g'=d
   ·subst hd'
    simp only [HP.get,G9,if_true,n9] at hg'
    subst hg';exact hrepd
   ·simp only [HP.get,sC hd',j9,if_false,List.mem_singleton] at hg'
    split at hg'
    ·cases hg'
    rename_i hne
    have r:=h.fE g' o' hg'
    have hk:∀ k:Key,k.tag=g'→dU d k=false:=fun k hk=>lS.2 (by rw [hk];exact hd')
    have hD:∀ k:Key,k.tag=g'→c.D k→w'.heap[c.τ k]?=w.heap[c.τ k]?∧c2.D k:=fun k hk hDk=>by
     obtain ⟨q1,q2⟩:=hkeep k hDk (by rw [hk];exact hne)
     exact ⟨q1,(Dof k (by rw [hk];exact hd')).2 ⟨by rw [hk];exact hne,q2⟩⟩
    have:=r.Bm (c':=c2) (p:=dU d) hS hS2 (fun k hk=>off k (lS.1 hk)) hk hD
    have e2:o'.kill (dU d)=o':=by
     have:=(hcl.2 g' o' hg').2
     cases o' with
     | box cs =>
       simp only [HO.kill]
       congr 1
       have:∀ l:List PV,l.all (eK [d])=true→PV.uC (dU d) l=l:=by
        intro l
        induction l with
        | nil=>intro _;rfl
        | cons x l ih=>intro hl;simp only [I3,o8] at hl;simp only [PV.uC,Co _ x (av x hl.1),ih hl.2]
       exact this cs (by assumption)
     | _=>rfl
    rwa [e2] at this
  ·obtain ⟨q1,q2,q3⟩:=h.pin k hk
   obtain ⟨p1,p2,p3⟩:=off (.top k) (show k≠d by omega)
   exact ⟨p1.trans q1,p2.trans q2,p3.trans q3⟩
 unfold Oper.wp
 rw [hrun,Oper.upon_value]
 exact hn _ _ c2 (hinv.put o.dst hd rv2)
end
section
variable {G:Prg} {ops:Array Oper} {k:Nat} {σ:St} {K:St→Prop}
theorem VC {α:Type} {c:α→List PV} {D:DD} {m:Nat} {l l2 l':List α} {x:PV} {g g2 e sz d:Nat} (hm:E6 m k=false) (h:Om G ops k σ=some (.row (.top g) e,x,e,sz,d)) (ha:σ.h.get g=some (.row e [] (l.map c))) (hx:x.elems σ.h=some (l2.map c)) (hf:x.flat σ.h=true) (hs:∀ y,(c y).length=sz)
  (hl:app l l2=some l') (hg:(H8 g PIN&&H8 g2 PIN&&!Nat.beq g2 g)=true) (hF:inL [g2] (D.F k)=true) (hT:inL [g,g2] (D.T k)=true) (hav:avB ops k (D.av k) σ=true)
  (hfv:(eK (D.fv k) (.row (.top g2) e)&&!((D.fv k).any fun y=>E4 y g2)&&(HO.row e [] (l'.map c)).Cd (D.fv k))=true)
  (next:EVD G ops D m (k+1) (mU ⟨σ.s,(g2,.row e [] (l'.map c))::σ.h.Eb [g]⟩ (fX ops k) (.row (.top g2) e)) K):EVD G ops D m k σ K:=by
 obtain ⟨h1,rfl⟩:=OU hl
 simp only [o8,F2] at hg
 obtain ⟨⟨hgp,hg2p⟩,hne⟩:=hg
 have hne':g2≠g:=fun q=>by rw [q,G9] at hne;cases hne
 unfold Om at h
 split at h
 case h_2=>cases h
 rename_i o ho
 split at h
 case h_2=>cases h
 rename_i cl hop
 split at h
 case h_2=>cases h
 rename_i hcal
 split at h
 case h_2=>cases h
 rename_i a' x' t t' hargs hty
 split at h
 case isFalse=>cases h
 rename_i ht
 split at h
 case h_2=>cases h
 rename_i e' he
 split at h
 case isFalse=>cases h
 rename_i hrow
 simp only [n9,t8] at h
 obtain ⟨hpa,rfl,rfl,rfl,rfl⟩:=h
 subst ht
 obtain ⟨q1,q2⟩:=fH ho
 have hop':o.op=.call { callee:=.builtin .append,args:=#[a',x'],argTypes:=#[t,t] }:=by
  rw [hop]
  obtain ⟨callee,args,argTypes⟩:=cl
  simp only at hcal hargs hty
  subst hcal
  rw [show args=#[a',x'] from E9.1 hargs,show argTypes=#[t,t] from E9.1 hty]
 rw [tC q1] at next
 have hds:DStep G.P ops o (D.rd k) (D.F k) σ ⟨[g],[(g2,.row e' [] ((l++l2).map c))],.row (.top g2) e'⟩:=fun T τ lc=>by
  obtain ⟨h1',h2'⟩:=Fy lc
  have h2':=h2' (by first | rw [hop'];rfl | rw [hop];rfl)
  have ma:(a':Operand) ∈ o.op.operands.toList:=by rw [hop'];simp [Op.operands,Call.operands]
  have mx:(x':Operand) ∈ o.op.operands.toList:=by rw [hop'];simp [Op.operands,Call.operands]
  have hgT:g ∉ T:=fun hm=>by
   have:=p7.1 (h2' _ ma) g hm
   rw [hpa] at this
   simp [PV.has,dU,Key.tag] at this
  have hgτ:τ.hget g=some (.row e' [] (l.map c)):=(lc.heap g hgT).symm.trans ha
  refine .inr ⟨by rw [wX lc];exact q2,fun E S0 N a w cx hi hcl hdd next Q hn=>?_⟩
  have hcl2:Clean [g2] τ:=by
   have hgF:=wW hF g2 (by simp)
   have sub:∀ v:PV,eK (D.F k) v=true→eK [g2] v=true:=fun v hv=>by
    have:=p7.1 hv g2 hgF
    simp [eK] at this ⊢
    exact this
   refine ⟨fun i=>sub _ (hcl.1 i),fun g' o' hg'=>?_⟩
   obtain ⟨p1,p2⟩:=hcl.2 g' o' hg'
   refine ⟨fun hm=>p1 (by simp at hm;subst hm;exact hgF), ?_⟩
   cases o' with
   | box cs =>
     simp only [HO.Cd] at p2 ⊢
     exact p7.2 fun v hv=>sub v (p7.1 p2 v hv)
   | _=>rfl
  have hdo:=LW (E:=E) (S0:=S0) (N:=N) (a:=a) (w:=w) (c:=cx) hop' he hrow (by rw [h1' _ ma];exact hpa) hgτ (by simpa using hgp) (by rw [h1' _ mx,← Ws lc.heap (h2' _ mx)];exact hx) (by rw [h1' _ mx,← KA lc.heap (h2' _ mx)];exact hf) (fun r hr=>by
   obtain ⟨y,_,rfl⟩:=E3.1 hr
   exact hs y) (by simpa using h1) hi
  rw [← H3] at hdo
  exact renamed hne' (by simpa using hg2p) (by simpa using hgp) hi hcl2 hdd rfl hdo next Q hn
 simp only [o8] at hfv
 refine Ii hm q1 ⟨[g],[(g2,_)],_⟩ hds (Ds q1 hav) hT (by simp only [I3,P7,O8,o8];exact ⟨hfv.1.1,hfv.1.2,hfv.2⟩) ?_
 exact next
end
end Go.VI
namespace Go.VI
theorem RJ {α A S R:Type} (l:List α) (f:A→α→A) (mk:Nat→A→S) (body:S→Option (S ⊕ R)) (r:A→R) (I:Nat→A→Prop) (a0:A) (h0:I 0 a0)
  (step:∀ (k:Nat) (x:α) (a:A),l[k]?=some x→I k a→body (mk k a)=some (.inl (mk (k+1) (f a x)))∧I (k+1) (f a x)) (fin:∀ a,I l.length a→body (mk l.length a)=some (.inr (r a))) :
  aM body (mk 0 a0)=some (r (l.foldl f a0))∧I l.length (l.foldl f a0):=by
 have key:∀ (n k:Nat) (a:A),k+n=l.length→I k a→aM body (mk k a)=some (r ((l.drop k).foldl f a))∧I l.length ((l.drop k).foldl f a):=by
  intro n
  induction n with
  | zero =>
    intro k a h hI;obtain rfl:k=l.length:=by omega
    rw [List.drop_length]
    exact ⟨dK (fin a hI),hI⟩
  | succ n ih =>
    intro k a h hI
    have hk:k<l.length:=by omega
    have hx:l[k]?=some l[k]:=by simp
    have e:l.drop k=l[k]::l.drop (k+1):=List.drop_eq_getElem_cons hk
    obtain ⟨q1,q2⟩:=step k l[k] a hx hI
    rw [e,y8,iY q1]
    exact ih (k+1) _ (by omega) q2
 have:=key l.length 0 a0 (by omega) h0
 simpa using this
theorem lJ {α A S R:Type} (l:List α) (mk:Nat→A→S) (body:S→Option (S ⊕ R)) (r:A→R) (I:Nat→A→Prop) (a0:A) (h0:I 0 a0)
  (step:∀ (k:Nat) (x:α) (a:A),l[k]?=some x→I k a→∃ a',body (mk k a)=some (.inl (mk (k+1) a'))∧I (k+1) a') (fin:∀ a,I l.length a→body (mk l.length a)=some (.inr (r a))) :
  ∃ a,aM body (mk 0 a0)=some (r a)∧I l.length a:=by
 have key:∀ (n k:Nat) (a:A),k+n=l.length→I k a→∃ a',aM body (mk k a)=some (r a')∧I l.length a':=by
  intro n
  induction n with
  | zero =>
    intro k a h hI;obtain rfl:k=l.length:=by omega
    exact ⟨a,dK (fin a hI),hI⟩
  | succ n ih =>
    intro k a h hI
    have hx:l[k]?=some l[k]:=by simp
    obtain ⟨a',q1,q2⟩:=step k l[k] a hx hI
    rw [iY q1]
    exact ih (k+1) a' (by omega) q2
 exact key l.length 0 a0 (by omega) h0
theorem aX {α:Type} {l:List α} {k:Nat} {x:α} (h:l[k]?=some x):k<l.length:=(m9.1 h).1
theorem bG (k:Nat) (h:(k:Int)<9223372036854775807):aQ (k:Int) 1=((k+1:Nat):Int):=by rw [bA (by omega) (by omega)];omega
end Go.VI
namespace Go.VI
open Go.RowKit
def yA (g T n:Nat):Key→Key
 | .top q=>.top q
 | .sub q i j=>if q=g∧n≤i then .sub T (i-n) j else .sub q i j
def Rf (g T:Nat) (k:Key):Bool:=dU g k || dU T k
def Ctx.join (c:Ctx) (g T n b:Nat) (v:Value) (e:Nat):Ctx:=
 ⟨c.S,fun k=>if k=.top g then b else c.τ (yA g T n k),fun k=>if k=.top g then v else c.hd (yA g T n k),fun k=>if k=.top g then e else c.ty (yA g T n k),
  fun k=>if k=.top g then v.ownBlock.isSome=true else k.tag≠T∧c.D (yA g T n k)⟩
theorem MR {g T n:Nat} {k k':Key} (h1:k.tag≠T) (h2:k'.tag≠T) (h:yA g T n k=yA g T n k'):k=k':=by
 cases k with
 | top q=>cases k' with
   | top q'=>exact h
   | sub q' i' j'=>simp only [yA] at h;split at h <;> cases h
 | sub q i j=>cases k' with
   | top q'=>simp only [yA] at h;split at h <;> cases h
   | sub q' i' j' =>
     simp only [yA] at h
     simp only [Key.tag] at h1 h2
     split at h <;> split at h
     ·rename_i a b;injection h with _ e1 e2;rw [a.1,b.1,e2,show i=i' from by omega]
     ·injection h with e1;exact absurd e1.symm h2
     ·injection h with e1;exact absurd e1 h1
     ·exact h
theorem AG {g T n:Nat} {k:Key} (h:yA g T n k=.top g):k=.top g:=by
 cases k with
 | top q=>exact h
 | sub q i j=>simp only [yA] at h;split at h <;> cases h
theorem Ty {g T n:Nat} {k:Key} (h:k.tag≠g):yA g T n k=k:=by
 cases k with
 | top q=>rfl
 | sub q i j=>simp only [yA];rw [if_neg];exact fun q=>h q.1
section
variable {P:Program} {E:Ent} {S0:Nat→Prop} {N:Nat} {σ:St} {a:Act} {w:World} {c:Ctx}
theorem GK {o:Oper} {t e g T:Nat} {s x:Operand} {J:List (Nat×Nat)} {es es2:List (List PV)} (ho:o.op=.call { callee:=.builtin .append,args:=#[s,x],argTypes:=#[t,t] }) (ht:kL P t=some e) (hrow:Hf P e=true)
  (hs:pev σ s=.row (.top g) e) (hx:pev σ x=.row (.top T) e) (hgR:σ.hget g=some (.row e J es)) (hgT:σ.hget T=some (.row e J es2)) (hne:T≠g) (hg:g<PIN) (hT:T<PIN) (hlim:es.length+es2.length≤LIM)
  (h:Inv P E S0 N σ a w c) (hd:∀ k,o.dst=some k→k<N):vJ P E S0 N o a w (Res.put σ o.dst ⟨[Rf g T],[(g,.row e J (es++es2))],.row (.top g) e⟩):=by
 have rs:=h.ev s
 have rx:=h.ev x
 rw [hs] at rs
 rw [hx] at rx
 obtain ⟨i,z,hi,hz,hsz,hby,hzs,hsize⟩:=vH hrow
 have hu:=kM ht
 have hV:a.eval s=c.hd (.top g):=by
  generalize a.eval s=X at rs
  cases rs with
  | free _ _ hf=>cases hf
  | row=>rfl
 have hX:a.eval x=c.hd (.top T):=by
  generalize a.eval x=X at rx
  cases rx with
  | free _ _ hf=>cases hf
  | row=>rfl
 have hexec:∀ v' w',(Builtin.append_ #[t,t] o.type #[a.eval s,a.eval x]).run P w=.ok v' w'→(execOp a.eval o).run P w=.ok (.value v') w':=by
  intro v' w' hrun
  unfold execOp
  simp only [ho,resolve,invoke,builtin,o5,o9,m6,I9,E1,H9,hrun]
 obtain ⟨xs,rr⟩:=h.fE g _ hgR
 obtain ⟨xt,rt⟩:=h.fE T _ hgT
 have h1:∀ u ∈ xt,u.oneCell'=true:=fun u hu=>by
  obtain ⟨m,hm,rfl⟩:=List.getElem_of_mem hu
  have hl:=rt.own.1
  have hk0:=rt.pos
  have q1:m / aJ P e<es2.length:=Nat.div_lt_of_lt_mul (by rw [Nat.mul_comm,← hl];exact hm)
  have q2:m%aJ P e<aJ P e:=Nat.mod_lt _ hk0
  have q3:=rt.len _ (F9 q1)
  have q4:dV es2 (m / aJ P e) (m%aJ P e)=some ((es2[m / aJ P e])[m%aJ P e]):=by unfold dV;simp [q1,q3,q2]
  have:=rt.one _ _ _ q4
  rwa [Nat.mul_comm,Nat.div_add_mod,m8,l8 hm] at this
 obtain ⟨A,cc,hXv,hA,hcell⟩:∃ A cc,c.hd (.top T)=.slice A es2.length cc∧(es2.length≠0→∃ ad,A=some ad)∧(∀ ad,A=some ad→∀ (j:Nat) u,xt[j]?=some u→w.cell? (ad.add j)=some u):=by
  rcases rt.own.2 with ⟨h0,hn⟩ | ⟨g2,cap,cur,h0,hb2,hg2,hnc,rest⟩
  ·exact ⟨none,0,by rw [h0,hn],fun q=>absurd hn q,fun ad q=>nomatch q⟩
  ·have hob:(c.hd (.top T)).ownBlock=some g2:=by rw [h0];rfl
   refine ⟨_,cap,h0,fun _=>⟨_,rfl⟩,fun ad had j u hj=>?_⟩
   injection had with had
   subst had
   have:=Ct rt.own hob j (by have:=cV hj;rw [rt.own.1] at this;exact this)
   rw [this,m8,hj];rfl
 obtain ⟨v',w',hrun,hown',hgrow,hblk⟩:=Bu (P:=P) 0 t o.type e i z (aJ P e) hu hi hz hsize hby hzs rr.pos (c.hd (.top g)) es.length xs rr.own A es2.length cc xt rt.own.1 hA hcell h1 hlim (M0 _)
 rw [← hXv,← hX,← hV] at hrun
 have hVb:∀ b,(c.hd (.top g)).ownBlock=some b→E.M b∧¬ c.S b∧∀ k',k'≠.top g→c.D k'→c.τ k'≠b:=fun b hb'=>by
  obtain ⟨q1,q2⟩:=rr.blk b hb'
  have:=h.ok.hD _ q1
  rw [q2] at this
  exact ⟨this.1,this.2.2,fun k' hne hg' e=>hne (by rw [h.ok.inj _ _ hg' q1 (by rw [e,q2])])⟩
 have hsame:∀ b,b<w.heap.size→(c.hd (.top g)).ownBlock≠some b→w'.heap[b]?=w.heap[b]?:=fun b hb' hne=>hgrow.block b hb' (Ne.symm hne)
 have hS:Ga c.S w w':=fun b hS=>hsame b (h.ok.hS b hS) fun e=>(hVb b e).2.1 hS
 have hDs:∀ k,k≠.top g→c.D k→w'.heap[c.τ k]?=w.heap[c.τ k]?:=fun k hk hD=>hsame _ (h.ok.hD k hD).2.1 fun e=>(hVb _ e).2.2 k hk hD rfl
 have below:E.Fr w':=⟨hgrow.os.trans h.below.os,hgrow.tape.trans h.below.tape,hgrow.output.trans h.below.output,J1 h.below.size hgrow.size,fun k hk' hm=>(hsame k (D8 hk' h.below.size) fun e=>hm (hVb k e).1).trans (h.below.block k hk' hm)⟩
 let b:=(v'.ownBlock).getD 0
 let c':=c.join g T es.length b v' e
 have ctop:c'.τ (.top g)=b∧c'.hd (.top g)=v'∧c'.ty (.top g)=e∧(c'.D (.top g)↔v'.ownBlock.isSome=true):=by simp [c',Ctx.join]
 have coth:∀ k,k≠.top g→c'.τ k=c.τ (yA g T es.length k)∧c'.hd k=c.hd (yA g T es.length k)∧c'.ty k=c.ty (yA g T es.length k)∧(c'.D k↔k.tag≠T∧c.D (yA g T es.length k)):=fun k hk=>by simp [c',Ctx.join,hk]
 have hbb:v'.ownBlock.isSome=true→E.M b∧b<w'.heap.size∧¬ c.S b∧∀ k',k'≠.top g→c.D k'→c.τ k'≠b:=fun hs=>by
  obtain ⟨b',hb'⟩:=u9.1 hs
  have hbe:b=b':=by simp [b,hb']
  rw [hbe]
  have hlt:b'<w'.heap.size:=(hown'.lt b' hb').2
  rcases hblk with hq | hq
  ·have:=hVb b' (by rw [← hq,hb'])
   exact ⟨this.1,hlt,this.2.1,this.2.2⟩
  ·rw [hb'] at hq
   injection hq with hq
   subst hq
   exact ⟨h.below.mine (v7 _),hlt,fun hS=>by have:=h.ok.hS _ hS;omega,fun k' _ hg' e=>by have:=(h.ok.hD k' hg').2.1;omega⟩
 have hok:c'.Ok E.M w':=by
  refine ⟨fun b hb=>D8 (h.ok.hS b hb) hgrow.size,fun k hk=>?_,fun k k' hk hk' he=>?_⟩
  ·by_cases q:k=.top g
   ·subst q
    have:=hbb (ctop.2.2.2.1 hk)
    rw [ctop.1];exact ⟨this.1,this.2.1,this.2.2.1⟩
   ·have hk0:=((coth k q).2.2.2.1 hk).2
    rw [(coth k q).1]
    exact ⟨(h.ok.hD _ hk0).1,D8 (h.ok.hD _ hk0).2.1 hgrow.size,(h.ok.hD _ hk0).2.2⟩
  ·by_cases q:k=.top g <;> by_cases q':k'=.top g
   ·rw [q,q']
   ·subst q
    rw [ctop.1,(coth k' q').1] at he
    have hk0:=((coth k' q').2.2.2.1 hk').2
    exact absurd he.symm ((hbb (ctop.2.2.2.1 hk)).2.2.2 _ (fun e=>q' (AG e)) hk0)
   ·subst q'
    rw [ctop.1,(coth k q).1] at he
    have hk0:=((coth k q).2.2.2.1 hk).2
    exact absurd he ((hbb (ctop.2.2.2.1 hk')).2.2.2 _ (fun e=>q (AG e)) hk0)
   ·rw [(coth k q).1,(coth k' q').1] at he
    have hk0:=(coth k q).2.2.2.1 hk
    have hk0':=(coth k' q').2.2.2.1 hk'
    exact MR hk0.1 hk0'.1 (h.ok.inj _ _ hk0.2 hk0'.2 he)
 have hrep:oW P w' c' g (.row e J (es++es2)):=by
  refine ⟨xs++xt,ctop.2.2.1,rr.pos,fun l hl=>(q9.1 hl).elim (rr.len l) (rt.len l),by rw [ctop.2.1,E5];exact hown',fun b' hb'=>?_,fun i j pv hg=>?_,fun i j pv hg=>?_⟩
  ·rw [ctop.2.1] at hb'
   exact ⟨ctop.2.2.2.2 (by rw [hb'];rfl),by rw [ctop.1];simp [b,hb']⟩
  ·rcases Ch rr.len rt.len rr.own.1 (news:=xt) hg with ⟨q1,q2⟩ | ⟨i',_,q1,q2⟩
   ·rw [q2];exact rr.one i j pv q1
   ·rw [q2];exact rt.one i' j pv q1
  ·rcases Ch rr.len rt.len rr.own.1 (news:=xt) hg with ⟨q1,q2⟩ | ⟨i',hii,q1,q2⟩
   ·rw [q2]
    have hlt:=(jQ rr.len q1).1
    have:=rr.rep i j pv q1
    unfold eL at this ⊢
    split at this
    ·exact this.same hS fun _ h=>h
    ·rename_i e' hJ
     rcases this with this | ⟨p1,es',xs',p2,p3⟩
     ·exact .inl this
     have hsk:yA g T es.length (.sub g i j)=.sub g i j:=by simp only [yA];rw [if_neg];omega
     have hc:=coth (.sub g i j) (by simp)
     rw [hsk] at hc
     exact .inr ⟨p1.trans hc.2.1.symm,es',xs',p2,p3.keep ⟨hc.1,hc.2.1,hc.2.2.1⟩ (fun hD=>⟨hDs _ (by simp) hD,hc.2.2.2.2 ⟨fun q=>hne q.symm,hD⟩⟩) fun _ _ _ _ r=>r.same hS fun _ h=>h⟩
   ·rw [q2]
    have:=rt.rep i' j pv q1
    unfold eL at this ⊢
    split at this
    ·exact this.same hS fun _ h=>h
    ·rename_i e' hJ
     rcases this with this | ⟨p1,es',xs',p2,p3⟩
     ·exact .inl this
     subst hii
     have hsk:yA g T es.length (.sub g (es.length+i') j)=.sub T i' j:=by simp only [yA];rw [if_pos ⟨trivial,by omega⟩];congr 1;omega
     have hc:=coth (.sub g (es.length+i') j) (by simp)
     rw [hsk] at hc
     refine .inr ⟨p1.trans hc.2.1.symm,es',xs',p2, ?_⟩
     have k1:jB P w' c (.sub T i' j) e' es' (fun _ _ pv v=>RF w' c.S pv v) xs':=jB.keep (c:=c) (c':=c) (Agree.refl c _) (fun q=>⟨hDs _ (by simp) q,q⟩) (fun _ _ _ _ q=>RF.same hS (fun _ h=>h) q) p3
     exact jB.dO (c:=c) (c':=c') hc.1 hc.2.1 hc.2.2.1 (fun q=>hc.2.2.2.2 ⟨fun q=>hne q.symm,q⟩) (fun _ _ _ _ _ q=>q) k1
 have hrv:RV P w' c' (.row (.top g) e) v':=by
  obtain ⟨xs',r'⟩:=hrep
  have:=RV.row (P:=P) (w:=w') (c:=c') (.top g) e r'.ty r'.Bk
  rwa [ctop.2.1] at this
 refine mQ hd (.inl (hexec _ _ hrun)) (c':=c') ?_ hrv
 have notp:∀ k,Rf g T k=false→k.tag≠g∧k.tag≠T:=fun k hk=>by
  simp only [Rf,I7] at hk
  exact ⟨lS.1 hk.1,lS.1 hk.2⟩
 have isp:∀ k,Rf g T k=true→k.tag=g∨k.tag=T:=fun k hk=>by
  simp only [Rf,Bool.or_eq_true] at hk
  exact hk.imp gE.1 gE.1
 have nt:∀ k:Key,k.tag≠g→k≠.top g:=fun k hk q=>hk (by rw [q];rfl)
 refine h.step (c':=c') (Rf g T) (fun q=>q=g∨q=T) below hok hS (fun _ h=>h) h.sup (fun k hk hp=>?_) (fun k hk=>?_) (fun k hD hx=>?_) (fun k hk=>isp k hk) rfl (fun g' o hx hg'=>?_) (fun g' o hx hg'=>?_)
 ·rcases isp k hp with q | q <;> omega
 ·have hc:=coth k (nt k (notp k hk).1)
  rw [Ty (notp k hk).1] at hc
  exact ⟨hc.1,hc.2.1,hc.2.2.1⟩
 ·have hkg:k.tag≠g:=fun q=>hx (.inl q)
  have hc:=coth k (nt k hkg)
  rw [Ty hkg] at hc
  exact ⟨hDs k (nt k hkg) hD,hc.2.2.2.2 ⟨fun q=>hx (.inr q),hD⟩⟩
 ·simp only [Res.base,y8,G2,eH] at hg'
  rwa [if_neg (fun q=>hx (.inl q))] at hg'
 ·simp only [Res.base,y8,G2,eH] at hg'
  split at hg'
  ·rename_i q
   injection hg' with hg'
   subst hg' q
   exact hrep
  ·rename_i q
   rcases hx with hx | hx
   ·exact absurd hx q
   ·subst hx
    rw [Aq] at hg'
    have:Rf g g' (.top g')=true:=by simp [Rf,dU,Key.tag]
    rw [if_pos this] at hg'
    cases hg'
end
section
variable {G:Prg} {ops:Array Oper} {k:Nat} {σ:St} {α β:Type} {c:α→List PV} {c2:β→List PV}
theorem AY {h:HP} {g i j e:Nat} {J:List (Nat×Nat)} {l:List α} {x:α} {l2:List β} (hg:h.get g=some (.row e J (l.map c))) (hJ:(Jat J j).isSome=true) (hx:l[i]?=some x) (hc:(c x)[j]?=some (.sl (l2.map c2))):h.rowAt (.sub g i j)=some (l2.map c2):=by
 simp only [HP.rowAt,hg,hJ,if_true,p8,hx,s8,hc]
theorem II {h:HP} {g i j e:Nat} {J:List (Nat×Nat)} {l:List α} {x x':α} {es':List (List PV)} (hg:h.get g=some (.row e J (l.map c))) (hx:l[i]?=some x) (hs:setAt (c x) j [.sl es']=c x'):h.Ep es' (.sub g i j)=some (.row e J ((l.set i x').map c)):=by
 simp only [HP.Ep,hg,Xn hx hs]
def PB (G:Prg) (ops:Array Oper) (k:Nat) (σ:St):Option (Nat×PV×Nat):=match Bs ops k σ with
 | some o=>(match o.op with
   | .buildSlice t n parts=>(match n,parts.toList with
     | 1,[(0,x)]=>(match kL G.P t with
       | some e=>if Hf G.P e&&E4 (aJ G.P e) 1 then some (e,pev σ x,o.dst.getD 0) else none
       | none=>none)
     | _,_=>none)
   | _=>none)
 | none=>none
theorem UK {g T e sz d:Nat} {J:List (Nat×Nat)} {l l2 l':List α} (h:Om G ops k σ=some (.row (.top g) e,.row (.top T) e,e,sz,d)) (ha:σ.h.get g=some (.row e J (l.map c))) (hx:σ.h.get T=some (.row e J (l2.map c))) (hc:(H8 g PIN&&H8 T PIN&&!Nat.beq T g)=true) (hl:app l l2=some l') :
  uE G ops k σ ⟨[Rf g T],[(g,.row e J (l'.map c))],.row (.top g) e⟩:=by
 obtain ⟨h1,rfl⟩:=OU hl
 simp only [o8,F2] at hc
 unfold Om at h
 split at h
 case h_2=>cases h
 rename_i o ho
 split at h
 case h_2=>cases h
 rename_i cl hop
 split at h
 case h_2=>cases h
 rename_i hcal
 split at h
 case h_2=>cases h
 rename_i a' x' t t' hargs hty
 split at h
 case isFalse=>cases h
 rename_i ht
 split at h
 case h_2=>cases h
 rename_i e' he
 split at h
 case isFalse=>cases h
 rename_i hrow
 simp only [n9,t8] at h
 obtain ⟨ha',hx',rfl,rfl,rfl⟩:=h
 obtain ⟨q1,q2⟩:=fH ho
 subst ht
 have hop':o.op=.call { callee:=.builtin .append,args:=#[a',x'],argTypes:=#[t,t] }:=by
  rw [hop]
  obtain ⟨callee,args,argTypes⟩:=cl
  simp only at hcal hargs hty
  subst hcal
  rw [show args=#[a',x'] from E9.1 hargs,show argTypes=#[t,t] from E9.1 hty]
 refine ⟨o,q1,q2,fun hi hdd=>?_⟩
 have:=GK hop' he hrow ha' hx' ha hx (fun q=>by rw [q,G9] at hc;cases hc.2) (by simpa using hc.1.1) (by simpa using hc.1.2) (by simpa using h1) hi hdd
 rwa [← H3] at this
def A5 (G:Prg) (ops:Array Oper) (k:Nat) (σ:St):Option (PV×PV):=match Bs ops k σ with
 | some o=>(match o.op with
   | .store t a x=>(match Hm G.P t with
     | some false=>if E4 (aJ G.P t) 1=true then some (pev σ a,pev σ x) else none
     | _=>none)
   | _=>none)
 | none=>none
def XN (G:Prg) (ops:Array Oper) (k:Nat) (σ:St):Option (Nat×PV×PV×Nat):=match Bs ops k σ with
 | some o=>(match o.op with
   | .makeSlice t l h=>(match kL G.P t with
     | some e=>(match Hg G.P e with
       | some z=>(match z.cells.toList with
         | [.slice none 0 0]=>if Hf G.P e=true then some (e,pev σ l,pev σ h,o.dst.getD 0) else none
         | _=>none)
       | none=>none)
     | none=>none)
   | _=>none)
 | none=>none
theorem YH {z:α} {l':List α} {e e2 d:Nat} {k1 k2:IntKind} {n:Int} (h:XN G ops k σ=some (e,.lit (.int k1 n),.lit (.int k2 n),d)) (hz:c z=[.sl []]) (h2:H8 0 (aJ G.P e2)=true) (hl:mk n z=some l'):uE G ops k σ (.new d (.row e [(0,e2)] (l'.map c)) (.row (.top d) e)):=by
 unfold mk at hl
 split at hl
 case isFalse=>cases hl
 rename_i hn
 injection hl with hl
 subst hl
 unfold XN at h
 split at h
 case h_2=>cases h
 rename_i o ho
 split at h
 case h_2=>cases h
 rename_i t x hi' hop
 split at h
 case h_2=>cases h
 rename_i e' he
 split at h
 case h_2=>cases h
 rename_i z' hz'
 split at h
 case h_2=>cases h
 rename_i hzc
 split at h
 case isFalse=>cases h
 rename_i hrow
 simp only [n9,t8] at h
 obtain ⟨rfl,h3,h4,rfl⟩:=h
 obtain ⟨q1,q2⟩:=fH ho
 refine ⟨o,q1,q2,fun hi hdd=>?_⟩
 have hL:n.toNat≤LIM:=by have:=hn.2;omega
 have:=KL (J:=[(0,e2)]) hop he (by rw [h3];exact Bt hn.1) (by rw [h4];exact Bt hn.1) hz' hrow (v7 _) hL (by rw [hzc];rfl) (fun j e' hJ=>by
  simp only [Jat] at hJ
  split at hJ
  ·rename_i hj
   obtain rfl:=t7 hj
   injection hJ with hJ
   subst hJ
   refine ⟨by simpa using h2,fun _=>?_⟩
   rw [o7,← w9,hzc];rfl
  ·cases hJ) hi hdd
 rw [hzc] at this
 rwa [U2,hz]
end
end Go.VI
namespace Go.VI
open Go.RowKit
section
variable {G:Prg} {ops:Array Oper} {k:Nat} {σ:St} {l l2:List Int} {g:Nat}
theorem JU:∀ h:HP,h.del []=h
 | []=>rfl
 | (g,o)::h=>by simp only [HP.del,TL.inn,S9,j9,if_false,JU h]
theorem Xc:∀ h:HP,h.kill vY=h
 | []=>rfl
 | (g,o)::h=>by simp only [HP.kill,vY,j9,if_false];rw [show o.kill vY=o from CI o] at *;rw [show HP.kill vY h=h from Xc h]
theorem Lq:∀ s:SL,s.map (PV.kill vY)=s
 | []=>rfl
 | (i,v)::s=>by simp only [SL.map,Co vY v (Xa v),Lq s]
theorem Se (σ:St):after ([]++[]) (([].filter fun (x:Nat×Nat)=>E6 PIN x.1).map (·.2)) σ []=σ:=by
 have e:gone ([]++[]) (([].filter fun (x:Nat×Nat)=>E6 PIN x.1).map (·.2))=vY:=by
  funext k;simp [gone,vY,TL.inn]
 unfold after
 rw [e]
 simp only [St.kill,HP.ren,I8,JU,Xc,Lq]
theorem Zz {Q:St→Prop} (vis:List Nat) {f:Nat} {qs:List PV} {r:PV} (hc:Ji ops k σ [] vis=some (f,qs)) (pc:PC G.P f qs [] r []) (ht:Lu [] [] vis=true) (ind:vis=[]∨r.ind=true) (hr:r.ren []=r)
  (next:EVS G ops (k+1) (mU σ (fX ops k) r) Q):EVS G ops k σ Q:=
 nE [] [] vis hc pc ht rfl (ind.imp id fun q=>⟨q,fun _ _ h=>nomatch h⟩) (by rw [Se,show r.ren ([]++[])=r from hr];exact next)
theorem Zy {Q:St→Prop} (vis:List Nat) {f:Nat} {qs:List PV} {r:PV} (hc:Ji ops k σ [] vis=some (f,qs)) (pc:PC G.P f qs [] r []) (ht:Lu [] [] vis=true) (ind:vis=[]∨r.ind=true) (hr:r.ren []=r)
  (next:EVO G ops (k+1) (mU σ (fX ops k) r) Q):EVO G ops k σ Q:=
 MI [] [] vis hc pc ht rfl (ind.imp id fun q=>⟨q,fun _ _ h=>nomatch h⟩) (by rw [Se,show r.ren ([]++[])=r from hr];exact next)
theorem AH (σ:St):σ.kill (Ce [])=σ:=by
 have e:Ce []=vY:=by funext k;simp [Ce,vY]
 rw [e]
 simp only [St.kill,Xc,Lq]
theorem dG {cd:Code} {K:PX→St→Prop} (σj:St) (T F rd av fv:List (Nat×List Nat)) (m:Nat) (hk:knd cd=2) (hok:Mj (vM cd) T F rd av fv m=true) (hF:F.all (fun x=>inL x.2 [])=true)
  (h:EVD G (vM cd) ⟨lst T,lst F,lst rd,lst av,lst fv⟩ m 0 σ fun σ'=>EVO G (vM cd) m σ' (fun τ=>gG G.P σj τ)) (next:∀ τ,gG G.P σj τ→K .normal τ):SEM G cd σ K:=
 NU σj T F rd av fv m hk hok [] rfl hF (by rw [AH];exact h) next
theorem BB {cd:Code} {K:PX→St→Prop} (T F rd av fv:List (Nat×List Nat)) (m:Nat) (hk:knd cd=2) (hok:Mj (vM cd) T F rd av fv m=true) (hF:F.all (fun x=>inL x.2 [])=true)
  (h:EVD G (vM cd) ⟨lst T,lst F,lst rd,lst av,lst fv⟩ m 0 σ fun σ'=>EVO G (vM cd) m σ' (K .normal)):SEM G cd σ K:=
 kF T F rd av fv m hk hok [] rfl hF (by rw [AH];exact h)
end
end Go.VI
namespace Go.VI
section
variable {G:Prg} {P:Program} {cd b:Code} {σ:St} {K:PX→St→Prop}
theorem D7 {ops:Array Oper} {k n:Nat} {σ':St} (h:(runK G ops k n σ).map (atS σ')=some (asS σ')):(runK G ops k n σ).isSome=true∧atS σ' (Uu G ops k n σ)=asS σ':=by
 cases hr:runK G ops k n σ with
 | none=>rw [hr] at h;cases h
 | some s =>
   rw [hr] at h
   injection h with h
   refine ⟨rfl, ?_⟩
   unfold Uu
   rw [hr]
   exact h
theorem z1 {ops:Array Oper} {k:Nat} (n:Nat) (σ':St) (next:SEM G b σ' K) (h:(E6 ops.size (k+n),(runK G ops k n σ).map (atS σ'))=(true,some (asS σ')):=by kernel_rfl):EVS G ops k σ (Kl G b K .normal):=by
 injection h with h1 h2
 obtain ⟨a1,a2⟩:=D7 h2
 exact Vc n a1 (Qq h1 fun τ hτ=>Hj hτ σ' (here a2) next)
theorem z2 (n:Nat) (σ':St) (next:SEM G b σ' K) (h:(knd cd,E6 (vM cd).size (0+n),(runK G (vM cd) 0 n σ).map (atS σ'))=(1,true,some (asS σ')):=by kernel_rfl):SEM G cd σ (Kl G b K):=by
 injection h with h1 h2
 exact Cv h1 (z1 n σ' next h2)
theorem z3 (n:Nat) (σ':St) (next:SEM G (cR cd) σ' K) (h:(knd cd,knd (cL cd),E6 (vM (cL cd)).size (0+n),(runK G (vM (cL cd)) 0 n σ).map (atS σ'))=(3,1,true,some (asS σ')):=by kernel_rfl):SEM G cd σ K:=by
 injection h with h1 h2
 exact Ob h1 (z2 n σ' next h2)
theorem z4 (σ':St) (next:SEM G b σ' K) (h:(knd cd,atS σ' σ)=(0,asS σ'):=by kernel_rfl):SEM G cd σ (Kl G b K):=by
 injection h with h1 h2
 exact Th h1 fun τ hτ=>Hj hτ σ' (here h2) next
theorem z6 {ops:Array Oper} {k:Nat} {Q:St→Prop} (n:Nat) (next:∀ τ,gG G.P (Uu G ops k n σ) τ→Q τ) (h:((runK G ops k n σ).isSome,E6 ops.size (k+n))=(true,true):=by kernel_rfl):EVS G ops k σ Q:=by
 injection h with h1 h2
 exact Vc n h1 (Qq h2 next)
theorem z7 (next:EVS G (vM (cL cd)) 0 σ (Kl G (cR cd) K .normal)) (h:(knd cd,knd (cL cd))=(3,1):=by kernel_rfl):SEM G cd σ K:=by
 injection h with h1 h2
 exact Ob h1 (Cv h2 next)
theorem z8 (n:Nat) (σ':St) (next:∀ τ,gG G.P σ' τ→K .ret τ) (h:(knd cd,knd (cL cd),E6 (vM (cL cd)).size (0+n),(runK G (vM (cL cd)) 0 n σ).map (atS σ'),knd (cR cd))=(3,1,true,some (asS σ'),8):=by kernel_rfl):SEM G cd σ K:=by
 injection h with h1 h2
 injection h2 with h2 h3
 injection h3 with h3 h4
 injection h4 with h4 h5
 exact Ob h1 (Cv h2 (z1 n σ' (FQ h5 next) (by rw [h3,h4])))
theorem zA {ops:Array Oper} {k:Nat} {K:St→Prop} (n:Nat) (next:EVS G ops (k+n) (Uu G ops k n σ) K) (h:(runK G ops k n σ).isSome=true:=by kernel_rfl):EVS G ops k σ K:=Vc n h next
theorem zB (h:SEM G (cL cd) σ (Kl G (cR cd) K)) (hk:knd cd=3:=by kernel_rfl):SEM G cd σ K:=Ob hk h
theorem zC (h:SEM G (cL cd) σ (BQ (cId cd) K)) (hk:knd cd=5:=by kernel_rfl):SEM G cd σ K:=NT hk h
theorem zD (h:EVS G (vM cd) 0 σ (K .normal)) (hk:knd cd=1:=by kernel_rfl):SEM G cd σ K:=Cv hk h
theorem zF {S R:Type} {emb:S→St} {out:R→PX×St} {r:R} {px:PX} {X τ:St} (hτ:gG P X τ) (e:(out r).1=px:=by rfl) (h:atS (out r).2 X=asS (out r).2:=by kernel_rfl):LKR P emb out (.inr r) px τ:=sS hτ e (here h)
theorem zG {X τ σe:St} (hτ:gG P X τ) (h:atS σe X=asS σe:=by kernel_rfl):gG P σe τ:=eT hτ (here h)
theorem zH {S R:Type} {emb:S→St} {out:R→PX×St} {s':S} {X τ:St} (hτ:gG P X τ) (h:atS (emb s') X=asS (emb s'):=by kernel_rfl):LKR P emb out (.inl s') .normal τ:=Kd hτ (here h)
theorem zL (i:Nat) (next:∀ τ,gG G.P σ τ→K (.exit i) τ) (hk:knd cd=7:=by kernel_rfl) (hi:cId cd=i:=by rfl):SEM G cd σ K:=NV i hk hi next
theorem zM (next:∀ τ,gG G.P σ τ→K .normal τ) (hk:knd cd=0:=by kernel_rfl):SEM G cd σ K:=Th hk next
theorem zN (next:∀ τ,gG G.P σ τ→K .ret τ) (hk:knd cd=8:=by kernel_rfl):SEM G cd σ K:=FQ hk next
theorem zO {ops:Array Oper} {k:Nat} {K:St→Prop} (next:∀ τ,gG G.P σ τ→K τ) (h:E6 ops.size k=true:=by kernel_rfl):EVO G ops k σ K:=PY h next
theorem zP {ops:Array Oper} {k:Nat} {K:St→Prop} (next:∀ τ,gG G.P σ τ→K τ) (h:E6 ops.size k=true:=by kernel_rfl):EVS G ops k σ K:=Qq h next
theorem zQ {id i:Nat} {K:PX→St→Prop} (h:K .normal σ) (e:id=i:=by kernel_rfl):BQ id K (.exit i) σ:=YM e h
theorem zS {ops:Array Oper} {k:Nat} {K:St→Prop} (b:Bool) (σf:Bool→St) (ht:b=true→EVS G ops k (σf true) K) (hf:b=false→EVS G ops k (σf false) K) (h:atS (σf b) σ=asS (σf b):=by kernel_rfl):EVS G ops k σ K:=MK b σf h ht hf
theorem zT (σj:St) (h:EVS G (vM cd) 0 σ (fun τ=>gG G.P σj τ)) (next:∀ τ,gG G.P σj τ→K .normal τ) (hk:knd cd=1:=by kernel_rfl):SEM G cd σ K:=FP σj hk h next
end
section
variable (G:Prg) {f:FuncId} {fn:Func} {args:List PV} {H0:HP} {r:PV} {H1:HP}
theorem zU (hf:G.P.funcs[f]?=some fn) (h:SEM G (Si fn) ⟨Mq 0 args,H0⟩ (RK G.P fn.results.toList r H1)) (hb:fn.body.isSome=true:=by kernel_rfl) (hname:(fn.name == "runtime.NumGoroutine")=false:=by kernel_rfl)
 (hd:Ec fn.ntmps (Si fn)=true:=by kernel_rfl) (hl:E6 args.length fn.ntmps=true:=by kernel_rfl) (hN:E6 fn.ntmps PIN=true:=by kernel_rfl):PC G.P f args H0 r H1:=A6 G hf hb hname hd hl hN h
theorem zV {P:Program} {X τ:St} {l:List ResultVar} (hτ:gG P X τ) (s:SL) (h:HZ P ⟨s,H1⟩ l=some r:=by kernel_rfl) (hs:atS ⟨s,H1⟩ X=asS ⟨s,H1⟩:=by kernel_rfl):RK P l r H1 .ret τ:=Mx hτ s (here hs) h
end
abbrev ro (g e:Nat):PV:=.row (.top g) e
abbrev sI (l:List Int):PV:=.sl (l7 cI l)
abbrev sB (l:List Bool):PV:=.sl (l7 cB l)
abbrev wI (e:Nat) (l:List Int):HO:=.row e [] (l7 cI l)
abbrev wB (e:Nat) (l:List Bool):HO:=.row e [] (l7 cB l)
theorem osi {α:Type} {a b:α} (h:some a=some b):a=b:=w7 h
section
end
end Go.VI
namespace Go.VI
open Go.RowKit
def FO (a b:ByteArray):Option ByteArray:=if a.size+b.size≤9223372036854775807 then some (a++b) else none
section
variable {G:Prg} {ops:Array Oper} {k:Nat} {σ:St}
theorem TY {a b x:ByteArray} (h:DK G ops k σ=some (.add,.lit (.string a),.lit (.string b))) (hx:FO a b=some x):eX G ops k σ=some (.val (.lit (.string x))):=by
 unfold FO at hx
 split at hx
 case isFalse=>cases hx
 rename_i hs
 injection hx with hx;subst hx
 unfold DK at h
 split at h
 case h_2=>cases h
 rename_i o ho
 split at h
 case h_2=>cases h
 rename_i op' t x y t' hop
 simp only [n9,t8] at h
 obtain ⟨rfl,h1,h2⟩:=h
 refine Dq ho (by rw [hop];rfl) ?_
 rw [hop]
 simp only [kQ,h1,h2,FE,if_pos hs,s8]
end
section
variable {G:Prg} {ops:Array Oper} {k:Nat} {σ:St}
end
theorem WD {P:Program} {f:FuncId} {args:List Value} {v:Value} (he:enters P f=true) (b:Nat) (hb:QI P=some b)
  (h:∀ (m:Int) (w:World),w.cell? ⟨b,0,none⟩=some (.int .i64 m)→Calls P f args.toArray w fun e w'=>e=.returned v∧w'=w):PC P f (args.map .lit) [] (.lit v) []:=by
 refine ⟨he,fun w c vals heg hok hobj hlen hrep=>?_⟩
 obtain ⟨_,_,m,hm⟩:=heg b hb
 have hv:vals=args:=by
  refine G0 fun i=>?_
  rw [p9] at hlen
  cases hi:args[i]? with
  | none=>rw [List.getElem?_eq_none_iff] at hi ⊢;omega
  | some x =>
    have:=hrep i (.lit x) (by simp [hi])
    rw [m8] at this
    have hl:i<vals.length:=by have:=(m9.1 hi).1;omega
    rw [l8 hl] at this ⊢
    simp only [H2] at this
    rw [this.iB]
 subst hv
 refine (h m w hm).mono ?_
 rintro e w' ⟨rfl,rfl⟩
 exact ⟨_,c,rfl,⟨rfl,rfl,rfl,v7 _,fun _ _ _=>rfl⟩,fun _ h=>h,fun _ h=>.inl h,⟨hok.hS,fun k hk=>⟨.inr ⟨k,hk,rfl⟩,(hok.hD k hk).2⟩,hok.inj⟩,fun g _=>Agree.refl c _,.free _ _ (.lit _),fun _ _ h=>nomatch h⟩
end Go.VI
namespace Go.VI
open Go.RowKit
def ifT (tI tN:Nat):Option Int→Nat
 | some _=>tI
 | none=>tN
def ifV:Option Int→Value
 | some n=>.int .i64 n
 | none=>.agg #[]
def ifA:Option Int→PV
 | some n=>vI n
 | none=>.agg []
abbrev vF (tI tN:Nat) (x:Option Int):PV:=.lit (.iface (ifT tI tN x) (ifV x))
structure IfC (P:Program) (t tI tN f g:Nat) (nm:String):Prop where
 cI:(P.underlying tI).map (fun d=>match d with | .interface _=>false | _=>true)=some true
 cN:(P.underlying tN).map (fun d=>match d with | .interface _=>false | _=>true)=some true
 eII:∀ a b w,(Op.equal t (.iface tI (.int .i64 a)) (.iface tI (.int .i64 b))).run P w=.ok (a==b) w
 eNN:∀ w,(Op.equal t (.iface tN (.agg #[])) (.iface tN (.agg #[]))).run P w=.ok true w
 eIN:∀ a w,(Op.equal t (.iface tI (.int .i64 a)) (.iface tN (.agg #[]))).run P w=.ok false w
 eNI:∀ a w,(Op.equal t (.iface tN (.agg #[])) (.iface tI (.int .i64 a))).run P w=.ok false w
 aI:∀ a w,(Instr.typeAssert (.iface tI (.int .i64 a)) t tI true).run P w=.ok (.tuple #[.int .i64 a,.bool true]) w
 aN:∀ w,(Instr.typeAssert (.iface tN (.agg #[])) t tI true).run P w=.ok (.tuple #[.int .i64 0,.bool false]) w
 mI:∀ a w,(method (P.types.size+Made.depth) tI (.int .i64 a) nm).run P w=.ok (f,.int .i64 a) w
 mN:∀ w,(method (P.types.size+Made.depth) tN (.agg #[]) nm).run P w=.ok (g,.agg #[]) w
section
variable {G:Prg} {ops:Array Oper} {k:Nat} {σ:St} {t tI tN f g:Nat} {nm:String}
theorem RV.JF {P:Program} {w:World} {c:Ctx} {v:Value} (h:RV P w c (.agg []) v):v=.agg #[]:=by
 cases h with
 | free pv v hf=>cases hf with | agg cs vs hn hr=>simp at hn;simp [hn]
 | agg cs vs hn hr=>simp at hn;simp [hn]
theorem YV {P:Program} {w:World} {c:Ctx} {x:Option Int} {X:Value} (r:RV P w c (ifA x) X):X=ifV x:=by
 cases x with
 | some n=>exact r.iB
 | none=>exact r.JF
def RN (ops:Array Oper) (k:Nat) (σ:St):Option (Nat×PV):=match Bs ops k σ with
 | some o=>(match o.op with
   | .makeInterface t x=>some (t,pev σ x)
   | _=>none)
 | none=>none
theorem Dc {x:Option Int} (F:IfC G.P t tI tN f g nm) (h:RN ops k σ=some (ifT tI tN x,ifA x)):uE G ops k σ (.val (vF tI tN x)):=by
 unfold RN at h
 split at h
 case h_2=>cases h
 rename_i o ho
 split at h
 case h_2=>cases h
 rename_i t0 y hop
 simp only [n9,t8] at h
 obtain ⟨h1,h2⟩:=h
 obtain ⟨q1,q2⟩:=fH ho
 refine ⟨o,q1,q2,fun hI hd=>?_⟩
 have r1:=hI.ev y
 rw [h2] at r1
 refine bY hI hd ?_ (.free _ _ (.lit _))
 have hc:(G.P.underlying (ifT tI tN x)).map (fun d=>match d with | .interface _=>false | _=>true)=some true:=by
  cases x with
  | some n=>exact F.cI
  | none=>exact F.cN
 obtain ⟨d,hd1,hd2⟩:=s6.1 hc
 have hx:=YV r1
 unfold execOp
 rw [hop]
 simp only [hx,h1,Instr.makeInterface,o5,run_underlying hd1,m6]
 cases d <;> first | (simp at hd2;done) | rfl
def XY (ops:Array Oper) (k:Nat) (σ:St):Option (PV×Nat×Nat×Bool):=match Bs ops k σ with
 | some o=>(match o.op with
   | .typeAssert x t a ok=>some (pev σ x,t,a,ok)
   | _=>none)
 | none=>none
theorem YJ {x:Option Int} (F:IfC G.P t tI tN f g nm) (h:XY ops k σ=some (vF tI tN x,t,tI,true)):uE G ops k σ (.val (.tup [vI (x.getD 0),vB x.isSome])):=by
 unfold XY at h
 split at h
 case h_2=>cases h
 rename_i o ho
 split at h
 case h_2=>cases h
 rename_i y t0 a0 ok hop
 simp only [n9,t8] at h
 obtain ⟨h1,rfl,rfl,rfl⟩:=h
 obtain ⟨q1,q2⟩:=fH ho
 refine ⟨o,q1,q2,fun hI hd=>?_⟩
 have r1:=hI.ev y
 rw [h1] at r1
 refine bY (v:=.tuple #[.int .i64 (x.getD 0),.bool x.isSome]) hI hd ?_ (.tup _ _ rfl fun i pv hg=>?_)
 ·unfold execOp
  rw [hop]
  simp only [r1.iB]
  cases x with
  | some n=>simp only [ifT,ifV,o5,F.aI,m6,o9,H2,O4]
  | none=>simp only [ifT,ifV,o5,F.aN,m6,o9,Option.getD_none,S9]
 ·match i,hg with
  | 0,hg=>obtain rfl:=w7 hg;exact .free _ _ (.lit _)
  | 1,hg=>obtain rfl:=w7 hg;exact .free _ _ (.lit _)
  | n+2,hg=>simp at hg
def CE (ops:Array Oper) (k:Nat) (σ:St):Option (BinOp×Nat×PV×PV):=match Bs ops k σ with
 | some o=>(match o.op with
   | .binOp op t x y _=>some (op,t,pev σ x,pev σ y)
   | _=>none)
 | none=>none
theorem QQ {P:Program} (F:IfC P t tI tN f g nm) (x y:Option Int) (w:World):(Op.equal t (.iface (ifT tI tN x) (ifV x)) (.iface (ifT tI tN y) (ifV y))).run P w=.ok (x==y) w:=by
 cases x <;> cases y
 ·exact F.eNN w
 ·rename_i b;exact F.eNI b w
 ·rename_i b;exact F.eIN b w
 ·rename_i a b
  have:((some a:Option Int)==some b)=(a==b):=rfl
  rw [this]
  exact F.eII a b w
theorem JL {x y:Option Int} {op:BinOp} (hop':op=.eql∨op=.neq) (F:IfC G.P t tI tN f g nm) (h:CE ops k σ=some (op,t,vF tI tN x,vF tI tN y)):uE G ops k σ (.val (vB (if op=.eql then x==y else !(x==y)))):=by
 unfold CE at h
 split at h
 case h_2=>cases h
 rename_i o ho
 split at h
 case h_2=>cases h
 rename_i op0 t0 u v t1 hop
 simp only [n9,t8] at h
 obtain ⟨rfl,rfl,h1,h2⟩:=h
 obtain ⟨q1,q2⟩:=fH ho
 refine ⟨o,q1,q2,fun hI hd=>?_⟩
 have r1:=hI.ev u
 rw [h1] at r1
 have r2:=hI.ev v
 rw [h2] at r2
 refine bY hI hd ?_ (.free _ _ (.lit _))
 unfold execOp
 rw [hop]
 simp only [r1.iB,r2.iB]
 rcases hop' with rfl | rfl <;> simp [eqGuard,binOp,QQ F]
theorem BM {x y:Option Int} (F:IfC G.P t tI tN f g nm) (h:CE ops k σ=some (.eql,t,vF tI tN x,vF tI tN y)):uE G ops k σ (.val (vB (x==y))):=JL (.inl rfl) F h
theorem OY {x y:Option Int} (F:IfC G.P t tI tN f g nm) (h:CE ops k σ=some (.neq,t,vF tI tN x,vF tI tN y)):uE G ops k σ (.val (vB !(x==y))):=JL (.inr rfl) F h
def XI (ops:Array Oper) (k:Nat) (σ:St):Option (PV×String×Nat):=match Bs ops k σ with
 | some o=>(match o.op with
   | .call c=>(match c.callee with
     | .invoke x nm=>some (pev σ x,nm,c.args.size)
     | _=>none)
   | _=>none)
 | none=>none
def ifm (f g:Nat):Option Int→Nat
 | some _=>f
 | none=>g
theorem CG {P:Program} {x:Option Int} {A:Int→Option Bool} {B:Option Bool} {r:Bool} (hr:(match x with | some n=>A n | none=>B)=some r) (h1:∀ n,A n=some r→PC P f [vI n] [] (vB r) []) (h2:B=some r→PC P g [.agg []] [] (vB r) []):PC P (ifm f g x) [ifA x] [] (vB r) []:=by
 cases x with
 | some n=>exact h1 n hr
 | none=>exact h2 hr
theorem Vb {x:Option Int} {r:Bool} {Q:St→Prop} (F:IfC G.P t tI tN f g nm) (h:XI ops k σ=some (vF tI tN x,nm,0)) (pc:PC G.P (ifm f g x) [ifA x] [] (vB r) [])
  (next:EVS G ops (k+1) (mU σ (fX ops k) (vB r)) Q):EVS G ops k σ Q:=by
 unfold XI at h
 split at h
 case h_2=>cases h
 rename_i o ho
 split at h
 case h_2=>cases h
 rename_i c hop
 split at h
 case h_2=>cases h
 rename_i y nm0 hcal
 simp only [n9,t8] at h
 obtain ⟨h1,rfl,h3⟩:=h
 obtain ⟨q1,q2⟩:=fH ho
 rw [tC q1] at next
 refine Nq q1 q2 (fun _ E S0 N a w c' hi hd nx Q' hn=>?_) fun e=>nomatch e
 have r1:=hi.ev y
 rw [h1] at r1
 have hargs:c.args=#[]:=by simpa using h3
 have hfu:∀ f':Nat,enters G.P f'=true→∀ v,(callFunc f' v).run G.P w=.ok (.enter f' v) w:=fun f' hent v=>by
  unfold enters at hent
  cases hfu:G.P.funcs[f']? with
  | none=>simp [hfu] at hent
  | some fn =>
    simp only [hfu,o8,F2] at hent
    have hb:fn.body.isNone=false:=by
     cases hbo:fn.body <;> simp [hbo] at hent ⊢
    simp only [callFunc,o5,program,Sem.run,m6,hfu,hent.2,hb,j9,if_false,o9]
 have hrun:(execOp a.eval o).run G.P w=.ok (.enter (ifm f g x) #[ifV x]) w:=by
  unfold execOp
  simp only [hop,resolve,hcal,r1.iB,o5,o9,m6,invoke,hargs]
  cases x with
  | some n =>
    have:=hfu f pc.1 #[.int .i64 n]
    simpa [ifT,ifV,ifm,callMethod,program,Sem.run,F.mI] using this
  | none =>
    have:=hfu g pc.1 #[.agg #[]]
    simpa [ifT,ifV,ifm,callMethod,program,Sem.run,F.mN] using this
 refine We (K:=fun σ'=>EVS G ops (k+1) σ' Q) (R:=[]) (R1:=[]) (vis:=[]) (qs:=[ifA x]) (H0:=[]) (r:=vB r) (H1:=[]) (args:=[ifA x]) hrun (fun i pv hg=>?_) rfl
  ⟨pc,rfl,rfl,(fun _ _ h=>nomatch h),(fun _ _ h=>nomatch h),rfl,by cases x <;> rfl,rfl,.inl rfl, ?_⟩ hi hd nx Q' fun σ' a' w' c'' hk hi'=>hn _ _ _ _ hk hi'
 ·match i,hg with
  | 0,hg =>
    obtain rfl:=w7 hg
    cases x with
    | some n=>exact .free _ _ (.lit _)
    | none=>exact .free _ _ (.agg _ _ rfl fun i pv hg=>nomatch hg)
  | n+1,hg=>simp at hg
 ·show EVS G ops (k+1) (mU (after ([]++[]) (([].filter fun (x:Nat×Nat)=>E6 PIN x.1).map (·.2)) σ []) o.dst (vB r)) Q
  rw [Se]
  exact next
end
end Go.VI
namespace Go.VI
open Go.RowKit
section
variable {P:Program} {E:Ent} {S0:Nat→Prop} {N:Nat} {σ:St} {a:Act} {w:World} {c:Ctx}
theorem Inv.D6 (h:Inv P E S0 N σ a w c) {g e:Nat} {l:List Int} (hg:σ.hget g=some (.row e [] (l.map cI))) (hl:l≠[]) (he:aJ P e=1):Inv P E S0 N (σ.put g (.tl e l)) a w c:=by
 refine ⟨h.below,h.ok,h.sub,h.sup,h.slots,fun g' o hg'=>?_,h.pin,h.small,h.size,h.defers⟩
 rw [eH] at hg'
 split at hg'
 case isFalse=>exact h.fE g' o hg'
 rename_i q;subst q
 injection hg' with hg';subst hg'
 obtain ⟨xs,r⟩:=h.fE _ _ hg
 rcases r.own.2 with ⟨h0,hn⟩ | ⟨b,cap,cur,h0,hb2,hg2,hnc,hcm,hcs,htake⟩
 ·simp at hn;exact absurd hn hl
 ·obtain ⟨q1,q2⟩:=r.blk b (by rw [h0];rfl)
  refine ⟨r.ty,he,q1,0,cap,cur,by rw [h0,q2,p9],by rw [q2];exact hg2,by simpa using hnc,hcm,by rw [hcs,he];omega,fun i n hi=>?_⟩
  have hgE:dV (l.map cI) i 0=some (vI n):=by unfold dV;simp [hi,cI]
  have hr:=r.rep i 0 _ hgE
  simp only [eL,Jat] at hr
  rw [he] at hr htake
  have hv:xs.getD (i*1+0) undef=.int .i64 n:=(RV.free (P:=P) (c:=c) _ _ hr).iB
  rw [← htake] at hv
  have hi':=cV hi
  rw [pM _ _ _ (by simp;omega),m8,w9] at hv
  have hlt:i<cur.size:=by rw [hcs,he];simp at hnc;omega
  simp only [Q0,K3] at hv
  rw [I2]
  rw [Array.getElem?_eq_getElem hlt] at hv ⊢
  simpa using hv
theorem Vn {g e:Nat} {v:Value} (r:RV P w c (.row (.top g) e) v):v=c.hd (.top g):=by
 cases r with
 | free _ _ hf=>cases hf
 | row=>rfl
theorem Hr.one {g e:Nat} {l:List Int} (r:Hr P w c g e l):(c.hd (.top g)).oneCell'=true:=by
 obtain ⟨_,_,_,o,cap,cur,h0,_⟩:=r
 rw [h0];rfl
theorem Hr.rv {g e:Nat} {l:List Int} (r:Hr P w c g e l):RV P w c (.row (.top g) e) (c.hd (.top g)):=.row (.top g) e r.ty r.one
theorem PM {o:Oper} {t e g n:Nat} {x y:Operand} {l:List Int} (ho:o.op=.slice t x (some y) none none) (ht:kL P t=some e) (hinfo:(P.info? e).isSome=true) (hg:g<PIN)
  (hx:pev σ x=.row (.top g) e) (hy:Li (pev σ y)=some n) (hr:σ.hget g=some (.tl e l)) (hn:n≤l.length) (h:Inv P E S0 N σ a w c) (hd:∀ k,o.dst=some k→k<N) :
  vJ P E S0 N o a w (Res.put σ o.dst ⟨[dU g],[(g,.tl e (l.drop n))],.row (.top g) e⟩):=by
 have rx:=h.ev x
 rw [hx] at rx
 obtain ⟨k,ey⟩:=rO (h.ev y) hy
 have hX:=Vn rx
 obtain ⟨hty,hsz,hD,of,cap,cur,h0,hb,hlc,hcm,hcs,hcell⟩:=h.fE g _ hr
 have hu:=kM ht
 have run:(Instr.sliceAt t (.slice (some ⟨c.τ (.top g),of,none⟩) l.length cap) (some (.int k n)) none none).run P w=.ok (.slice (some (if cap=n then ⟨c.τ (.top g),of,none⟩ else (⟨c.τ (.top g),of,none⟩:Addr).add (n*aJ P e))) (l.length-n) (cap-n)) w:=by
  have bnd:(Instr.sliceBounds true l.length cap (some (.int k n)) none none).run P w=.ok (n,l.length,cap) w:=by
   have:=run_sliceBound (P:=P) (w:=w) k (n:Int) l.length .sliceB (by omega) (by omega)
   simp [Instr.sliceBounds,this]
  simp only [Instr.sliceAt,Instr.slice,o5,run_underlying hu,m6,bnd,run_sizeOf (u9.1 hinfo),o9,s8]
  split <;> rfl
 have hexec:(execOp a.eval o).run P w=.ok (.value (.slice (some (if cap=n then ⟨c.τ (.top g),of,none⟩ else (⟨c.τ (.top g),of,none⟩:Addr).add (n*aJ P e))) (l.length-n) (cap-n))) w:=by
  unfold execOp
  simp only [ho,Option.map_none,s8,ey,hX,h0,o5,run,m6,o9]
 -- where it begins
 obtain ⟨o',ho',hcs',hcell'⟩:∃ o',(if cap=n then (⟨c.τ (.top g),of,none⟩:Addr) else (⟨c.τ (.top g),of,none⟩:Addr).add (n*aJ P e))=⟨c.τ (.top g),o',none⟩∧o'+(cap-n)≤cur.size∧∀ (i:Nat) m,(l.drop n)[i]?=some m→cur[o'+i]?=some (.int .i64 m):=by
  by_cases e1:cap=n
  ·refine ⟨of,by rw [if_pos e1],by omega,fun i m hi=>?_⟩
   have:=cV hi
   rw [K5] at this
   omega
  ·refine ⟨of+n,by rw [if_neg e1,hsz,Q0,add_lit],by omega,fun i m hi=>?_⟩
   rw [E8] at hi
   rw [Nat.add_assoc]
   exact hcell _ _ hi
 rw [ho'] at hexec
 let v':Value:=.slice (some ⟨c.τ (.top g),o',none⟩) (l.length-n) (cap-n)
 let c':Ctx:=⟨c.S,c.τ,fun k=>if k=.top g then v' else c.hd k,c.ty,c.D⟩
 have hhd:c'.hd (.top g)=v':=by simp [c']
 have hag:∀ k,k≠.top g→Agree c c' k:=fun k hk=>⟨rfl,by simp [c',hk],rfl⟩
 have hrep:Hr P w c' g e (l.drop n):=⟨hty,hsz,hD,o',cap-n,cur,by rw [hhd,K5],hb,by rw [K5];omega,by omega,hcs',hcell'⟩
 have hrv:RV P w c' (.row (.top g) e) v':=by have:=hrep.rv;rwa [hhd] at this
 refine mQ hd (.inl hexec) (c':=c') ?_ hrv
 refine h.step (c':=c') (dU g) (·=g) h.below ⟨h.ok.hS,h.ok.hD,h.ok.inj⟩ (fun _ _=>rfl) (fun _ h=>h) h.sup (fun k hk hp=>?_) (fun k hk=>hag k (by rintro rfl;rw [lS] at hk;exact hk rfl)) (fun k hD _=>⟨rfl,hD⟩) (fun k hk=>gE.1 hk) rfl (fun g' o' hx hg'=>?_) (fun g' o' hx hg'=>?_)
 ·rw [gE.1 hp] at hk;omega
 ·simp only [Res.base,y8,G2,eH] at hg'
  rwa [if_neg hx] at hg'
 ·simp only [Res.base,y8,G2,eH] at hg'
  rw [if_pos hx] at hg'
  injection hg' with hg'
  subst hg' hx
  exact hrep
theorem Uv (t ty e:TypeId) (i:TypeInfo) (z:Value) (ht:P.underlying t=some (.slice e)) (hi:P.info? e=some i) (hz:i.zero=some z) (hsize:i.size=1) (hby:i.bytes≤65536) (hzs:z.cells.size=i.size)
  (b o n cap:Nat) (cur:Array Value) (hg:w.heap[b]?=some (.cells cur e (0,0))) (hlc:n≤cap) (hcm:cap≤maxLen) (hcs:o+cap≤cur.size)
  (ad:Addr) (cc:Nat) (u:Value) (hu:w.cell? ad=some u) (h1:u.oneCell'=true) (hlim:n+1≤LIM) :
  ∃ w' b' o' cap',∃ cur':Array Value,(Builtin.append_ #[t,t] ty #[.slice (some ⟨b,o,none⟩) n cap,.slice (some ad) 1 cc]).run P w=.ok (.slice (some ⟨b',o',none⟩) (n+1) cap') w'∧w'.heap[b']?=some (.cells cur' e (0,0))∧n+1≤cap'∧cap'≤maxLen∧o'+cap'≤cur'.size ∧
    (∀ j,j<n→cur'[o'+j]?=cur[o+j]?)∧cur'[o'+n]?=some u∧w.grownBy w' (some b)∧(b'=b∨b'=w.heap.size):=by
 have hnews:∀ (j:Nat) v,[u][j]?=some v→w.cell? (ad.add j)=some v:=fun j v hj=>by
  match j,hj with
  | 0,hj =>
    simp at hj
    subst hj
    simpa [Addr.add] using hu
  | j+1,hj=>simp at hj
 by_cases hroom:n+1≤cap
 ·have hf:=run_firstCells_some (P:=P) w i.size 1 ad 1 cc [u] (by simp [hsize]) hnews
  have hst:=run_storeCells_at P b (o+n*i.size) e [u] 0 cur w hg (by rw [hsize];simp;omega) (by simpa using h1)
  simp only [K3,hsize,Q0,H5,L5,I2] at hst
  generalize harr:(cur.toList.take (o+n)++[u]++cur.toList.drop (o+n+1)).toArray=arr at hst
  have hsz:arr.size=cur.size:=by rw [← harr];simp;omega
  refine ⟨w.setRow b arr,b,o,cap,arr, ?_,setRow_heap w b cur arr e _ hg,hroom,hcm,by omega,fun j hj=>?_, ?_,⟨rfl,rfl,rfl,by simp,fun k _ hk=>setRow_other w b k _ (fun q=>hk (by simp [q]))⟩,.inl rfl⟩
  ·rw [hsize] at hf
   simp [Builtin.append_,run_underlying ht,sizeOf,typeInfo,hi,Builtin.lenOf,hroom,hf,Addr.add_lit,hst,hsize]
  ·rw [← harr,J0,x6 (by simp;omega),x6 (by simp;omega),D9,if_pos (by omega),w9]
  ·have:(cur.toList.take (o+n)).length=o+n:=by simp;omega
   rw [← harr,J0,x6 (by simp;omega),x8 (by omega),this,Nat.sub_self]
   rfl
 ·obtain ⟨olds,hol,hoc⟩:∃ olds:List Value,olds.length=n*i.size∧∀ (j:Nat) v,olds[j]?=some v→w.cell? ((⟨b,o,none⟩:Addr).add j)=some v∧cur[o+j]?=some v:=by
   refine ⟨(cur.toList.drop o).take n,by simp [hsize];omega,fun j v hj=>?_⟩
   have hj':=cV hj
   rw [D9,if_pos (by simp at hj';omega),E8,w9] at hj
   refine ⟨?_,hj⟩
   rw [add_lit]
   simp [World.cell?,hg,hj]
  have hr:=run_append_grow (P:=P) (w:=w) t ty e i z ht hi hz ⟨b,o,none⟩ n cap olds hol (fun j v hj=>(hoc j v hj).1) ad 1 cc [u] (by simp [hsize]) hnews (by omega) (by unfold LIM at hlim;omega) (growslice_fits (by omega) (by
   have:=Nat.mul_le_mul hlim hby
   unfold LIM at this
   omega))
  have hge:=grownCap_ge w (n+1) cap e
  have hcm':grownCap w (n+1) cap e≤maxLen:=grownCap_le_maxLen w (n+1) cap e (by unfold LIM at hlim;unfold maxLen;omega)
  refine ⟨_,w.heap.size,0,_,_,hr,heap_alloc_new w.drew _,hge,hcm', ?_,fun j hj=>?_, ?_,⟨rfl,rfl,rfl,by simp,fun k hk _=>heap_alloc_old w.drew _ (r:=k) hk⟩,.inr rfl⟩
  ·simp [size_zeroCells,hzs,hsize,hol];omega
  ·rw [I2]
   have hlt:j<olds.length:=by rw [hol,hsize];omega
   have:=(hoc j _ (l8 hlt)).2
   rw [this]
   rw [M8 (by simp;omega),M8 (by simpa using hlt)]
   simp [hlt]
  ·rw [I2]
   rw [M8 (by simp [hol,hsize])]
   rw [Array.getElem?_append_right (by simp [hol,hsize])]
   simp [hol,hsize]
theorem UI {o:Oper} {t e g:Nat} {s x:Operand} {l:List Int} {y:Int} (ho:o.op=.call { callee:=.builtin .append,args:=#[s,x],argTypes:=#[t,t] }) (ht:kL P t=some e) (hrow:Hf P e=true) (hg:g<PIN)
  (hs:pev σ s=.row (.top g) e) (hx:(pev σ x).elems σ.h=some [[vI y]]) (hf:(pev σ x).flat σ.h=true) (hr:σ.hget g=some (.tl e l)) (hlim:l.length+1≤LIM) (h:Inv P E S0 N σ a w c) (hd:∀ k,o.dst=some k→k<N) :
  vJ P E S0 N o a w (Res.put σ o.dst ⟨[dU g],[(g,.tl e (l++[y]))],.row (.top g) e⟩):=by
 have rs:=h.ev s
 rw [hs] at rs
 have hX:=Vn rs
 have rx:=h.ev x
 obtain ⟨i,z,hi,hz,hsz,hby,hzs,hsize⟩:=vH hrow
 have hu:=kM ht
 obtain ⟨hty,hs1,hD,of,cap,cur,h0,hb,hlc,hcm,hcs,hcell⟩:=h.fE g _ hr
 have hi1:i.size=1:=by rw [hsize,hs1]
 obtain ⟨A,cc,news,hXx,hnl,hA,hnc,h1,hrf⟩:=Np h.fE rx hx hf (k:=1) (by simp) (by omega)
 obtain ⟨ad,rfl⟩:=hA (by simp)
 have hu0:news[0]?=some (news.getD 0 undef):=by
  rw [m8,l8 (by simp at hnl;omega)];rfl
 have hy:news.getD 0 undef=.int .i64 y:=by
  have:=hrf 0 0 (vI y) rfl
  exact (RV.free (P:=P) (c:=c) _ _ this).iB
 rw [hy] at hu0
 have hcu:w.cell? ad=some (.int .i64 y):=by simpa [Addr.add] using hnc ad rfl 0 _ hu0
 obtain ⟨w',b',o',cap',cur',hrun,hb',hlc',hcm',hcs',hold,hnew,hgrow,hblk⟩:=Uv (P:=P) (w:=w) t o.type e i z hu hi hz hi1 hby hzs (c.τ (.top g)) of l.length cap cur hb hlc hcm hcs ad cc _ hcu rfl hlim
 have hexec:(execOp a.eval o).run P w=.ok (.value (.slice (some ⟨b',o',none⟩) (l.length+1) cap')) w':=by
  unfold execOp
  simp only [ho,resolve,invoke,builtin,o5,o9,m6,I9,E1,H9,hX,h0,hXx,H5,L5,hrun]
 obtain ⟨hM,hlt,hnS⟩:=h.ok.hD _ hD
 have hsame:∀ b,b<w.heap.size→b≠c.τ (.top g)→w'.heap[b]?=w.heap[b]?:=fun b hb' hne=>hgrow.block b hb' (fun q=>hne (w7 q))
 have hS:Ga c.S w w':=fun b hS=>hsame b (h.ok.hS b hS) fun e=>hnS (e ▸ hS)
 have below:E.Fr w':=⟨hgrow.os.trans h.below.os,hgrow.tape.trans h.below.tape,hgrow.output.trans h.below.output,J1 h.below.size hgrow.size,fun k hk' hm=>(hsame k (D8 hk' h.below.size) fun e=>hm (e ▸ hM)).trans (h.below.block k hk' hm)⟩
 let v':Value:=.slice (some ⟨b',o',none⟩) (l.length+1) cap'
 let c':=c.lay g b' v' e True
 have hltb:b'<w'.heap.size:=by
  rcases G3 b' w'.heap.size with q | q
  ·exact q
  ·rw [Array.getElem?_eq_none q] at hb';cases hb'
 have hok:c'.Ok E.M w':=Iz h.ok hgrow.size (fun _=>by
  rcases hblk with rfl | rfl
  ·exact ⟨hM,hltb,hnS⟩
  ·exact ⟨h.below.mine (v7 _),hltb,fun q=>by have:=h.ok.hS _ q;omega⟩) fun _ k' hne hDk e=>by
  rcases hblk with rfl | rfl
  ·exact hne (by rw [h.ok.inj _ _ hDk hD e];rfl)
  ·have:=(h.ok.hD k' hDk).2.1;omega
 have hrep:Hr P w' c' g e (l++[y]):=by
  refine ⟨dP.2.2.1,hs1,dP.2.2.2.2 trivial,o',cap',cur',by rw [dP.2.1,dP.1,E5];rfl,by rw [dP.1];exact hb',by rw [E5];exact hlc',hcm',hcs',fun i n hi=>?_⟩
  by_cases hil:i<l.length
  ·rw [x6 hil] at hi
   rw [hold i hil];exact hcell i n hi
  ·have hi':=cV hi
   simp only [E5,H5,L5] at hi'
   obtain rfl:i=l.length:=by omega
   simp only [List.getElem?_concat_length,n9] at hi
   subst hi
   exact hnew
 have hrv:RV P w' c' (.row (.top g) e) v':=by have:=hrep.rv;rwa [show c'.hd (.top g)=v' from dP.2.1] at this
 refine mQ hd (.inl hexec) (c':=c') ?_ hrv
 refine h.step (dU g) (·=g) below hok hS (fun _ h=>h) h.sup (fun k hk hp=>?_) (fun k hk=>kO (lS.1 hk)) (fun k hDk hx=>⟨hsame _ (h.ok.hD k hDk).2.1 fun e=>hx (by rw [h.ok.inj _ _ hDk hD e];rfl),(Gr hx).2 hDk⟩)
  (fun k hk=>gE.1 hk) rfl (fun g' o hx hg=>?_) (fun g' o hx hg=>?_)
 ·rw [gE.1 hp] at hk;omega
 ·simp only [Res.base,y8,G2,eH] at hg
  rwa [if_neg hx] at hg
 ·simp only [Res.base,y8,G2,eH] at hg
  rw [if_pos hx] at hg
  injection hg with hg
  subst hg hx
  exact hrep
end
section
variable {G:Prg} {ops:Array Oper} {k:Nat} {σ:St} {K:St→Prop}
theorem QD {g e:Nat} {l:List Int} (hg:σ.hget g=some (.row e [] (l.map cI))) (hl:l.isEmpty=false) (he:aJ G.P e=1) (next:EVS G ops k (σ.put g (.tl e l)) K):EVS G ops k σ K:=
 EE (fun hi=>⟨_,hi.D6 hg (by rintro rfl;cases hl) he⟩) next
theorem UN {g e:Nat} {l:List Int} (h:Ov G ops k σ=some (.row (.top g) e)) (hg:σ.hget g=some (.tl e l)):uE G ops k σ (.val (vI (l.length:Int))):=by
 unfold Ov at h
 split at h
 case h_2=>cases h
 rename_i o ho
 split at h
 case h_2=>cases h
 rename_i c hop
 split at h
 case h_2=>cases h
 rename_i hcal
 split at h
 case h_2=>cases h
 rename_i x t hargs htys
 split at h
 case h_2=>cases h
 rename_i e' hu
 simp only [n9] at h
 obtain ⟨q1,q2⟩:=fH ho
 refine ⟨o,q1,q2,fun hI hd=>?_⟩
 have r1:=hI.ev x
 rw [h] at r1
 have hX:=Vn r1
 obtain ⟨_,_,_,of,cap,cur,h0,_⟩:=hI.fE g _ hg
 refine bY (v:=.int .i64 l.length) hI hd ?_ (.free _ _ (.lit _))
 have ha:c.args=#[x]:=by rw [← E9];exact hargs
 have hty:c.argTypes=#[t]:=by rw [← E9];exact htys
 unfold execOp
 simp only [hop,resolve,hcal,ha,hty,invoke,builtin,o5,o9,m6,I9,E1,H9,hX,h0]
 simp [Builtin.len_,run_underlying hu,goInt]
def XV (G:Prg) (ops:Array Oper) (k:Nat) (σ:St):Option (PV×PV×Nat×Bool):=match Bs ops k σ with
 | some o=>(match o.op with
   | .slice t x (some y) none none=>(match kL G.P t with
     | some e=>some (pev σ x,pev σ y,e,(G.P.info? e).isSome)
     | none=>none)
   | _=>none)
 | none=>none
theorem OX {g e n:Nat} {l:List Int} {kd:IntKind} (h:XV G ops k σ=some (.row (.top g) e,.lit (.int kd n),e,true)) (hp:H8 g PIN=true) (hg:σ.hget g=some (.tl e l)) (hn:decide (n≤l.length)=true):uE G ops k σ ⟨[dU g],[(g,.tl e (l.drop n))],.row (.top g) e⟩:=by
 unfold XV at h
 split at h
 case h_2=>cases h
 rename_i o ho
 split at h
 case h_2=>cases h
 rename_i t x y hop
 split at h
 case h_2=>cases h
 rename_i e' he
 simp only [n9,t8] at h
 obtain ⟨h1,h2,rfl,h4⟩:=h
 obtain ⟨q1,q2⟩:=fH ho
 exact ⟨o,q1,q2,fun hI hd=>PM hop he h4 (by simpa using hp) h1 (by rw [h2];simp [Li]) hg (of_decide_eq_true hn) hI hd⟩
def OV (G:Prg) (ops:Array Oper) (k:Nat) (σ:St):Option (PV×PV×Nat×Bool):=match Bs ops k σ with
 | some o=>(match o.op with
   | .call c=>(match c.callee with
     | .builtin .append=>(match c.args.toList,c.argTypes.toList with
       | [s,x],[t,t']=>if t=t' then (match kL G.P t with
         | some e=>some (pev σ s,pev σ x,e,Hf G.P e)
         | none=>none) else none
       | _,_=>none)
     | _=>none)
   | _=>none)
 | none=>none
theorem UL {g e:Nat} {l l':List Int} {y:Int} {x:PV} (h:OV G ops k σ=some (.row (.top g) e,x,e,true)) (hp:H8 g PIN=true) (hg:σ.hget g=some (.tl e l)) (hx:x.elems σ.h=some [[vI y]]) (hf:x.flat σ.h=true) (hl:app l [y]=some l'):uE G ops k σ ⟨[dU g],[(g,.tl e l')],.row (.top g) e⟩:=by
 obtain ⟨hlim,rfl⟩:=OU hl
 unfold OV at h
 split at h
 case h_2=>cases h
 rename_i o ho
 split at h
 case h_2=>cases h
 rename_i c hop
 split at h
 case h_2=>cases h
 rename_i hcal
 split at h
 case h_2=>cases h
 rename_i s x0 t t' hargs htys
 split at h
 case isFalse=>cases h
 rename_i htt;subst htt
 split at h
 case h_2=>cases h
 rename_i e' he
 simp only [n9,t8] at h
 obtain ⟨h1,h2,rfl,h4⟩:=h
 obtain ⟨q1,q2⟩:=fH ho
 have ha:c.args=#[s,x0]:=by rw [← E9];exact hargs
 have hty:c.argTypes=#[t,t]:=by rw [← E9];exact htys
 have hop':o.op=.call { callee:=.builtin .append,args:=#[s,x0],argTypes:=#[t,t] }:=by
  rw [hop,← ha,← hty,← hcal]
 exact ⟨o,q1,q2,fun hI hd=>UI hop' he h4 (by simpa using hp) h1 (by rw [h2];exact hx) (by rw [h2];exact hf) hg (by simpa using hlim) hI hd⟩
def XO (ops:Array Oper) (k:Nat) (σ:St):Option (Nat×PV×Nat):=match Bs ops k σ with
 | some o=>(match o.op with
   | .makeFunc (.func f) first caps=>(match first.toList with
     | [x]=>some (f,pev σ x,caps.size)
     | _=>none)
   | _=>none)
 | none=>none
theorem YI {f:Nat} (h:XO ops k σ=some (f,.agg [],0)):uE G ops k σ (.val (.lit (.func (.func f) #[.agg #[]] #[]))):=by
 unfold XO at h
 split at h
 case h_2=>cases h
 rename_i o ho
 split at h
 case h_2=>cases h
 rename_i f' first caps hop
 split at h
 case h_2=>cases h
 rename_i x hfirst
 simp only [n9,t8] at h
 obtain ⟨rfl,h2,h3⟩:=h
 obtain ⟨q1,q2⟩:=fH ho
 obtain rfl:first=#[x]:=E9.1 hfirst
 obtain rfl:caps=#[]:=Array.eq_empty_of_size_eq_zero h3
 refine ⟨o,q1,q2,fun hI hd=>?_⟩
 have r1:=hI.ev x
 rw [h2] at r1
 refine bY hI hd ?_ (.free _ _ (.lit _))
 unfold execOp
 rw [hop]
 simp [r1.JF,Instr.makeFunc]
def QH (G:Prg) (ops:Array Oper) (k:Nat) (σ:St):Option (PV×PV×Nat×Nat×Nat):=match Bs ops k σ,Eg ops (k+1) with
 | some o,some o2=>(match o.op,o.dst,o2.op,o2.dst,o2.guard with
   | .indexAddr t x ix,some d1,.load t2 (.tmp d),some d2,none=>if E4 d d1=true then (match kL G.P t,OH G.P t2 with
     | some e,some .i64=>some (pev σ x,pev σ ix,e,d1,d2)
     | _,_=>none) else none
   | _,_,_,_,_=>none)
 | _,_=>none
theorem QB {g e d1 d2:Nat} {l:List Int} {i x:Int} {kd:IntKind} (h:QH G ops k σ=some (.row (.top g) e,.lit (.int kd i),e,d1,d2)) (hinfo:(G.P.info? e).isSome=true) (hg:σ.hget g=some (.tl e l)) (hx:idx l i=some x)
  (next:EVS G ops (k+2) ((σ.set d1 .undef).set d2 (vI x)) K):EVS G ops k σ K:=by
 obtain ⟨hi0,hix⟩:=Mp hx
 unfold QH at h
 split at h
 case h_2=>cases h
 rename_i o o2 ho ho2
 split at h
 case h_2=>cases h
 rename_i t y ix d1' t2 d d2' hop hdst hop2 hdst2 hgd2
 split at h
 case isFalse=>cases h
 rename_i hdd
 have hdd:=t7 hdd
 split at h
 case h_2=>cases h
 rename_i e' he hti
 simp only [n9,t8] at h
 obtain ⟨h1,h2,rfl,rfl,rfl⟩:=h
 subst hdd
 obtain ⟨q1,q2⟩:=fH ho
 intro E S0 N a w c hd hi Q hn
 have hlt:k<ops.size:=by
  unfold Eg at q1
  obtain ⟨q,_⟩:=m9.1 q1
  simpa using q
 have hlt2:k+1<ops.size:=by
  unfold Eg at ho2
  obtain ⟨q,_⟩:=m9.1 ho2
  simpa using q
 have hmA:ops[k]?=some o:=by rw [← w9];exact q1
 have hmB:ops[k+1]?=some o2:=by rw [← w9];exact ho2
 have es:ops.size-k=(ops.size-(k+2))+1+1:=by omega
 rw [es,N5]
 simp only [wpOps,hmA]
 rw [if_pos (Cu hi q2)]
 refine .inl ?_
 have hd1:∀ j,o.dst=some j→j<N:=hd o (m5 q1)
 have hd2:∀ j,o2.dst=some j→j<N:=hd o2 (m5 ho2)
 have r1:=hi.ev y
 rw [h1] at r1
 have hX:=Vn r1
 have r2:=hi.ev ix
 rw [h2] at r2
 have hI:=r2.iB
 obtain ⟨hty,hs1,hD,of,cap,cur,h0,hb,hlc,hcm,hcs,hcell⟩:=hi.fE g _ hg
 have hil:=cV hix
 have hu:=kM he
 have hb1:0≤i∧i<(l.length:Int):=⟨hi0,by omega⟩
 have hrun1:(execOp a.eval o).run G.P w=.ok (.value (.pointer (some ⟨c.τ (.top g),of+i.toNat,none⟩))) w:=by
  unfold execOp
  simp only [hop,hX,h0,hI,Instr.indexAt,asIntOf,o5,o9,m6,run_underlying hu,if_pos hb1,run_sizeOf (u9.1 hinfo),hs1,Q0,add_lit]
 have hti':G.P.underlying t2=some (.int .i64):=by
  unfold OH at hti
  split at hti
  ·rename_i k' hk;injection hti with hti;subst hti;exact hk
  ·cases hti
 unfold Oper.wp
 rw [hrun1,Oper.upon_value,hdst]
 -- the second
 have inv1:Inv G.P E S0 N (mU σ (some d) .undef) (a.put (some d) (.pointer (some ⟨c.τ (.top g),of+i.toNat,none⟩))) w c:=hi.put (some d) (fun j hj=>hd1 j (hdst.trans hj)) (.free _ _ (.undef _))
 rw [show k+1=k+1 from rfl,N5]
 simp only [wpOps,hmB]
 rw [if_pos (by unfold Region.wanted;rw [hgd2])]
 refine .inl ?_
 have hev:(a.put (some d) (.pointer (some ⟨c.τ (.top g),of+i.toNat,none⟩))).eval (.tmp d)=.pointer (some ⟨c.τ (.top g),of+i.toNat,none⟩):=by
  have:=KX a d (.pointer (some ⟨c.τ (.top g),of+i.toNat,none⟩)) d (by rw [hi.size];exact hd1 d hdst)
  rw [if_pos rfl] at this
  exact this
 have hcell1:w.cell? ⟨c.τ (.top g),of+i.toNat,none⟩=some (.int .i64 x):=by
  simp [World.cell?,hb,hcell _ _ hix]
 have hrun2:(execOp (a.put (some d) (.pointer (some ⟨c.τ (.top g),of+i.toNat,none⟩))).eval o2).run G.P w=.ok (.value (.int .i64 x)) w:=by
  unfold execOp
  rw [hop2]
  simp only [hev,Instr.loadAt,Instr.sureAddr,o5,o9,m6]
  have:=Vh (P:=G.P) (w:=w) (c:=c) (agg:=false) (t:=t2) (by unfold Hm;rw [hti']) ⟨c.τ (.top g),of+i.toNat,none⟩ (cs:=[vI x]) (off:=0) (pv:=vI x) (fun _=>.int .i64 x) (fun j q hq=>by
   match j,hq with
   | 0,hq=>obtain rfl:=w7 hq;exact ⟨by simpa [Addr.add] using hcell1,.free _ _ (.lit _)⟩
   | j+1,hq=>simp at hq) rfl
  obtain ⟨u,q1,q2⟩:=this
  have hu1:=q2.iB
  subst hu1
  have q3:(loadVar t2 ⟨c.τ (.top g),of+i.toNat,none⟩).run G.P w=.ok (.int .i64 x) w:=by simpa [Addr.add] using q1
  rw [q3];rfl
 unfold Oper.wp
 rw [hrun2,Oper.upon_value,hdst2]
 have inv2:=inv1.put (some d2') (fun j hj=>hd2 j (hdst2.trans hj)) (pv:=vI x) (v:=.int .i64 x) (.free _ _ (.lit _))
 exact next E S0 N _ w c hd inv2 Q hn
end
end Go.VI
namespace Go.VI
open Go.RowKit
mutual
theorem EL {g:Nat} {u:PV}:∀ v:PV,v.has (dU g)=false→PV.frz g u v=v
 | .undef,_=>rfl
 | .lit _,_=>rfl
 | .nl,_=>rfl
 | .sl _,_=>rfl
 | .fmap _,_=>rfl
 | .vptr _ _,_=>rfl
 | .agg cs,h=>by rw [PV.has] at h;rw [PV.frz,Jv cs h]
 | .tup cs,h=>by rw [PV.has] at h;rw [PV.frz,Jv cs h]
 | .fn f cs,h=>by rw [PV.has] at h;rw [PV.frz,Jv cs h]
 | .row (.top g') e,h=>by
   have h:E4 g' g=false:=by simpa [PV.has,dU,Key.tag] using h
   simp [PV.frz,h]
 | .row (.sub g' i j) e,h=>by
   have h:E4 g' g=false:=by simpa [PV.has,dU,Key.tag] using h
   simp [PV.frz,h]
 | .part k e lo n,h=>by
   have h:E4 k.tag g=false:=by simpa [PV.has,dU] using h
   simp [PV.frz,h]
 | .rptr k e i o,h=>by
   have h:E4 k.tag g=false:=by simpa [PV.has,dU] using h
   simp [PV.frz,h]
 | .ptr g' o,h=>by
   have h:E4 g' g=false:=by simpa [PV.has,dU,Key.tag] using h
   simp [PV.frz,h]
 | .mp g',h=>by
   have h:E4 g' g=false:=by simpa [PV.has,dU,Key.tag] using h
   simp [PV.frz,h]
theorem Jv {g:Nat} {u:PV}:∀ l:List PV,PV.Ca (dU g) l=false→PV.Qz g u l=l
 | [],_=>rfl
 | c::cs,h=>by
   simp only [PV.Ca,I7] at h
   simp only [PV.Qz,EL c h.1,Jv cs h.2]
end
theorem HD {g:Nat} {u:PV} (h:HP) (g':Nat):(h.frz g u).get g'=if g'=g then none else (h.get g').map (HO.frz g u):=by
 induction h with
 | nil=>simp [HP.frz,HP.get]
 | cons x h ih =>
   obtain ⟨g0,o⟩:=x
   simp only [HP.frz]
   by_cases e:g0=g
   ·subst e
    simp only [G9,if_true,ih]
    split
    ·rfl
    ·rename_i hne;simp [HP.get,sC hne]
   ·simp only [sC e,j9,if_false,HP.get]
    by_cases e2:g'=g0
    ·subst e2;simp [e]
    ·simp only [sC e2,j9,if_false,ih]
theorem Sf {F:List Nat} {v:PV} {d:Nat} (hd:d ∈ F) (h:eK F v=true):v.has (dU d)=false:=by
 have:=p7.1 h d hd
 simpa using this
theorem Vz {F:List Nat} {d:Nat} (hd:d ∈ F):∀ {l:List PV},l.all (eK F)=true→PV.Ca (dU d) l=false
 | [],_=>rfl
 | c::cs,h=>by
   simp only [I3,o8] at h
   simp only [PV.Ca,Sf hd h.1,Vz hd h.2,Bool.or_false]
section
variable {G:Prg} {ops:Array Oper} {k:Nat} {σ:St} {K:St→Prop}
theorem VE {D:DD} {m d:Nat} {e:Nat} {es:List (List PV)} (hm:E6 m k=false) (h:eX G ops k σ=some (.new d (.row e [] es) (.row (.top d) e))) (hdd:fX ops k=some d) (hlt:H8 d PIN=true) (hF:inL [d] (D.F k)=true) (hav:avB ops k (D.av k) σ=true)
  (next:EVD G ops D m (k+1) (mU σ (fX ops k) (.sl es)) K):EVD G ops D m k σ K:=by
 obtain ⟨o,ho,hh⟩:=Fv h
 rw [tC ho] at next hdd
 rcases hh with ⟨h1,h2,h3⟩ | ⟨_,h2⟩
 case inr =>
  have:=congrArg (fun r=>r.sets.length) h2
  simp [Res.new,Res.val] at this
 have hdF:=wW hF d (by simp)
 have hs:DStep G.P ops o (D.rd k) (D.F k) σ ⟨[],[],.sl es⟩:=fun T τ l=>by
  obtain ⟨l1,l2⟩:=Fy l
  refine .inr ⟨by rw [wX l];exact h1,fun E S0 N a w c hi hcl hd next Q hn=>?_⟩
  have hp':kQ G.P G.eqn τ (o.dst.getD 0) o.type o.op=some (.new d (.row e [] es) (.row (.top d) e)):=by
   cases hsh:shallow o.op with
   | false=>rw [Xv G.P G.eqn (EM l.heap) _ _ _ l1 (l2 hsh)];exact h3
   | true=>rw [Rp G.P G.eqn _ _ _ hsh l1];exact h3
  refine Vj G.hE hi hd hp' next Q fun a' w' c' hi'=>?_
  rw [hdd] at hi' hn
  have hget:(Res.put τ (some d) (.new d (.row e [] es) (.row (.top d) e))).hget d=some (.row e [] es):=by
   simp only [Res.put,Res.new,Res.base,y8,G2,Xb,eH,if_true]
  obtain ⟨c2,hi2⟩:=hi'.freeze (g:=d) (by simpa using hlt) (.inl ⟨e,[],es,hget,rfl⟩)
  refine hn a' w' c2 (hi2.weak (fun i=>.inr ?_) fun g o' hg=>?_)
  ·rw [yT]
   have e1:((Res.put τ (some d) (.new d (.row e [] es) (.row (.top d) e))).frz d (.sl es)).get i=PV.frz d (.sl es) ((Res.put τ (some d) (.new d (.row e [] es) (.row (.top d) e))).get i):=get_map (PV.frz d (.sl es)) rfl _ _
   rw [e1]
   simp only [Res.put,Res.new,Res.base,y8,G2,Fk,n9]
   by_cases q:d=i
   ·subst q;simp [PV.frz,PV.XC]
   ·rw [if_neg q,if_neg q,CC]
    rw [(Kt (p:=dU d) (fun k hk=>by rw [gE.1 hk];exact hdF) hcl).1 i,EL _ (Sf hdF (hcl.1 i))]
  ·rw [uM] at hg
   simp only [Fz.touch,List.append_nil,H9,List.not_mem_nil,if_false] at hg
   obtain ⟨q1,q2⟩:=hcl.2 g o' hg
   have hne:g≠d:=by rintro rfl;exact q1 hdF
   show ((Res.put τ (some d) (.new d (.row e [] es) (.row (.top d) e))).h.frz d (.sl es)).get g=some o'
   rw [HD,if_neg hne]
   have e2:(Res.put τ (some d) (.new d (.row e [] es) (.row (.top d) e))).h.get g=some o':=by
    have:(Res.put τ (some d) (.new d (.row e [] es) (.row (.top d) e))).hget g=((τ.kill (dU d)).put d (.row e [] es)).hget g:=rfl
    show (Res.put τ (some d) (.new d (.row e [] es) (.row (.top d) e))).hget g=some o'
    rw [this,eH,if_neg hne,(Kt (p:=dU d) (fun k hk=>by rw [gE.1 hk];exact hdF) hcl).2 g]
    exact hg
   rw [e2]
   simp only [s8,n9]
   cases o' with
   | box cs =>
     simp only [HO.frz]
     rw [Jv cs (Vz hdF q2)]
   | _=>rfl
 refine Ii hm ho ⟨[],[],.sl es⟩ hs (Ds ho hav) rfl (by simp [show eK (D.fv k) (PV.sl es)=true from Kr rfl]) ?_
 have e:σ.act o.dst ⟨[],[],.sl es⟩=mU σ o.dst (.sl es):=by
  have:∀ h:HP,h.Eb []=h:=by
   intro h
   induction h with
   | nil=>rfl
   | cons x h ih=>obtain ⟨g,o⟩:=x;simp [HP.Eb,ih]
  simp only [St.act,this,I8]
 rw [e];exact next
end
end Go.VI
namespace Go.VI
open Go.RowKit
section
variable {P:Program} {E:Ent} {S0:Nat→Prop} {N:Nat} {σ:St} {a:Act} {w:World} {c:Ctx}
theorem FU {es:List (List PV)} {i:Nat} {q:List PV} {x y:Nat} {pv:PV} (h:dV (es.set i q) x y=some pv):(x=i∧q[y]?=some pv)∨(x≠i∧dV es x y=some pv):=by
 unfold dV at h ⊢
 by_cases e:i=x
 ·subst e
  rw [List.getElem?_set] at h
  rw [if_pos rfl] at h
  split at h
  ·exact .inl ⟨rfl,h⟩
  ·simp at h
 ·rw [K2 e] at h
  exact .inr ⟨fun q=>e q.symm,h⟩
theorem Inv.take (h:Inv P E S0 N σ a w c) {g T e e2 i:Nat} {es es':List (List PV)} (hT:T<PIN) (hne:T≠g) (hcl:Clean [T] σ) (hg:σ.hget g=some (.row e [(0,e2)] es)) (hi:es[i]?=some [.sl es']) :
  ∃ c',Inv P E S0 N ⟨σ.s,(g,.row e [(0,e2)] (es.set i [.undef]))::(T,.row e2 [] es')::σ.h⟩ a w c'∧RV P w c' (.row (.top T) e2) (c.hd (.sub g i 0)):=by
 obtain ⟨xs,r⟩:=h.fE g _ hg
 have hc0:=r.rep i 0 (.sl es') (by unfold dV;rw [hi];rfl)
 simp only [eL,Jat,G9,if_true] at hc0
 rcases hc0 with hc0 | ⟨hv,es2,xs2,hes,r2⟩
 ·cases hc0
 injection hes with hes;subst hes
 let c':Ctx:=⟨c.S,fun k=>if k=.top T then c.τ (.sub g i 0) else c.τ k,fun k=>if k=.top T then c.hd (.sub g i 0) else c.hd k,fun k=>if k=.top T then c.ty (.sub g i 0) else c.ty k,
  fun k=>if k=.top T then c.D (.sub g i 0) else k≠.sub g i 0∧k.tag≠T∧c.D k⟩
 have ctop:c'.τ (.top T)=c.τ (.sub g i 0)∧c'.hd (.top T)=c.hd (.sub g i 0)∧c'.ty (.top T)=c.ty (.sub g i 0)∧(c'.D (.top T)↔c.D (.sub g i 0)):=by simp [c']
 have off:∀ k,k.tag≠T→Agree c c' k:=fun k hk=>by
  have:k≠.top T:=by rintro rfl;exact hk rfl
  simp [Agree,c',this]
 have hDo:∀ k,k≠.top T→(c'.D k↔k≠.sub g i 0∧k.tag≠T∧c.D k):=fun k hk=>by simp [c',hk]
 have old:∀ k,c'.D k→∃ k0,c.D k0∧c'.τ k=c.τ k0∧((k=.top T∧k0=.sub g i 0)∨(k=k0∧k≠.sub g i 0)):=fun k hk=>by
  by_cases q1:k=.top T
  ·subst q1;exact ⟨_,ctop.2.2.2.1 hk,ctop.1,.inl ⟨rfl,rfl⟩⟩
  ·have:=(hDo k q1).1 hk
   exact ⟨k,this.2.2,(off k this.2.1).1,.inr ⟨rfl,this.1⟩⟩
 have hok:c'.Ok E.M w:=by
  refine ⟨h.ok.hS,fun k hk=>?_,fun k k' hk hk' he=>?_⟩
  ·obtain ⟨k0,q1,q2,_⟩:=old k hk
   rw [q2];exact h.ok.hD k0 q1
  ·obtain ⟨k0,q1,q2,q3⟩:=old k hk
   obtain ⟨k1,p1,p2,p3⟩:=old k' hk'
   have:=h.ok.inj k0 k1 q1 p1 (by rw [← q2,← p2];exact he)
   subst this
   rcases q3 with ⟨rfl,rfl⟩ | ⟨rfl,q4⟩ <;> rcases p3 with ⟨rfl,p4⟩ | ⟨rfl,p4⟩
   ·rfl
   ·exact absurd rfl p4
   ·exact absurd p4 q4
   ·rfl
 have av:∀ v:PV,eK [T] v=true→v.has (dU T)=false:=fun v hv=>Sf (by simp) hv
 have hSm:Ga c.S w w:=fun _ _=>rfl
 have hSS:∀ b,c.S b→c'.S b:=fun _ h=>h
 have hrT:oW P w c' T (.row e2 [] es'):=by
  refine ⟨xs2,r2.dO (k':=.top T) ctop.1 ctop.2.1 ctop.2.2.1 ctop.2.2.2.2 fun a b pv v _ hc=>?_⟩
  exact RF.same (fun _ _=>rfl) (fun _ h=>h) hc
 have hrg:oW P w c' g (.row e [(0,e2)] (es.set i [.undef])):=by
  have ag:=off (.top g) (show g≠T from fun q=>hne q.symm)
  have hlen1:aJ P e=1:=by have:=r.len _ (m5 hi);simpa using this.symm
  refine ⟨xs,ag.2.2.trans r.ty,r.pos,fun l hl=>?_,by rw [ag.2.1,List.length_set];exact r.own,fun b hb=>?_,fun x y pv hgE=>?_,fun x y pv hgE=>?_⟩
  ·rcases List.mem_or_eq_of_mem_set hl with q | q
   ·exact r.len l q
   ·rw [q,hlen1];rfl
  ·rw [ag.2.1] at hb
   obtain ⟨q1,q2⟩:=r.blk b hb
   exact ⟨(hDo (.top g) (by simp;exact fun q=>hne q.symm)).2 ⟨by simp,fun q=>hne q.symm,q1⟩,ag.1.trans q2⟩
  ·rcases FU hgE with ⟨rfl,q⟩ | ⟨_,q⟩
   ·obtain rfl:y=0:=by have:=cV q;simp at this;exact this
    exact r.one _ 0 (.sl es') (by unfold dV;rw [hi];rfl)
   ·exact r.one x y pv q
  ·rcases FU hgE with ⟨rfl,q⟩ | ⟨hx,q⟩
   ·obtain rfl:y=0:=by have:=cV q;simp at this;exact this
    simp only [I0,n9] at q
    subst q
    show eL P w c' g [(0,e2)] _ 0 .undef _
    unfold eL
    simp only [Jat,G9,if_true]
    exact .inl trivial
   ·have hc:=r.rep x y pv q
    unfold eL at hc ⊢
    split at hc
    ·exact hc.same (fun _ _=>rfl) fun _ h=>h
    ·rcases hc with hc | ⟨h1,es3,xs3,h2,r3⟩
     ·exact .inl hc
     have hk:(Key.sub g x y)≠.sub g i 0:=by intro q;injection q with _ q1;exact hx q1
     have ag':=off (.sub g x y) (show g≠T from fun q=>hne q.symm)
     exact .inr ⟨h1.trans ag'.2.1.symm,es3,xs3,h2,jB.dO (c:=c) (c':=c') ag'.1 ag'.2.1 ag'.2.2 (fun q=>(hDo _ (by simp)).2 ⟨hk,fun q=>hne q.symm,q⟩) (fun _ _ _ _ _ q=>q) r3⟩
 refine ⟨c',⟨h.below,hok,h.sub,h.sup,fun k=>?_,fun g' o hg'=>?_,fun k hk=>?_,h.small,h.size,h.defers⟩, ?_⟩
 ·exact (h.slots k).keep (p:=dU T) hSm hSS (fun k hk=>off k (lS.1 hk)) (av _ (hcl.1 k))
 ·have e1 : (⟨σ.s,(g,.row e [(0,e2)] (es.set i [.undef]))::(T,.row e2 [] es')::σ.h⟩:St).hget g'=HP.get ((g,.row e [(0,e2)] (es.set i [.undef]))::(T,.row e2 [] es')::σ.h) g':=rfl
  rw [e1] at hg'
  simp only [HP.get] at hg'
  split at hg'
  ·rename_i q
   obtain rfl:=t7 q
   injection hg' with hg';subst hg';exact hrg
  ·rename_i q1
   split at hg'
   ·rename_i q
    obtain rfl:=t7 q
    injection hg' with hg';subst hg';exact hrT
   ·rename_i q2
    have n1:g'≠g:=fun q=>q1 (by rw [q];exact G9 g)
    have n2:g'≠T:=fun q=>q2 (by rw [q];exact G9 T)
    have r':=h.fE g' o hg'
    have hk:∀ k:Key,k.tag=g'→dU T k=false:=fun k hk=>lS.2 (by rw [hk];exact n2)
    have hD:∀ k:Key,k.tag=g'→c.D k→w.heap[c.τ k]?=w.heap[c.τ k]?∧c'.D k:=fun k hk hDk=>by
     refine ⟨rfl,(hDo k (by rintro rfl;exact n2 hk.symm)).2 ⟨by rintro rfl;exact n1 hk.symm,by rw [hk];exact n2,hDk⟩⟩
    have:=r'.Bm (c':=c') (p:=dU T) hSm hSS (fun k hk=>off k (lS.1 hk)) hk hD
    have e2:o.kill (dU T)=o:=by
     have:=(hcl.2 g' o hg').2
     cases o with
     | box cs =>
       simp only [HO.kill]
       congr 1
       have hh:∀ l:List PV,l.all (eK [T])=true→PV.uC (dU T) l=l:=by
        intro l
        induction l with
        | nil=>intro _;rfl
        | cons x l ih=>intro hl;simp only [I3,o8] at hl;simp only [PV.uC,Co _ x (av x hl.1),ih hl.2]
       exact hh cs this
     | _=>rfl
    rwa [e2] at this
 ·obtain ⟨q1,q2,q3⟩:=h.pin k hk
  obtain ⟨p1,p2,p3⟩:=off (.top k) (show k≠T by omega)
  exact ⟨p1.trans q1,p2.trans q2,p3.trans q3⟩
 ·have:=RV.row (P:=P) (w:=w) (c:=c') (.top T) e2 (ctop.2.2.1.trans r2.ty) (by rw [ctop.2.1];exact r2.Bk)
  rwa [ctop.2.1] at this
end
section
variable {G:Prg} {ops:Array Oper} {k:Nat} {σ:St} {K:St→Prop}
theorem PT {α β:Type} {c:α→List PV} {c2:β→List PV} {D:DD} {m:Nat} {l:List α} {x:α} {l2:List β} {g T e e2 i:Nat} (hm:E6 m k=false) (h:HI G ops k σ=some (false,1,.rptr (.top g) e i 0)) (hg:σ.h.get g=some (.row e [(0,e2)] (l.map c))) (hx:l[i]?=some x) (hc:c x=[.sl (l2.map c2)])
  (hT:(H8 T PIN&&!Nat.beq T g)=true) (hF:inL [T] (D.F k)=true) (hTT:inL [g,T] (D.T k)=true) (hav:avB ops k (D.av k) σ=true)
  (hfv:(eK (D.fv k) (.row (.top T) e2)&&!((D.fv k).any fun y=>E4 y g)&&!((D.fv k).any fun y=>E4 y T))=true)
  (next:EVD G ops D m (k+1) (mU ⟨σ.s,(g,.row e [(0,e2)] ((l.map c).set i [.undef]))::(T,.row e2 [] (l2.map c2))::σ.h⟩ (fX ops k) (.row (.top T) e2)) K):EVD G ops D m k σ K:=by
 simp only [o8,F2] at hT hfv
 have hne:T≠g:=fun q=>by rw [q,G9] at hT;cases hT.2
 unfold HI at h
 split at h
 case h_2=>cases h
 rename_i o ho
 split at h
 case h_2=>cases h
 rename_i t ad hop
 split at h
 case h_2=>cases h
 rename_i ag he
 simp only [n9,t8] at h
 obtain ⟨rfl,h1,hp⟩:=h
 obtain ⟨q1,q2⟩:=fH ho
 rw [tC q1] at next
 have hs:DStep G.P ops o (D.rd k) (D.F k) σ ⟨[],[(g,.row e [(0,e2)] ((l.map c).set i [.undef])),(T,.row e2 [] (l2.map c2))],.row (.top T) e2⟩:=fun TT τ lc=>by
  obtain ⟨h1',h2'⟩:=Fy lc
  have h2':=h2' (by rw [hop];rfl)
  have ma:(ad:Operand) ∈ o.op.operands.toList:=by rw [hop];simp [Op.operands]
  have hgT:g ∉ TT:=fun hm=>by
   have:=p7.1 (h2' _ ma) g hm
   rw [hp] at this
   simp [PV.has,dU,Key.tag] at this
  have hgτ:τ.hget g=some (.row e [(0,e2)] (l.map c)):=(lc.heap g hgT).symm.trans hg
  refine .inr ⟨by rw [wX lc];exact q2,fun E S0 N a w cx hi' hcl hdd next Q hn=>?_⟩
  have hcl2:Clean [T] τ:=by
   have hgF:=wW hF T (by simp)
   have sub:∀ v:PV,eK (D.F k) v=true→eK [T] v=true:=fun v hv=>by
    have:=p7.1 hv T hgF
    simp [eK] at this ⊢
    exact this
   refine ⟨fun i=>sub _ (hcl.1 i),fun g' o' hg'=>?_⟩
   obtain ⟨p1,p2⟩:=hcl.2 g' o' hg'
   refine ⟨fun hm=>p1 (by simp at hm;subst hm;exact hgF), ?_⟩
   cases o' with
   | box cs =>
     simp only [HO.Cd] at p2 ⊢
     exact p7.2 fun v hv=>sub v (p7.1 p2 v hv)
   | _=>rfl
  have hel:(l.map c)[i]?=some [.sl (l2.map c2)]:=by rw [p8,hx];simp [hc]
  obtain ⟨c',hinv,hrv⟩:=hi'.take (by simpa using hT.1) hne hcl2 hgτ hel
  -- what is loaded
  have ra:=hi'.ev ad
  rw [h1' _ ma,hp] at ra
  have hload:Gu false (aJ G.P t) τ.h (.rptr (.top g) e i 0)=some (.row (.sub g i 0) e2):=by
   have hr:τ.h.rowAt (.top g)=some (l.map c):=by simp only [HP.rowAt];rw [show τ.h.get g=some (.row e [(0,e2)] (l.map c)) from hgτ]
   have hJ:τ.h.Ft (.top g)=[(0,e2)]:=by simp only [HP.Ft];rw [show τ.h.get g=some (.row e [(0,e2)] (l.map c)) from hgτ]
   simp only [Gu,HP.elem,hr,hJ,hel,s8,j9,if_false]
   rfl
  obtain ⟨u,r1,r2⟩:=Xz he hi' ra hload
  have hu:u=cx.hd (.sub g i 0):=by
   cases r2 with
   | free _ _ hf=>cases hf
   | row=>rfl
  subst hu
  have hrun:(execOp a.eval o).run G.P w=.ok (.value (cx.hd (.sub g i 0))) w:=by
   unfold execOp
   rw [hop]
   simp only [o5,r1,m6,o9]
  unfold Oper.wp
  rw [hrun,Oper.upon_value]
  refine hn _ _ c' ?_
  have e0:τ.act o.dst ⟨[],[(g,.row e [(0,e2)] ((l.map c).set i [.undef])),(T,.row e2 [] (l2.map c2))],.row (.top T) e2⟩=mU ⟨τ.s,(g,.row e [(0,e2)] ((l.map c).set i [.undef]))::(T,.row e2 [] (l2.map c2))::τ.h⟩ o.dst (.row (.top T) e2):=by
   have:∀ h:HP,h.Eb []=h:=by
    intro h
    induction h with
    | nil=>rfl
    | cons x h ih=>obtain ⟨g,o⟩:=x;simp [HP.Eb,ih]
   simp only [St.act,this,K8,I8]
  rw [e0]
  exact hinv.put o.dst hdd hrv
 refine Ii hm q1 _ hs (Ds q1 hav) hTT (by
  simp only [I3,P7,O8,o8,F2]
  exact ⟨hfv.1.1,⟨hfv.1.2,rfl⟩,⟨hfv.2,rfl⟩⟩) ?_
 have e:σ.act o.dst ⟨[],[(g,.row e [(0,e2)] ((l.map c).set i [.undef])),(T,.row e2 [] (l2.map c2))],.row (.top T) e2⟩=mU ⟨σ.s,(g,.row e [(0,e2)] ((l.map c).set i [.undef]))::(T,.row e2 [] (l2.map c2))::σ.h⟩ o.dst (.row (.top T) e2):=by
  have:∀ h:HP,h.Eb []=h:=by
   intro h
   induction h with
   | nil=>rfl
   | cons x h ih=>obtain ⟨g,o⟩:=x;simp [HP.Eb,ih]
  simp only [St.act,this,K8,I8]
 rw [e];exact next
theorem WU {α:Type} {c:α→List PV} {l:List α} {x:α} {g e e2 j sz:Nat} {i:Int} {kd:IntKind} (h:Ly G ops k σ=some (.row (.top g) e,.lit (.int kd i),sz)) (hg:σ.h.get g=some (.row e [(0,e2)] ((l.map c).set j [.undef]))) (hx:idx l i=some x) (hs:∀ y,(c y).length=sz) (h1:sz=1):eX G ops k σ=some (.val (.rptr (.top g) e i.toNat 0)):=by
 obtain ⟨hi0,hix⟩:=Mp hx
 refine Lc h (Bt hi0) ?_
 have hr:σ.h.rowAt (.top g)=some ((l.map c).set j [.undef]):=by simp only [HP.rowAt];rw [hg]
 have hlt:=cV hix
 have hel:∃ q,((l.map c).set j [.undef])[i.toNat]?=some q∧q.length=sz:=by
  by_cases q:j=i.toNat
  ·subst q
   refine ⟨[.undef],by simp [hlt],by rw [h1];rfl⟩
  ·refine ⟨c x,by rw [K2 q,p8,hix];rfl,hs x⟩
 obtain ⟨q,p1,p2⟩:=hel
 simp only [nO,hr,p1,p2,if_true]
theorem OZ {α β:Type} {c:α→List PV} {c2:β→List PV} {g d e e' i:Nat} {l:List α} {x x':α} {l2:List β} (h:A5 G ops k σ=some (.rptr (.top g) e i 0,.row (.top d) e')) (hg:σ.h.get g=some (.row e [(0,e')] ((l.map c).set i [.undef]))) (hgd:σ.h.get d=some (.row e' [] (l2.map c2)))
  (hc:(H8 d PIN&&!Nat.beq d g&&H8 0 (aJ G.P e))=true) (hx:l[i]?=some x) (hs:c x'=[.sl (l2.map c2)]) :
  uE G ops k σ ⟨[Rj d g],[(g,.row e [(0,e')] ((l.set i x').map c))],.lit undef⟩:=by
 simp only [o8,F2] at hc
 unfold A5 at h
 split at h
 case h_2=>cases h
 rename_i o ho
 split at h
 case h_2=>cases h
 rename_i t a' y hop
 split at h
 case h_2=>cases h
 rename_i he
 split at h
 case isFalse=>cases h
 rename_i h1
 simp only [n9,t8] at h
 obtain ⟨ha',hy⟩:=h
 obtain ⟨q1,q2⟩:=fH ho
 refine ⟨o,q1,q2,fun hi hdd=>?_⟩
 have hlt:=cV hx
 have:=VY hop he (t7 h1) (.inr trivial) (by simpa using hc.1.1) (fun q=>by rw [q,G9] at hc;cases hc.1.2) ha' hy hg hgd (by simpa using hlt) (by simpa using hc.2) rfl hi hdd
 have e1:setRow ((l.map c).set i [.undef]) i 0 [.sl (l2.map c2)]=(l.set i x').map c:=by
  refine G0 fun n=>?_
  unfold setRow
  rw [List.getElem?_modify,p8]
  by_cases q:i=n
  ·subst q
   simp [hlt,setAt,hs]
  ·rw [K2 q,K2 q]
   simp [q]
 rwa [e1] at this
theorem Iq {R:TL} {h:HP} {n:Nat} {p q:PV} {ps qs:List PV} (h1:PV.tW R h n p=q) (h2:PV.qD R h n ps=qs):PV.qD R h (n+1) (p::ps)=q::qs:=by
 rw [PV.qD,h1,h2]
theorem UD {α β:Type} {c:α→List PV} {c2:β→List PV} {h:HP} {g i e e2 n:Nat} {l:List α} {x:α} {l2:List β} (hg:h.get g=some (.row e [(0,e2)] (l.map c))) (hx:l[i]?=some x) (hc:c x=[.sl (l2.map c2)]):PV.tW [] h (n+1) (.row (.sub g i 0) e2)=.sl (l2.map c2):=by
 have hr:h.rowAt (.sub g i 0)=some (l2.map c2):=by
  simp only [HP.rowAt]
  rw [hg]
  simp only [Jat,G9,if_true,O4,p8,hx,s8,hc,I0]
 rw [PV.tW]
 simp only [Key.tag,TL.inn]
 rw [PV.view]
 simp only [PV.elems,hr]
theorem MG {D:DD} {m:Nat} {Q:St→Prop} (N:TL) (vis:List Nat) {f:Nat} {args qs:List PV} {r:PV} {H1:HP} (hm:E6 m k=false) (hc:Wb ops k σ=some (f,args)) (hq:PV.qD [] (σ.h.only vis) DEEP args=qs) (pc:PC G.P f qs [] r H1) (ht:Qp N vis (D.F k) (D.rd k)=true)
  (ind:vis=[]∨(r.ind=true∧∀ g o,H1.get g=some o→o.ind)) (hav:avB ops k (D.av k) σ=true)
  (hT:(inL ((H1.ren N).map (·.1)) (D.T k)&&eK (D.fv k) (r.ren N)&&(H1.ren N).all fun x=>!((D.fv k).any fun y=>E4 y x.1)&&x.2.Cd (D.fv k))=true)
  (next:EVD G ops D m (k+1) (mU ⟨σ.s,H1.ren N++σ.h⟩ (fX ops k) (r.ren N)) Q):EVD G ops D m k σ Q:=by
 obtain ⟨o,h1,h2,h3⟩:=Hv hc
 simp only [Qp,o8] at ht
 obtain ⟨⟨⟨t1,t2⟩,t3⟩,t4⟩:=ht
 simp only [o8] at hT
 exact ED hm h1 h2 h3 pc t1 t2 t3 t4 hq ind hav hT.1.1 (by rw [o8];exact ⟨hT.1.2,hT.2⟩) next
end
end Go.VI
namespace Go.VI
open Go.ChangeShapes Go.WideShapes Go.ChangeAt Go.RowKit
structure XZ (b:{H:Type}→DataW H→Nat):Prop where
 sl:∀ {H:Type} (l r:List (DataW H)),l.length≤b (.slice l r)∧∀ d ∈ l,b d≤b (.slice l r)
 ag:∀ {H:Type} (l:List (DataW H)),∀ d ∈ l,b d≤b (.agg l)
def RLN {α:Type} (N:Nat) (R:α→Prop) (l:List α):Prop:=l.length≤N∧∀ x ∈ l,R x
def RdN {α:Type} (b:{H:Type}→DataW H→Nat) (N:Nat) (P:Program) (t:TypeId) (c:α→List PV) (R:α→Prop):Prop:=
 ∀ {H:Type} {enc:TypeId×Value→H} {W:World} {sp:Nat→Bool} {fuel:Nat} {cs:List Value} {x:DataW H×List MemPlace},DataW.trod enc P W 0 sp true fuel t cs=some x→b x.1≤N→∃ a:α,R a∧RFl W (fun b=>b<W.heap.size) (c a) cs
section
variable {P:Program} {t:TypeId} {b:{H:Type}→DataW H→Nat} {N:Nat}
theorem IB {α:Type} {c:α→List PV} {R:α→Prop} (h:Rd P t c R):RdN b N P t c R:=fun hx _=>h hx
theorem dF {fs:Array Field} (hB:XZ b) (hu:P.underlying t=some (.struct fs)) {H:Type} {enc:TypeId×Value→H} {W:World} {sp:Nat→Bool} {fuel:Nat} {cs:List Value} {x:DataW H×List MemPlace} (h:DataW.trod enc P W 0 sp true fuel t cs=some x) (hN:b x.1≤N)
  (i ty off n:Nat) (hi:(fs.toList[i]?).map (fun f=>(f.type,f.offset,P.cellsOf f.type))=some (ty,off,n)):∃ fu y,DataW.trod enc P W 0 sp true fu ty ((cs.drop off).take n)=some y∧b y.1≤N:=by
 obtain ⟨f,h1,h2⟩:=s6.1 hi
 simp only [t8] at h2
 obtain ⟨rfl,rfl,rfl⟩:=h2
 cases fuel with
 | zero=>simp [DataW.trod] at h
 | succ fuel =>
   unfold DataW.trod at h
   rw [hu] at h
   split at h <;> first | (rename_i he;simp at he;done) | skip
   ·rename_i fs' he
    simp only [n9,TypeDesc.struct.injEq] at he
    subst he
    split at h
    case isFalse=>cases h
    obtain ⟨ys,hm,rfl⟩:=s6.1 h
    have:=(mapM_some hm).2 i
    rw [h1] at this
    simp only [i9] at this
    have hlt:i<ys.length:=by rw [(mapM_some hm).1];exact (m9.1 h1).1
    rw [l8 hlt] at this
    exact ⟨fuel,_,this,J1 (hB.ag _ _ (K9 (F9 hlt))) hN⟩
   ·exact (‹∀ fs_1:Array Field,some (TypeDesc.struct fs)=some (TypeDesc.struct fs_1)→False› fs rfl).elim
theorem Ny {α:Type} {e:TypeId} {c:α→List PV} {R:α→Prop} (hB:XZ b) (hu:P.underlying t=some (.slice e)) (he:RdN b N P e c R) (hs:∀ x,(c x).length=P.cellsOf e) (h0:0<P.cellsOf e):RdN b N P t (cS c) (RLN N R):=by
 intro H enc W sp fuel cs x h hN
 cases fuel with
 | zero=>simp [DataW.trod] at h
 | succ fuel =>
   unfold DataW.trod at h
   rw [hu] at h
   split at h <;> first | (rename_i he;simp at he;done) | skip
   ·exact ⟨[],⟨M0 _,by simp⟩,Rm (RF.Tj W _) rfl⟩
   ·rename_i e' a len cap hh
    simp only [n9,TypeDesc.slice.injEq] at hh
    subst hh
    simp only at h
    split at h
    case isFalse=>cases h
    rename_i hc
    simp only [Q6] at h
    obtain ⟨elems,hm,hx⟩:=h
    obtain ⟨rest,_,rfl⟩:=s6.1 hx
    obtain ⟨hB1,hB2⟩:=hB.sl (elems.map (·.1)) (rest.map (·.1))
    obtain ⟨m1,m2⟩:=mapM_some hm
    obtain ⟨l,hl,hr⟩:=KZ (c:=c) (R:=R) (a:=a) (W:=W) (size:=P.cellsOf e) len fun i hi=>by
     have:=m2 i
     rw [G8 hi] at this
     have hlt:i<elems.length:=by rw [m1];simpa using hi
     rw [l8 hlt] at this
     simp only [i9,Q6] at this
     obtain ⟨cs,h1,h2⟩:=this
     obtain ⟨y,hR,hy⟩:=he h2 (J1 (hB2 _ (K9 (F9 hlt))) hN)
     exact ⟨y,cs,hR,h1,hy⟩
    refine ⟨l,⟨?_,fun y hy=>?_⟩,Rm ?_ rfl⟩
    ·rw [p9,m1,List.length_range] at hB1;simp only at hN;omega
    ·obtain ⟨i,hi⟩:=u6.1 hy
     obtain ⟨_,hR,_⟩:=hr i y hi
     exact hR
    have hg:∀ i j pv,dV (l.map c) i j=some pv→∃ x cs,l[i]?=some x∧W.cells? 0 (a.add (i*P.cellsOf e)) (P.cellsOf e)=some cs∧RFl W (fun b=>b<W.heap.size) (c x) cs∧(c x)[j]?=some pv:=by
     intro i j pv h
     unfold dV at h
     rw [p8] at h
     cases hi:l[i]? with
     | none=>rw [hi] at h;simp at h
     | some x =>
       rw [hi] at h
       obtain ⟨cs,_,q1,q2⟩:=hr i x hi
       exact ⟨x,cs,rfl,q1,q2,by simpa using h⟩
    have key:∀ i j pv,dV (l.map c) i j=some pv→W.cell? (a.add (i*P.cellsOf e+j))=some ((((W.cells? 0 (a.add (i*P.cellsOf e)) (P.cellsOf e)).getD []).getD j undef))∧RF W (fun b=>b<W.heap.size) pv (((W.cells? 0 (a.add (i*P.cellsOf e)) (P.cellsOf e)).getD []).getD j undef)∧(((W.cells? 0 (a.add (i*P.cellsOf e)) (P.cellsOf e)).getD []).getD j undef).oneCell'=true:=by
     intro i j pv h
     obtain ⟨x,cs,q1,q2,q3,q4⟩:=hg i j pv h
     obtain ⟨s1,s2⟩:=DP q2
     have hj:j<P.cellsOf e:=by rw [← hs x];exact (m9.1 q4).1
     rw [q2]
     simp only [H2]
     refine ⟨?_,q3.2 j pv q4⟩
     rw [← add_add,s2 j hj,m8,l8 (by omega)]
     rfl
    refine .sl (l.map c) (P.cellsOf e) (some a) len cap (fun i j=>(((W.cells? 0 (a.add (i*P.cellsOf e)) (P.cellsOf e)).getD []).getD j undef)) (by simp [hl]) (fun r hr=>?_) h0 hc.2.1 (fun hne=>⟨a,rfl, ?_⟩) (fun ad had i j pv h=>?_) (fun i j pv h=>(key i j pv h).2.2) (fun i j pv h=>(key i j pv h).2.1)
    ·obtain ⟨y,_,rfl⟩:=E3.1 hr;exact hs y
    ·have:0<l.length:=by
      cases l with
      | nil=>simp at hne
      | cons y l=>simp
     have hx:=key 0 0 ((c l[0]).getD 0 .undef) (by
      unfold dV
      rw [p8,l8 this]
      simp only [s8,i9]
      rw [m8,l8 (by rw [hs];exact h0)]
      rfl)
     have:=World.block_lt_of_cell? W _ hx.1
     rwa [Jh] at this
    ·injection had with had;subst had;exact (key i j pv h).1
   ·cases h
section
variable {H:Type} {enc:TypeId×Value→H} {W:World} {base:Nat} {sp:Nat→Bool} {v:Value} {d:DataW H} {ps:List MemPlace} {α:Type} {c:α→List PV} {R:α→Prop}
theorem DI {fs:Array Field} (hu:P.underlying t=some (.struct fs)) (hr:RdN b N P t c R) (hv:Value.okWide P W .any base t v) (h:DataW.Trod enc P W 0 sp true t v d ps) (hd:b d≤N):∃ a,R a∧RF W (fun b=>b<W.heap.size) (.agg (c a)) v:=by
 unfold Value.okWide at hv
 rw [hu] at hv
 obtain ⟨cs,rfl,_⟩:=hv
 obtain ⟨fuel,hf⟩:=h
 obtain ⟨a,hR,h1,h2⟩:=hr hf hd
 simp only [Value.cells] at h1 h2
 refine ⟨a,hR,.agg _ cs (by simpa using h1.symm) fun i pv hg=>?_⟩
 have:=(h2 i pv hg).1
 simpa [o7,m8] using this
theorem OW (hn:∀ cs,v≠.agg cs) (hr:RdN b N P t c R) (g:α→PV) (hg:∀ a,c a=[g a]) (h:DataW.Trod enc P W 0 sp true t v d ps) (hd:b d≤N):∃ a,R a∧RF W (fun b=>b<W.heap.size) (g a) v:=by
 obtain ⟨fuel,hf⟩:=h
 obtain ⟨a,hR,h1,h2⟩:=hr hf hd
 have hc:v.cells.toList=[v]:=by cases v <;> first | rfl | exact absurd rfl (hn _)
 rw [hc,hg] at h2
 refine ⟨a,hR, ?_⟩
 have:=(h2 0 (g a) rfl).1
 simpa using this
end
theorem DT {H:Type} {enc:TypeId×Value→H} {a:Assume} {C:Checked} {os:Os} {f:FuncId} {fn:Func} {s:OpenSpec} {k:(H:Type)→List (DataW H)→Bool} (hk:s.cond=some k) {F:Stop.Interp} {conds:List PathCond} {apart fresh handsOn again:Bool}
  (own:ownKnob C.prog.godebug=none) (started:os.Started) (noInit:C.prog.inits.idxOf? f=none) (hfn:C.prog.funcs[f]?=some fn)
  (witness:∃ (w:World) (tape:Tape) (i:Input),w.os=os∧(w.forCall tape i).Shaped C.prog∧i.vars=[]∧Input.okWide C.prog (w.forCall tape i) .any w.heap.size f i ∧
   s.pre6 enc C.prog fn conds apart (w.forCall tape i).memory i.args∧a.holds C.prog (lone (Frame.enter C.prog f i.args .normal) [] (w.forCall tape i)))
  (contract:∀ (W:World) (base:Nat) (args:Array Value) (ds gs:List (DataW H)) (before:List MemPlace),
   (∀ (j:Nat) t v,fn.params[j]?=some t→args[j]?=some v→Value.okWide C.prog W .any base t v) →
   DataW.Whole enc C.prog fn.params.toList s.vars apart W args.toList ds gs before→k H (ds++gs)=true→W.ShapedOpen C.prog →
   Calls C.prog f args W fun e W'=>∃ v,e=.returned v∧(s.at F).post enc C.prog fn apart fresh handsOn again W args v W') :
  ReturnsInHanded a C os f .any (s.pre6 enc C.prog fn conds apart) ((s.at F).post enc C.prog fn apart fresh handsOn again):=by
 refine returnsInHanded_of_calls own started noInit witness ?_
 intro w tape i _ hsh _ hok hpre hholds
 obtain ⟨_,_,_,fn',hfn',_,_,_,_,hval⟩:=hok
 have e:fn'=fn:=w7 (hfn'.symm.trans hfn)
 subst e
 obtain ⟨ds,gs,before,hw,_,hkk⟩:=(OpenSpec.pre_some hk conds apart _ _).1 hpre.1
 refine (contract (w.forCall tape i) w.heap.size i.args ds gs before hval (DataW.Whole.of_heap (w':=w.forCall tape i) (by rfl) hw) hkk hsh).mono fun e W' ⟨v,he,hp⟩=>?_
 subst he
 exact ChangeSpec.post_blind hp
end
end Go.VI
namespace Go.VI
def sel (ks gs:List Nat) (σ:St):St:=⟨ks.map fun k=>(k,σ.get k),gs.filterMap fun g=>(σ.hget g).map fun o=>(g,o)⟩
theorem CU {σ:St}:∀ (ks:List Nat) (i:Nat),SL.get (ks.map fun k=>(k,σ.get k)) i=.undef∨SL.get (ks.map fun k=>(k,σ.get k)) i=σ.get i
 | [],i=>.inl rfl
 | k::ks,i=>by
   simp only [E1,SL.get]
   split
   ·rename_i h
    subst h
    exact .inr rfl
   ·exact CU ks i
theorem Rs {σ:St}:∀ (gs:List Nat) (g:Nat) (o:HO),HP.get (gs.filterMap fun g=>(σ.hget g).map fun o=>(g,o)) g=some o→σ.hget g=some o
 | [],g,o,h=>by cases h
 | a::gs,g,o,h=>by
   simp only [List.filterMap_cons] at h
   cases e:σ.hget a with
   | none=>rw [e] at h;exact Rs gs g o h
   | some o' =>
     rw [e] at h
     simp only [s8,HP.get] at h
     split at h
     ·rename_i hb
      have hb':=t7 hb
      subst hb'
      rw [e];exact h
     ·exact Rs gs g o h
theorem LD (ks gs:List Nat) (σ:St):Sub (sel ks gs σ) σ:=⟨fun i=>CU ks i,fun g o hg=>Rs gs g o hg⟩
section
variable {G:Prg} {P:Program} {cd b:Code} {σ:St} {K:PX→St→Prop}
theorem ZI (ks gs:List Nat) (X:St):gG P (sel ks gs X) X:=FZ (LD ks gs X)
theorem y1 {ops:Array Oper} {k:Nat} (n:Nat) (ks gs:List Nat) (next:SEM G b (sel ks gs (Uu G ops k n σ)) K) (h:(E6 ops.size (k+n),(runK G ops k n σ).isSome)=(true,true):=by kernel_rfl):EVS G ops k σ (Kl G b K .normal):=by
 injection h with h1 h2
 exact Vc n h2 (Qq h1 fun τ hτ=>Hj hτ _ (ZI ks gs _) next)
theorem y2 (n:Nat) (ks gs:List Nat) (next:SEM G b (sel ks gs (Uu G (vM cd) 0 n σ)) K) (h:(knd cd,E6 (vM cd).size (0+n),(runK G (vM cd) 0 n σ).isSome)=(1,true,true):=by kernel_rfl):SEM G cd σ (Kl G b K):=by
 injection h with h1 h2
 exact Cv h1 (y1 n ks gs next h2)
theorem y3 (n:Nat) (ks gs:List Nat) (next:SEM G (cR cd) (sel ks gs (Uu G (vM (cL cd)) 0 n σ)) K) (h:(knd cd,knd (cL cd),E6 (vM (cL cd)).size (0+n),(runK G (vM (cL cd)) 0 n σ).isSome)=(3,1,true,true):=by kernel_rfl):SEM G cd σ K:=by
 injection h with h1 h2
 exact Ob h1 (y2 n ks gs next h2)
theorem y4 (ks gs:List Nat) (next:SEM G b (sel ks gs σ) K) (h:knd cd=0:=by kernel_rfl):SEM G cd σ (Kl G b K):=Th h fun τ hτ=>Hj hτ _ (ZI ks gs _) next
theorem yE {X τ:St} (hτ:gG G.P X τ) (ks gs:List Nat) (next:SEM G b (sel ks gs X) K):Kl G b K .normal τ:=Hj hτ _ (ZI ks gs _) next
theorem yK (ks gs:List Nat) (s:SEM G cd (sel ks gs σ) K):SEM G cd σ K:=WR (LD ks gs σ) s
end
end Go.VI
namespace Go.VI
open Go.RowKit
section
variable {P:Program} {E:Ent} {S0:Nat→Prop} {N:Nat} {σ:St} {a:Act} {w:World} {c:Ctx}
theorem LY {o:Oper} {t e e' d:Nat} {x:Operand} {es':List (List PV)} (ho:o.op=.buildSlice t 1 #[(0,x)]) (ht:kL P t=some e) (hrow:Hf P e=true) (h1:aJ P e=1) (hd1:d<PIN)
  (hx:pev σ x=.row (.top d) e') (hrd:σ.hget d=some (.row e' [] es')) (h:Inv P E S0 N σ a w c):OP P E o a w c d e (.row e [(0,e')] [[.sl es']]):=by
 have rx:=h.ev x
 rw [hx] at rx
 have hX:a.eval x=c.hd (.top d):=by
  generalize a.eval x=X at rx
  cases rx with
  | free _ _ hf=>cases hf
  | row=>rfl
 obtain ⟨xsd,rd⟩:=h.fE d _ hrd
 have hone:=rd.Bk
 have hcell1:(c.hd (.top d)).cells=#[c.hd (.top d)]:=Ks hone
 have hrun:=Gx (P:=P) (a:=a) (w:=w) (parts:=#[(0,x)]) (len:=1) ht rfl (by omega) (by omega) hrow (fun p hp=>by simp at hp;subst hp;simp only;rw [hX,hcell1,h1];rfl)
 have hcells:(List.flatMap (fun (p:Nat×Operand)=>(a.eval p.2).cells.toList) #[(0,x)].toList)=[c.hd (.top d)]:=by simp [hX,hcell1]
 rw [hcells] at hrun
 have hexec:(execOp a.eval o).run P w=.ok (.value (.slice (some ⟨w.heap.size,0,none⟩) 1 1)) (w.alloc (.cells #[c.hd (.top d)] e)):=by
  unfold execOp
  simp only [ho,o5,hrun,m6,o9]
 have hb:Below w.heap.size w (w.alloc (.cells #[c.hd (.top d)] e)):=(Below.refl _ _).alloc (v7 _) _
 have hnew:(w.alloc (.cells #[c.hd (.top d)] e)).heap[w.heap.size]?=some (.cells #[c.hd (.top d)] e (0,0)):=heap_alloc_new w _
 generalize hw':w.alloc (.cells #[c.hd (.top d)] e)=w' at hexec hb hnew
 have hbn:w.heap.size<w'.heap.size:=by rw [← hw'];simp
 let c':Ctx:=⟨c.S,fun k=>if k=.top d then w.heap.size else if k=.sub d 0 0 then c.τ (.top d) else c.τ k,fun k=>if k=.top d then .slice (some ⟨w.heap.size,0,none⟩) 1 1 else if k=.sub d 0 0 then c.hd (.top d) else c.hd k,
  fun k=>if k=.top d then e else if k=.sub d 0 0 then c.ty (.top d) else c.ty k,fun k=>if k=.top d then True else if k=.sub d 0 0 then c.D (.top d) else k.tag≠d∧c.D k⟩
 have ctop:c'.τ (.top d)=w.heap.size∧c'.hd (.top d)=.slice (some ⟨w.heap.size,0,none⟩) 1 1∧c'.ty (.top d)=e∧c'.D (.top d):=by simp [c']
 have csub:c'.τ (.sub d 0 0)=c.τ (.top d)∧c'.hd (.sub d 0 0)=c.hd (.top d)∧c'.ty (.sub d 0 0)=c.ty (.top d)∧(c'.D (.sub d 0 0)↔c.D (.top d)):=by simp [c']
 have hag:∀ k,k.tag≠d→Agree c c' k:=fun k hk=>by
  have q1:k≠.top d:=by rintro rfl;exact hk rfl
  have q2:k≠.sub d 0 0:=by rintro rfl;exact hk rfl
  simp [Agree,c',q1,q2]
 have hDo:∀ k,k≠.top d→k≠.sub d 0 0→(c'.D k↔k.tag≠d∧c.D k):=fun k q1 q2=>by simp [c',q1,q2]
 -- what a key in use means
 have old:∀ k,c'.D k→k=.top d∨∃ k0,c.D k0∧c'.τ k=c.τ k0∧((k=.sub d 0 0∧k0=.top d)∨(k=k0∧k.tag≠d)):=fun k hk=>by
  by_cases q1:k=.top d
  ·exact .inl q1
  ·by_cases q2:k=.sub d 0 0
   ·subst q2;exact .inr ⟨.top d,csub.2.2.2.1 hk,csub.1,.inl ⟨rfl,rfl⟩⟩
   ·have:=(hDo k q1 q2).1 hk
    exact .inr ⟨k,this.2,(hag k this.1).1,.inr ⟨rfl,this.1⟩⟩
 have hok:c'.Ok E.M w':=by
  refine ⟨fun b hb'=>D8 (h.ok.hS b hb') hb.size,fun k hk=>?_,fun k k' hk hk' he=>?_⟩
  ·rcases old k hk with rfl | ⟨k0,q1,q2,_⟩
   ·rw [ctop.1];exact ⟨h.below.mine (v7 _),hbn,fun hS=>by have:=h.ok.hS _ hS;omega⟩
   ·rw [q2];exact ⟨(h.ok.hD _ q1).1,D8 (h.ok.hD _ q1).2.1 hb.size,(h.ok.hD _ q1).2.2⟩
  ·rcases old k hk with rfl | ⟨k0,q1,q2,q3⟩ <;> rcases old k' hk' with rfl | ⟨k1,p1,p2,p3⟩
   ·rfl
   ·rw [ctop.1,p2] at he;have:=(h.ok.hD _ p1).2.1;omega
   ·rw [ctop.1,q2] at he;have:=(h.ok.hD _ q1).2.1;omega
   ·rw [q2,p2] at he
    have e0:=h.ok.inj _ _ q1 p1 he
    rcases q3 with ⟨r1,r2⟩ | ⟨r1,r2⟩ <;> rcases p3 with ⟨s1,s2⟩ | ⟨s1,s2⟩
    ·rw [r1,s1]
    ·exact absurd (by rw [s1,← e0,r2];rfl) s2
    ·exact absurd (by rw [r1,e0,s2];rfl) r2
    ·rw [r1,s1,e0]
 have hSm:Ga c.S w w':=fun b hS=>hb.block b (h.ok.hS b hS)
 have hrep:oW P w' c' d (.row e [(0,e')] [[.sl es']]):=by
  refine ⟨[c.hd (.top d)],ctop.2.2.1,by omega,by simp [h1], ?_,fun b hb'=>?_,fun i j pv hg=>?_,fun i j pv hg=>?_⟩
  ·rw [ctop.2.1]
   refine ⟨by simp [h1],.inr ⟨w.heap.size,1,#[c.hd (.top d)],rfl,M0 _,hnew,v7 _,by unfold maxLen;omega,by simp [h1],by simp [h1]⟩⟩
  ·rw [ctop.2.1] at hb'
   simp [Value.ownBlock] at hb';subst hb'
   exact ⟨ctop.2.2.2,ctop.1⟩
  all_goals
   have hij:i=0∧j=0:=by
    have:=jQ (k:=1) (by simp) hg
    simp at this;omega
   obtain ⟨rfl,rfl⟩:=hij
   simp [dV] at hg
   subst hg
  ·simpa [h1] using hone
  ·simp only [Nat.zero_mul,K3,List.getD_cons_zero]
   show eL P w' c' d [(0,e')] 0 0 (.sl es') (c.hd (.top d))
   unfold eL
   simp only [Jat,G9,if_true]
   refine .inr ⟨csub.2.1.symm,es',xsd,rfl, ?_⟩
   have k1:jB P w' c (.top d) e' es' (fun _ _ pv v=>RF w' c.S pv v) xsd:=jB.keep (c:=c) (c':=c) (Agree.refl c _) (fun q=>⟨hb.block _ (h.ok.hD _ q).2.1,q⟩) (fun _ _ _ _ q=>RF.same hSm (fun _ h=>h) q) rd
   exact jB.dO (c:=c) (c':=c') csub.1 csub.2.1 csub.2.2.1 csub.2.2.2.2 (fun _ _ _ _ _ q=>q) k1
 have hrv:RV P w' c' (.row (.top d) e) (.slice (some ⟨w.heap.size,0,none⟩) 1 1):=by
  obtain ⟨xs',r'⟩:=hrep
  have:=RV.row (P:=P) (w:=w') (c:=c') (.top d) e r'.ty r'.Bk
  rwa [ctop.2.1] at this
 exact ⟨_,w',c',hexec,h.below.below hb,hok,hSm,fun _=>Iff.rfl,hag,fun k hDk hx=>⟨hb.block _ (h.ok.hD k hDk).2.1,(hDo k (by rintro rfl;exact hx rfl) (by rintro rfl;exact hx rfl)).2 ⟨hx,hDk⟩⟩,hrep,hrv⟩
end
section
variable {G:Prg} {ops:Array Oper} {k:Nat} {σ:St} {K:St→Prop}
theorem GW {α β:Type} {c:α→List PV} {c2:β→List PV} {D:DD} {m:Nat} {e e' d T:Nat} {l:List β} {x:α} (hm:E6 m k=false) (h:PB G ops k σ=some (e,.row (.top d) e',T)) (hg:σ.h.get d=some (.row e' [] (l.map c2))) (hd:(H8 d PIN&&H8 T PIN&&!Nat.beq T d)=true) (hx:c x=[.sl (l.map c2)])
  (hF:inL [T] (D.F k)=true) (hT:inL [d,T] (D.T k)=true) (hav:avB ops k (D.av k) σ=true)
  (hfv:(eK (D.fv k) (.row (.top T) e)&&!((D.fv k).any fun y=>E4 y T)&&(HO.row e [(0,e')] ([x].map c)).Cd (D.fv k))=true)
  (next:EVD G ops D m (k+1) (mU ⟨σ.s,(T,.row e [(0,e')] ([x].map c))::σ.h.Eb [d]⟩ (fX ops k) (.row (.top T) e)) K):EVD G ops D m k σ K:=by
 simp only [o8,F2] at hd
 obtain ⟨⟨hgp,hg2p⟩,hne⟩:=hd
 have hne':T≠d:=fun q=>by rw [q,G9] at hne;cases hne
 unfold PB at h
 split at h
 case h_2=>cases h
 rename_i o ho
 split at h
 case h_2=>cases h
 rename_i t n parts hop
 split at h
 case h_2=>cases h
 rename_i x' hparts
 split at h
 case h_2=>cases h
 rename_i e0 he
 split at h
 case isFalse=>cases h
 rename_i hc
 simp only [o8] at hc
 simp only [n9,t8] at h
 obtain ⟨rfl,hx',rfl⟩:=h
 obtain ⟨q1,q2⟩:=fH ho
 obtain rfl:parts=#[(0,x')]:=E9.1 hparts
 rw [tC q1] at next
 have hds:DStep G.P ops o (D.rd k) (D.F k) σ ⟨[d],[(o.dst.getD 0,.row e0 [(0,e')] ([x].map c))],.row (.top (o.dst.getD 0)) e0⟩:=fun TT τ lc=>by
  obtain ⟨h1',h2'⟩:=Fy lc
  have h2':=h2' (by rw [hop];rfl)
  have mx:(x':Operand) ∈ o.op.operands.toList:=by rw [hop];simp [Op.operands]
  have hgT:d ∉ TT:=fun hm=>by
   have:=p7.1 (h2' _ mx) d hm
   rw [hx'] at this
   simp [PV.has,dU,Key.tag] at this
  have hgτ:τ.hget d=some (.row e' [] (l.map c2)):=(lc.heap d hgT).symm.trans hg
  refine .inr ⟨by rw [wX lc];exact q2,fun E S0 N a w cx hi hcl hdd next Q hn=>?_⟩
  have hcl2:Clean [o.dst.getD 0] τ:=by
   have hgF:=wW hF (o.dst.getD 0) (by simp)
   have sub:∀ v:PV,eK (D.F k) v=true→eK [o.dst.getD 0] v=true:=fun v hv=>by
    have:=p7.1 hv _ hgF
    simp [eK] at this ⊢
    exact this
   refine ⟨fun i=>sub _ (hcl.1 i),fun g' o' hg'=>?_⟩
   obtain ⟨p1,p2⟩:=hcl.2 g' o' hg'
   refine ⟨fun hm=>p1 (by simp at hm;subst hm;exact hgF), ?_⟩
   cases o' with
   | box cs =>
     simp only [HO.Cd] at p2 ⊢
     exact p7.2 fun v hv=>sub v (p7.1 p2 v hv)
   | _=>rfl
  have hdo:=LY (E:=E) (S0:=S0) (N:=N) (a:=a) (w:=w) (c:=cx) hop he hc.1 (t7 hc.2) (by simpa using hgp) (by rw [h1' _ mx];exact hx') hgτ hi
  have e1:[[PV.sl (l.map c2)]]=[x].map c:=by rw [E1,H9,hx]
  rw [e1] at hdo
  exact renamed hne' (by simpa using hg2p) (by simpa using hgp) hi hcl2 hdd rfl hdo next Q hn
 simp only [o8] at hfv
 refine Ii hm q1 ⟨[d],[(o.dst.getD 0,_)],_⟩ hds (Ds q1 hav) hT (by simp only [I3,P7,O8,o8];exact ⟨hfv.1.1,hfv.1.2,hfv.2⟩) ?_
 exact next
end
end Go.VI
namespace Go.VI
section
variable {G:Prg} {ops:Array Oper} {k:Nat} {σ:St} {α:Type} {c:α→List PV}
theorem XU {l:List α} (h:((Ov G ops k σ).bind fun x=>x.elems σ.h)=some (l.map c)):eX G ops k σ=some (.val (.lit (.int .i64 l.length))):=by
 cases hx:Ov G ops k σ with
 | none=>rw [hx] at h;cases h
 | some x=>rw [hx] at h;exact ZL hx h
theorem TB {l:List α} {i:Int} {x:α} (hx:idx l i=some x) (h:Ly G ops k σ=some (.sl (l.map c),.lit (.int .i64 i),(c x).length)):eX G ops k σ=some (.val (.vptr (c x) 0)):=ZK h hx rfl
def iV (G:Prg) (ops:Array Oper) (k:Nat) (σ:St) (i:Nat):PV:=match Ly G ops k σ with
 | some (.row kk e,_)=>.rptr kk e i 0
 | _=>.undef
def iC (G:Prg) (ops:Array Oper) (k:Nat) (σ:St):Option (List (List PV)×PV×Nat):=match Ly G ops k σ with
 | some (.row kk _,q)=>(σ.h.rowAt kk).map fun es=>(es,q)
 | _=>none
theorem IL {l:List α} {i:Int} {x:α} (hx:idx l i=some x) (h:iC G ops k σ=some (l.map c,.lit (.int .i64 i),(c x).length)):eX G ops k σ=some (.val (iV G ops k σ i.toNat)):=by
 unfold iC at h
 split at h
 case h_2=>cases h
 rename_i kk e q hq
 cases hr:σ.h.rowAt kk with
 | none=>rw [hr] at h;cases h
 | some es =>
   rw [hr] at h
   simp only [s8,n9,t8] at h
   obtain ⟨rfl,h2⟩:=h
   have e1:iV G ops k σ i.toNat=.rptr kk e i.toNat 0:=by unfold iV;rw [hq]
   rw [e1]
   exact LH (by rw [hq,h2]) hr hx rfl
def rC (G:Prg) (ops:Array Oper) (k:Nat) (σ:St):Option (List (List PV)×Nat×List (Nat×Nat)):=match HI G ops k σ with
 | some (_,_,.rptr kk _ i _)=>(σ.h.rowAt kk).map fun es=>(es,i,σ.h.Ft kk)
 | _=>none
def rV (G:Prg) (ops:Array Oper) (k:Nat) (σ:St) (cs:List PV):Option PV:=match HI G ops k σ with
 | some (agg,sz,.rptr kk _ i off)=>Gu agg sz [] (.vptr (owned kk.tag i [] cs) off)
 | _=>none
def rW (G:Prg) (ops:Array Oper) (k:Nat) (σ:St) (cs:List PV):PV:=(rV G ops k σ cs).getD .undef
theorem XT {l:List α} {i:Int} {x:α} (hx:idx l i=some x) (h:rC G ops k σ=some (l.map c,i.toNat,[])) (hv:(rV G ops k σ (c x)).isSome=true):eX G ops k σ=some (.val (rW G ops k σ (c x))):=by
 unfold rC at h
 split at h
 case h_2=>cases h
 rename_i agg sz kk e i' off hq
 cases hr:σ.h.rowAt kk with
 | none=>rw [hr] at h;cases h
 | some es =>
   rw [hr] at h
   simp only [s8,n9,t8] at h
   obtain ⟨rfl,rfl,hJ⟩:=h
   have e1:rV G ops k σ (c x)=Gu agg sz [] (.vptr (owned kk.tag i.toNat [] (c x)) off):=by unfold rV;rw [hq]
   unfold rW
   rw [e1] at hv ⊢
   obtain ⟨v,hv⟩:=u9.1 hv
   rw [hv]
   exact Nd hq hr hJ (Mp hx).2 hv
def wG (G:Prg) (ops:Array Oper) (k:Nat) (σ:St):Nat×Nat:=match TX G ops k σ with
 | some (_,_,.rptr (.top g) e _ _,_)=>(g,e)
 | _=>(0,0)
def wC (G:Prg) (ops:Array Oper) (k:Nat) (σ:St) (cs:List PV):Option (HO×Nat×Bool×List PV):=match TX G ops k σ with
 | some (agg,sz,.rptr (.top g) _ i off,v)=>(σ.h.get g).map fun o=>(o,i,IW agg sz off cs.length [] v,setAt cs off v.cells)
 | _=>none
theorem TC {l:List α} {i:Int} {x x':α} (hx:idx l i=some x) (h:wC G ops k σ (c x)=some (.row (wG G ops k σ).2 [] (l.map c),i.toNat,true,c x')):eX G ops k σ=some ⟨[],[((wG G ops k σ).1,.row (wG G ops k σ).2 [] ((l.set i.toNat x').map c))],.lit undef⟩:=by
 unfold wC at h
 split at h
 case h_2=>cases h
 rename_i agg sz g e i' off v hq
 cases hr:σ.h.get g with
 | none=>rw [hr] at h;cases h
 | some o =>
   rw [hr] at h
   have ew:wG G ops k σ=(g,e):=by unfold wG;rw [hq]
   rw [ew] at h ⊢
   simp only [s8,n9,t8] at h ⊢
   obtain ⟨rfl,rfl,h1,h2⟩:=h
   refine Yh (kk:=.top g) (J:=[]) hq (by simp only [HP.rowAt,hr]) (by simp only [HP.Ft,hr]) (Mp hx).2 h1 h2 ?_
   simp only [HP.Ep,hr]
def aG (G:Prg) (ops:Array Oper) (k:Nat) (σ:St):Nat×Nat:=match Om G ops k σ with
 | some (.row (.top g) e,_)=>(g,e)
 | _=>(0,0)
def aC (G:Prg) (ops:Array Oper) (k:Nat) (σ:St):Option (HO×Option (List (List PV))×Bool×Nat×Nat):=match Om G ops k σ with
 | some (.row (.top g) e,x,e',sz,_)=>(σ.h.get g).map fun o=>(o,x.elems σ.h,x.flat σ.h&&H8 g PIN,sz,if E4 e e' then 0 else 1)
 | _=>none
theorem XS {l l2 l':List α} (sz:Nat) (hl:app l l2=some l') (hs:∀ y,(c y).length=sz) (h:aC G ops k σ=some (.row (aG G ops k σ).2 [] (l.map c),some (l2.map c),true,sz,0)):eX G ops k σ=some ⟨[dU (aG G ops k σ).1],[((aG G ops k σ).1,.row (aG G ops k σ).2 [] (l'.map c))],.row (.top (aG G ops k σ).1) (aG G ops k σ).2⟩:=by
 unfold aC at h
 split at h
 case h_2=>cases h
 rename_i g e x e' sz' d hq
 cases hr:σ.h.get g with
 | none=>rw [hr] at h;cases h
 | some o =>
   rw [hr] at h
   have ew:aG G ops k σ=(g,e):=by unfold aG;rw [hq]
   rw [ew] at h ⊢
   simp only [s8,n9,t8,o8] at h ⊢
   obtain ⟨rfl,h1,⟨h2,h3⟩,rfl,h4⟩:=h
   have he:e=e':=by
    split at h4
    ·rename_i hb;exact t7 hb
    ·cases h4
   subst he
   exact CV hq hr h1 h2 hs h3 hl
end
section
variable {G:Prg} {ops:Array Oper} {k:Nat} {σ:St} {K:St→Prop} {α:Type}
theorem qL (c:α→List PV) (l:List α) (next:EVS G ops (k+1) ((Res.val (.lit (.int .i64 l.length))).put σ (fX ops k)) K) (h:((Ov G ops k σ).bind fun x=>x.elems σ.h)=some (l.map c):=by kernel_rfl):EVS G ops k σ K:=gK (XU h) next
theorem qX (c:α→List PV) {l:List α} {i:Int} {x:α} (hx:idx l i=some x) (next:EVS G ops (k+1) ((Res.val (.vptr (c x) 0)).put σ (fX ops k)) K) (h:Ly G ops k σ=some (.sl (l.map c),.lit (.int .i64 i),(c x).length):=by kernel_rfl):EVS G ops k σ K:=gK (TB hx h) next
theorem qI (c:α→List PV) {l:List α} {i:Int} {x:α} (hx:idx l i=some x) (next:EVS G ops (k+1) ((Res.val (iV G ops k σ i.toNat)).put σ (fX ops k)) K) (h:iC G ops k σ=some (l.map c,.lit (.int .i64 i),(c x).length):=by kernel_rfl):EVS G ops k σ K:=gK (IL hx h) next
theorem qR (c:α→List PV) {l:List α} {i:Int} {x:α} (hx:idx l i=some x) (next:EVS G ops (k+1) ((Res.val (rW G ops k σ (c x))).put σ (fX ops k)) K) (h:rC G ops k σ=some (l.map c,i.toNat,[]):=by kernel_rfl) (hv:(rV G ops k σ (c x)).isSome=true:=by kernel_rfl):EVS G ops k σ K:=gK (XT hx h hv) next
theorem qS (c:α→List PV) (x':α) {l:List α} {i:Int} {x:α} (hx:idx l i=some x) (next:EVS G ops (k+1) (Res.put σ (fX ops k) ⟨[],[((wG G ops k σ).1,.row (wG G ops k σ).2 [] ((l.set i.toNat x').map c))],.lit undef⟩) K) (h:wC G ops k σ (c x)=some (.row (wG G ops k σ).2 [] (l.map c),i.toNat,true,c x'):=by kernel_rfl):EVS G ops k σ K:=gK (TC hx h) next
theorem qA (c:α→List PV) (sz:Nat) {l l2 l':List α} (hl:app l l2=some l') (next:EVS G ops (k+1) (Res.put σ (fX ops k) ⟨[dU (aG G ops k σ).1],[((aG G ops k σ).1,.row (aG G ops k σ).2 [] (l'.map c))],.row (.top (aG G ops k σ).1) (aG G ops k σ).2⟩) K) (hs:∀ y,(c y).length=sz:=by exact fun _=>rfl) (h:aC G ops k σ=some (.row (aG G ops k σ).2 [] (l.map c),some (l2.map c),true,sz,0):=by kernel_rfl):EVS G ops k σ K:=gK (XS sz hl hs h) next
theorem oX (c:α→List PV) {l:List α} {i:Int} {x:α} (hx:idx l i=some x) (next:EVO G ops (k+1) ((Res.val (.vptr (c x) 0)).put σ (fX ops k)) K) (h:Ly G ops k σ=some (.sl (l.map c),.lit (.int .i64 i),(c x).length):=by kernel_rfl):EVO G ops k σ K:=Mk (TB hx h) next
theorem oI (c:α→List PV) {l:List α} {i:Int} {x:α} (hx:idx l i=some x) (next:EVO G ops (k+1) ((Res.val (iV G ops k σ i.toNat)).put σ (fX ops k)) K) (h:iC G ops k σ=some (l.map c,.lit (.int .i64 i),(c x).length):=by kernel_rfl):EVO G ops k σ K:=Mk (IL hx h) next
theorem oS (c:α→List PV) (x':α) {l:List α} {i:Int} {x:α} (hx:idx l i=some x) (next:EVO G ops (k+1) (Res.put σ (fX ops k) ⟨[],[((wG G ops k σ).1,.row (wG G ops k σ).2 [] ((l.set i.toNat x').map c))],.lit undef⟩) K) (h:wC G ops k σ (c x)=some (.row (wG G ops k σ).2 [] (l.map c),i.toNat,true,c x'):=by kernel_rfl):EVO G ops k σ K:=Mk (TC hx h) next
theorem oA (c:α→List PV) (sz:Nat) {l l2 l':List α} (hl:app l l2=some l') (next:EVO G ops (k+1) (Res.put σ (fX ops k) ⟨[dU (aG G ops k σ).1],[((aG G ops k σ).1,.row (aG G ops k σ).2 [] (l'.map c))],.row (.top (aG G ops k σ).1) (aG G ops k σ).2⟩) K) (hs:∀ y,(c y).length=sz:=by exact fun _=>rfl) (h:aC G ops k σ=some (.row (aG G ops k σ).2 [] (l.map c),some (l2.map c),true,sz,0):=by kernel_rfl):EVO G ops k σ K:=Mk (XS sz hl hs h) next
theorem oN (n:Nat) (next:EVO G ops (k+n) (Uu G ops k n σ) K) (h:(runK G ops k n σ).isSome=true:=by kernel_rfl):EVO G ops k σ K:=VJ n h next
variable {D:DD} {m:Nat}
theorem dN (n:Nat) (next:EVD G ops D m (k+n) (SX G ops D m k n σ) K) (h:(AZ G ops D m k n σ).isSome=true:=by kernel_rfl):EVD G ops D m k σ K:=VF n h next
theorem dE (hk:K σ) (h:E6 m k=true:=by kernel_rfl):EVD G ops D m k σ K:=VD h hk
theorem dL (c:α→List PV) (l:List α) (next:EVD G ops D m (k+1) (mU σ (fX ops k) (.lit (.int .i64 l.length))) K) (h:((Ov G ops k σ).bind fun x=>x.elems σ.h)=some (l.map c):=by kernel_rfl) (hq:(E6 m k,avB ops k (D.av k) σ)=(false,true):=by kernel_rfl):EVD G ops D m k σ K:=by
 injection hq with h1 h2
 exact Bg h1 (XU h) h2 (p7.2 fun _ _=>rfl) next
theorem dX (c:α→List PV) {l:List α} {i:Int} {x:α} (hx:idx l i=some x) (next:EVD G ops D m (k+1) (mU σ (fX ops k) (.vptr (c x) 0)) K) (h:Ly G ops k σ=some (.sl (l.map c),.lit (.int .i64 i),(c x).length):=by kernel_rfl) (hq:(E6 m k,avB ops k (D.av k) σ,eK (D.fv k) (.vptr (c x) 0))=(false,true,true):=by kernel_rfl):EVD G ops D m k σ K:=by
 injection hq with h1 h2
 injection h2 with h2 h3
 exact Bg h1 (TB hx h) h2 h3 next
theorem dI (c:α→List PV) {l:List α} {i:Int} {x:α} (hx:idx l i=some x) (next:EVD G ops D m (k+1) (mU σ (fX ops k) (iV G ops k σ i.toNat)) K) (h:iC G ops k σ=some (l.map c,.lit (.int .i64 i),(c x).length):=by kernel_rfl) (hq:(E6 m k,avB ops k (D.av k) σ,eK (D.fv k) (iV G ops k σ i.toNat))=(false,true,true):=by kernel_rfl):EVD G ops D m k σ K:=by
 injection hq with h1 h2
 injection h2 with h2 h3
 exact Bg h1 (IL hx h) h2 h3 next
theorem dR (c:α→List PV) {l:List α} {i:Int} {x:α} (hx:idx l i=some x) (next:EVD G ops D m (k+1) (mU σ (fX ops k) (rW G ops k σ (c x))) K) (h:rC G ops k σ=some (l.map c,i.toNat,[]):=by kernel_rfl) (hq:((rV G ops k σ (c x)).isSome,E6 m k,avB ops k (D.av k) σ,eK (D.fv k) (rW G ops k σ (c x)))=(true,false,true,true):=by kernel_rfl):EVD G ops D m k σ K:=by
 injection hq with h0 hq
 injection hq with h1 h2
 injection h2 with h2 h3
 exact Bg h1 (XT hx h h0) h2 h3 next
theorem dS (c:α→List PV) (x':α) {l:List α} {i:Int} {x:α} (hx:idx l i=some x) (next:EVD G ops D m (k+1) (mU ⟨σ.s,((wG G ops k σ).1,.row (wG G ops k σ).2 [] ((l.set i.toNat x').map c))::σ.h⟩ (fX ops k) (.lit undef)) K) (h:wC G ops k σ (c x)=some (.row (wG G ops k σ).2 [] (l.map c),i.toNat,true,c x'):=by kernel_rfl)
  (hq:(E6 m k,inL [(wG G ops k σ).1] (D.T k),avB ops k (D.av k) σ,(D.fv k).any fun y=>E4 y (wG G ops k σ).1)=(false,true,true,false):=by kernel_rfl):EVD G ops D m k σ K:=by
 injection hq with h1 h2
 injection h2 with h2 h3
 injection h3 with h3 h4
 refine Ij h1 (TC hx h) h2 h3 ?_ next
 rw [h4]
 have:eK (D.fv k) (.lit undef)=true:=p7.2 fun _ _=>rfl
 rw [this];rfl
end
section
variable {G:Prg} {cd:Code} {σ:St}
theorem qc {α:Type} {K:PX→St→Prop} {b:Bool} {x y:Option α} {r:α} (h:(if b then x else y)=some r) (h1:x=some r→SEM G (cL cd) σ K) (h2:y=some r→SEM G (cR cd) σ K) (hk:knd cd=4:=by kernel_rfl) (hb:pev σ (PI cd)=.lit (.bool b):=by kernel_rfl):SEM G cd σ K:=
 Ye b hk hb (fun e=>h1 (iW e h)) fun e=>h2 (iU e h)
def OA (D:List Nat) (v:Bool) (σ:St):St:=⟨(D.map fun d=>(d,vB v))++σ.s,σ.h⟩
theorem FR {σ:St} {v:Bool}:∀ (D:List Nat) (i:Nat),(∀ d ∈ D,σ.get d=vB v)→SL.get ((D.map fun d=>(d,vB v))++σ.s) i=σ.get i
 | [],i,_=>rfl
 | d::D,i,h=>by
   simp only [E1,K8,SL.get]
   split
   ·rename_i e;subst e;exact (h _ List.mem_cons_self).symm
   ·exact FR D i fun x hx=>h x (List.mem_cons_of_mem _ hx)
theorem FT {b:Bool} {ks gs D:List Nat} (hc:(D.map fun d=>(sel ks gs σ).get d)=D.map fun _=>vB b):Sub (OA D b (sel ks gs σ)) σ:=by
 have hD:∀ d ∈ D,(sel ks gs σ).get d=vB b:=fun d hd=>by
  have:=List.map_inj_left.1 hc d hd;exact this
 refine ⟨fun i=>?_,fun g o hg=>Rs gs g o hg⟩
 have e1:(OA D b (sel ks gs σ)).get i=(sel ks gs σ).get i:=FR D i hD
 rw [e1]
 exact CU ks i
theorem qB {α:Type} {ops:Array Oper} {k:Nat} {K:St→Prop} {b:Bool} {x y:Option α} {r:α} (h:(if b then x else y)=some r) (ks gs D:List Nat) (h1:x=some r→EVS G ops k (OA D true (sel ks gs σ)) K) (h2:y=some r→EVS G ops k (OA D false (sel ks gs σ)) K) (hc:(D.map fun d=>(sel ks gs σ).get d)=D.map (fun _=>vB b):=by kernel_rfl):EVS G ops k σ K:=by
 refine JY (FT hc) ?_
 cases b
 ·exact h2 (iU rfl h)
 ·exact h1 (iW rfl h)
theorem oB {α:Type} {ops:Array Oper} {k:Nat} {K:St→Prop} {b:Bool} {x y:Option α} {r:α} (h:(if b then x else y)=some r) (ks gs D:List Nat) (h1:x=some r→EVO G ops k (OA D true (sel ks gs σ)) K) (h2:y=some r→EVO G ops k (OA D false (sel ks gs σ)) K) (hc:(D.map fun d=>(sel ks gs σ).get d)=D.map (fun _=>vB b):=by kernel_rfl):EVO G ops k σ K:=by
 refine VK (FT hc) ?_
 cases b
 ·exact h2 (iU rfl h)
 ·exact h1 (iW rfl h)
theorem sp {P:Program} {X σe:St} (l:List BL) (R:TL) (hq:((X.FJ P l).isSome,R.okB,KW R)=(true,true,true):=by kernel_rfl) (h:atS σe ((X.Ya P l).ren R)=asS σe:=by kernel_rfl):gG P σe X:=by
 injection hq with h1 h2
 injection h2 with h2 h3
 exact BD l R h1 h2 h3 h
theorem ql {K:PX→St→Prop} {S R:Type} {body:S→Option (S ⊕ R)} {s:S} {r:R} (h:aM body s=some r) (emb:S→St) (out:R→PX×St) (h0:gG G.P (emb s) σ) (hbody:∀ s t,body s=some t→SEM G (cL cd) (emb s) (LKR G.P emb out t)) (hK:∀ τ,gG G.P (out r).2 τ→K (out r).1 τ) (hk:knd cd=6:=by kernel_rfl) (hout:∀ r,isN (out r).1=false:=by intro x;first | rfl | (rcases x with _ | _ <;> rfl)):SEM G cd σ K:=
 NY emb out body s r hk h0 h hbody hout hK
theorem qH {P:Program} {X σe:St} (h:atS σe X=asS σe:=by kernel_rfl):gG P σe X:=here h
theorem qC {ops:Array Oper} {k:Nat} {Q:St→Prop} (R N:TL) {f:Nat} {qs:List PV} {H0:HP} {r:PV} {H1:HP} (pc:PC G.P f qs H0 r H1) (next:EVS G ops (k+1) (mU (after (R++N) ((R.filter fun x=>E6 PIN x.1).map (·.2)) σ H1) (fX ops k) (r.ren (R++N))) Q)
 (hc:Ji ops k σ R []=some (f,qs):=by kernel_rfl) (ht:Lu R N []=true:=by kernel_rfl) (hH:handed R (σ.h.only []) σ.h R=H0:=by kernel_rfl):EVS G ops k σ Q:=nE R N [] hc pc ht hH (.inl rfl) next
theorem qP {ops:Array Oper} {k:Nat} {Q:St→Prop} {f:Nat} {qs:List PV} {r:PV} (pc:PC G.P f qs [] r []) (next:EVS G ops (k+1) (mU σ (fX ops k) r) Q) (hc:Ji ops k σ [] []=some (f,qs):=by kernel_rfl) (hr:r.ren []=r:=by kernel_rfl):EVS G ops k σ Q:=Zz [] hc pc rfl (.inl rfl) hr next
theorem qV {ops:Array Oper} {k:Nat} {Q:St→Prop} (vis:List Nat) {f:Nat} {qs:List PV} {r:PV} (pc:PC G.P f qs [] r []) (next:EVS G ops (k+1) (mU σ (fX ops k) r) Q) (hc:Ji ops k σ [] vis=some (f,qs):=by kernel_rfl) (ht:(Lu [] [] vis,r.ind)=(true,true):=by kernel_rfl) (hr:r.ren []=r:=by kernel_rfl):EVS G ops k σ Q:=by
 injection ht with h1 h2
 exact Zz vis hc pc h1 (.inr h2) hr next
theorem oP {ops:Array Oper} {k:Nat} {Q:St→Prop} {f:Nat} {qs:List PV} {r:PV} (pc:PC G.P f qs [] r []) (next:EVO G ops (k+1) (mU σ (fX ops k) r) Q) (hc:Ji ops k σ [] []=some (f,qs):=by kernel_rfl) (hr:r.ren []=r:=by kernel_rfl):EVO G ops k σ Q:=Zy [] hc pc rfl (.inl rfl) hr next
theorem oV {ops:Array Oper} {k:Nat} {Q:St→Prop} (vis:List Nat) {f:Nat} {qs:List PV} {r:PV} (pc:PC G.P f qs [] r []) (next:EVO G ops (k+1) (mU σ (fX ops k) r) Q) (hc:Ji ops k σ [] vis=some (f,qs):=by kernel_rfl) (ht:(Lu [] [] vis,r.ind)=(true,true):=by kernel_rfl) (hr:r.ren []=r:=by kernel_rfl):EVO G ops k σ Q:=by
 injection ht with h1 h2
 exact Zy vis hc pc h1 (.inr h2) hr next
theorem dC {D:DD} {m:Nat} {ops:Array Oper} {k:Nat} {Q:St→Prop} (N:TL) {f:Nat} {qs:List PV} {r:PV} {H1:HP} (pc:PC G.P f qs [] r H1) (next:EVD G ops D m (k+1) (mU ⟨σ.s,H1.ren N++σ.h⟩ (fX ops k) (r.ren N)) Q)
  (hc:Ji ops k σ [] []=some (f,qs):=by kernel_rfl) (hq:(E6 m k,Qp N [] (D.F k) (D.rd k),avB ops k (D.av k) σ,(inL ((H1.ren N).map (·.1)) (D.T k)&&eK (D.fv k) (r.ren N)&&(H1.ren N).all fun x=>!((D.fv k).any fun y=>E4 y x.1)&&x.2.Cd (D.fv k)))=(false,true,true,true):=by kernel_rfl):EVD G ops D m k σ Q:=by
 injection hq with h1 h2
 injection h2 with h2 h3
 injection h3 with h3 h4
 exact tD N [] h1 hc pc h2 (.inl rfl) h3 h4 next
theorem qM {K:PX→St→Prop} (m:Nat) (h:EVD G (vM cd) ⟨lst [],lst [],lst [],lst [],lst []⟩ m 0 σ fun σ'=>EVO G (vM cd) m σ' (K .normal)) (hq:(knd cd,Mj (vM cd) [] [] [] [] [] m)=(2,true):=by kernel_rfl):SEM G cd σ K:=by
 injection hq with h1 h2
 exact BB [] [] [] [] [] m h1 h2 rfl h
theorem qN {K:PX→St→Prop} (T F rd av fv:List (Nat×List Nat)) (m:Nat) (h:EVD G (vM cd) ⟨lst T,lst F,lst rd,lst av,lst fv⟩ m 0 σ fun σ'=>EVO G (vM cd) m σ' (K .normal)) (hq:(knd cd,Mj (vM cd) T F rd av fv m,F.all fun x=>inL x.2 [])=(2,true,true):=by kernel_rfl):SEM G cd σ K:=by
 injection hq with h1 h2
 injection h2 with h2 h3
 exact BB T F rd av fv m h1 h2 h3 h
theorem qW {X τ:St} {l:List ResultVar} {r:PV} {H1:HP} (hτ:gG G.P X τ) (s:SL) (hs:gG G.P ⟨s,H1⟩ X) (h:HZ G.P ⟨s,H1⟩ l=some r:=by kernel_rfl):RK G.P l r H1 .ret τ:=Mx hτ s hs h
end
end Go.VI
