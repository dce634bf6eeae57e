/- The evaluator, part 4. -/
import Derived.Test.YtgfjbgoehhnaeaaGreatVHC3
import Derived.Maps.RangeRun
import Derived.Laws.CopyRow
import Derived.JoinedCond
import Derived.HandedShaped
set_option linter.unusedVariables false
set_option linter.unusedSimpArgs false
set_option linter.unusedSectionVars false
namespace Go.VI
open Go.RowKit
section
variable {P:Program} {E:Ent} {S0:Nat→Prop} {N:Nat} {σ:St} {a:Act} {w:World} {c:Ctx}
end
end Go.VI
namespace Go.VI
open Go.RowKit
section
variable {P:Program} {E:Ent} {S0:Nat→Prop} {N:Nat} {σ:St} {a:Act} {w:World} {c:Ctx}
end
section
variable {G:Prg} {ops:Array Oper} {k:Nat} {σ:St} {K:St→Prop}
theorem HV {o:Oper} (ho:xR ops k=some o) (hg:kG ops σ o=some true) {σ':St} (h:∀ {E:Ent} {S0:Nat→Prop} {N:Nat} {a:Act} {w:World} {c:Ctx},Inv G.P E S0 N σ a w c→(∀ k,o.dst=some k→k<N)→tR G.P E S0 N o a w σ') (next:EVS G ops (k+1) σ' K):EVS G ops k σ K:=
 Ht ho hg (fun _ E S0 N a w c hi hd nx Q hn=>h hi hd nx Q fun a' w' c' hi'=>hn _ _ _ _ next hi') fun e=>nomatch e
end
section
variable {G:Prg} {cd:Code} {σ:St} {K:PX→St→Prop}
end
end Go.VI
namespace Go.VI
end Go.VI
namespace Go.VI
def Lj (k:IntKind) (a b:Int):Int:=k.wrap (BitVec.ofInt k.bits a &&& BitVec.ofInt k.bits b).toNat
def iM (k:IntKind) (a b:Int):Int:=k.wrap (BitVec.ofInt k.bits a ^^^ BitVec.ofInt k.bits b).toNat
def cpy {α:Type} (es:List α) (lo:Nat) (ys:List α):List α:=es.take lo++ys++es.drop (lo+ys.length)
def Hj (s:ByteArray) (i:Int):Option Int:=if 0≤i then (s[i.toNat]?).map (fun b=>(b.toNat:Int)) else none
end Go.VI
namespace Go.VI
open Go.RowKit
section
variable {P:Program} {E:Ent} {S0:Nat→Prop} {N:Nat} {σ:St} {a:Act} {w:World} {c:Ctx}
theorem FL {t:TypeId} {A:Option Addr} {n cc:Nat} {e:TypeId} (ht:jQ P t=some e):(binOp .eql t (.slice A n cc) (.slice none 0 0)).run P w=.ok (.bool A.isNone) w:=by
 have hu:=lN ht
 have:(Op.equal t (.slice A n cc) (.slice none 0 0)).run P w=.ok A.isNone w:=by
  unfold Op.equal
  show (Op.equalIn (9999+1) t _ _).run P w=_
  unfold Op.equalIn
  cases A <;> simp only [Sem.run_bind,run_underlying hu,Result.andThen_ok,Sem.run_pure] <;> rfl
 simp only [binOp,Sem.run_bind,this,Result.andThen_ok,Sem.run_pure]
theorem IV {o:Oper} {t t':TypeId} {x:Operand} {e:TypeId} {es:List (List PV)} (ho:o.op=.binOp .eql t x (.const (.slice none 0 0)) t') (ht:jQ P t=some e) (hx:pev σ x=.sl es) (h:Inv P E S0 N σ a w c) (hd:∀ k,o.dst=some k→k<N) :
  ∃ b:Bool,(b=true→es=[])∧tR P E S0 N o a w (Res.put σ o.dst (.val (.lit (.bool b)))):=by
 have rx:=h.ev x
 rw [hx] at rx
 obtain ⟨A,n,cc,hX,hA⟩:∃ A n cc,a.eval x=.slice A n cc∧(A.isNone=true→es=[]):=by
  generalize a.eval x=X at rx
  cases rx with
  | free _ _ hf=>cases hf with
    | sl _ k A n cc vf hn hk hk0 hc ha =>
      refine ⟨A,n,cc,rfl,fun hq=>?_⟩
      rcases es with _ | ⟨y,ys⟩
      ·rfl
      ·obtain ⟨ad,h1,_⟩:=ha (by simp)
       rw [h1] at hq;cases hq
 refine ⟨A.isNone,hA,bK h hd ?_ (.free _ _ (.lit _))⟩
 unfold execOp
 have hg:(eqGuard .eql t x (.const (.slice none 0 0)) (.slice A n cc) (.slice none 0 0)).run P w=.ok () w:=by
  unfold eqGuard;rfl
 have hY:a.eval (.const (.slice none 0 0))=.slice none 0 0:=rfl
 simp only [ho,hX,hY,Sem.run_bind,hg,FL ht,Result.andThen_ok,Sem.run_pure]
def PV.Cd:PV→PV
 | .nl=>.sl []
 | v=>v
theorem BB {l:List PV} (h:(l.map PV.Cd).all PV.still=true):l.all PV.cell=true:=by
 rw [List.all_eq_true] at h ⊢
 intro v hv
 have:=h _ (List.mem_map.2 ⟨v,hv,rfl⟩)
 cases v <;> first | rfl | (simp [PV.Cd,PV.still] at this;done) | exact this
theorem KY {pv:PV} {v:Value} (r:RV P w c pv v) (h:(PV.Cd pv).still=true):RF w c.S (PV.Cd pv) v:=by
 have key:pv=.nl∨(PV.Cd pv=pv):=by cases pv <;> first | exact .inl rfl | exact .inr rfl
 rcases key with rfl | e
 ·rw [r.CO];exact RF.Jx w _
 ·rw [e] at h ⊢;exact r.NU (Fw h)
theorem DU {o:Oper} {t e:TypeId} {len:Nat} {parts:Array (Nat×Operand)} (ho:o.op=.buildSlice t len parts) (ht:jQ P t=some e) (hidx:parts.toList.map (·.1)=List.range len) (hk:0<aE P e) (hlim:len*aE P e≤16777216)
  (hrow:yZ P e=true) (hall:(parts.toList.all fun p=>(pev σ p.2).cells.length==aE P e&&((pev σ p.2).cells.map PV.Cd).all PV.still)=true) (h:Inv P E S0 N σ a w c) (hd:∀ k,o.dst=some k→k<N) :
  tR P E S0 N o a w (Res.put σ o.dst (.val (.sl (parts.toList.map fun p=>(pev σ p.2).cells.map PV.Cd)))):=by
 obtain ⟨i,z,hi,hz,hsz,hby,hzs,hsize⟩:=rF hrow
 have hlen:parts.toList.length=len:=by have:=congrArg List.length hidx;simpa using this
 -- the cells
 let cells:List Value:=parts.toList.flatMap fun p=>(a.eval p.2).cells.toList
 have each:∀ p ∈ parts.toList,(pev σ p.2).cells.length=aE P e∧((pev σ p.2).cells.map PV.Cd).all PV.still=true:=fun p hp=>by
  have:=List.all_eq_true.1 hall p hp
  simpa using this
 have rep:∀ p ∈ parts.toList,(a.eval p.2).cells.size=aE P e∧∀ (j:Nat) pv,((pev σ p.2).cells.map PV.Cd)[j]?=some pv→RF w c.S pv ((a.eval p.2).cells.getD j undef)∧((a.eval p.2).cells.getD j undef).oneCell'=true:=fun p hp=>by
  obtain ⟨q1,q2⟩:=each p hp
  obtain ⟨q3,q4⟩:=(h.ev p.2).cells (BB q2)
  refine ⟨by omega,fun j pv hg=>?_⟩
  rw [List.getElem?_map] at hg
  cases hq:(pev σ p.2).cells[j]? with
  | none=>rw [hq] at hg;cases hg
  | some pv0 =>
    rw [hq] at hg
    simp only [Option.map_some,Option.some.injEq] at hg
    subst hg
    have hst:(PV.Cd pv0).still=true:=List.all_eq_true.1 q2 _ (List.mem_map.2 ⟨pv0,List.mem_of_getElem? hq,rfl⟩)
    exact ⟨KY (q4 j pv0 hq).1 hst,(q4 j pv0 hq).2⟩
 have hrun:(Instr.buildSlice t len (parts.map fun p=>(p.1,a.eval p.2))).run P w=.ok (.slice (some ⟨w.heap.size,0,none⟩) len len) (w.alloc (.cells cells.toArray e)):=vP ht hidx hk hlim hrow fun p hp=>(rep p hp).1
 have hexec:(execOp a.eval o).run P w=.ok (.value (.slice (some ⟨w.heap.size,0,none⟩) len len)) (w.alloc (.cells cells.toArray e)):=by
  unfold execOp
  simp only [ho,Sem.run_bind,hrun,Result.andThen_ok,Sem.run_pure]
 have hb:Below w.heap.size w (w.alloc (.cells cells.toArray e)):=(Below.refl _ _).alloc (Nat.le_refl _) _
 have inv':=(h.ext hb).more (fun b=>c.S b∨b=w.heap.size) (fun b hb=>.inl hb) (fun b hb'=>by rcases hb' with q | q;exact Nat.lt_of_lt_of_le (h.ok.hS b q) hb.size;simp [q]) (fun b hb'=>by rcases hb' with q | q;exact h.sup b q;exact .inr (by rw [q];exact h.below.mine (Nat.le_refl _)))
  (fun k hg hb'=>by rcases hb' with q | q;exact (h.ok.hD k hg).2.2 q;have:=(h.ok.hD k hg).2.1;omega)
 refine lO hd (.inl hexec) inv' (.free _ _ ?_)
 have hsz:∀ p ∈ parts.toList,(a.eval p.2).cells.toList.length=aE P e:=fun p hp=>by simpa using (rep p hp).1
 have hg:∀ i j pv,cP (parts.toList.map fun p=>(pev σ p.2).cells.map PV.Cd) i j=some pv→∃ p,parts.toList[i]?=some p∧p ∈ parts.toList∧((pev σ p.2).cells.map PV.Cd)[j]?=some pv∧j<aE P e∧i<len∧cells[i*aE P e+j]?=some ((a.eval p.2).cells.getD j undef):=by
  intro i j pv hg
  unfold cP at hg
  rw [List.getElem?_map] at hg
  cases hp:parts.toList[i]? with
  | none=>simp [hp] at hg
  | some p =>
    simp only [hp,Option.map_some,Option.bind_some] at hg
    have hmem:=List.mem_of_getElem? hp
    have hj:j<aE P e:=by
     rcases Nat.lt_or_ge j (pev σ p.2).cells.length with q | q
     ·rw [(each p hmem).1] at q;exact q
     ·rw [List.getElem?_eq_none (by simpa using q)] at hg;cases hg
    have hi':i<len:=by
     rcases Nat.lt_or_ge i parts.toList.length with q | q
     ·omega
     ·rw [List.getElem?_eq_none q] at hp;cases hp
    refine ⟨p,rfl,hmem,hg,hj,hi', ?_⟩
    rw [Lb (aE P e) parts.toList (fun p=>(a.eval p.2).cells.toList) hsz i j hj,hp]
    simp only [Option.bind_some]
    rw [Array.getElem?_toList]
    exact Bw (by have:=(rep p hmem).1;omega)
 refine .sl _ (aE P e) _ _ _ (fun i j=>cells.getD (i*aE P e+j) undef) (by simpa using hlen.symm) (fun l hl=>?_) hk (Nat.le_refl _) (fun _=>⟨_,rfl,.inr rfl⟩) (fun ad had i j pv hg'=>?_) (fun i j pv hg'=>?_) (fun i j pv hg'=>?_)
 ·rw [List.mem_map] at hl
  obtain ⟨p,hp,rfl⟩:=hl
  rw [List.length_map];exact (each p hp).1
 ·injection had with had
  subst had
  obtain ⟨p,_,_,_,_,_,q⟩:=hg i j pv hg'
  rw [add_lit,cell_of_row _ _ _ _ _ _ (heap_alloc_new w _),Nat.zero_add,List.getElem?_toArray,q,List.getD_eq_getElem?_getD,q]
  rfl
 ·obtain ⟨p,_,hp,q1,_,_,q⟩:=hg i j pv hg'
  rw [List.getD_eq_getElem?_getD,q]
  exact ((rep p hp).2 j pv q1).2
 ·obtain ⟨p,_,hp,q1,_,_,q⟩:=hg i j pv hg'
  rw [List.getD_eq_getElem?_getD,q]
  exact (((rep p hp).2 j pv q1).1).same (fun b hS=>hb.block b (h.ok.hS b hS)) fun b hb=>.inl hb
theorem DT {o:Oper} {t e:TypeId} {len:Nat} {parts:Array (Nat×Operand)} (ho:o.op=.buildSlice t len parts) (ht:jQ P t=some e) (hidx:parts.toList.map (·.1)=List.range len) (hk:0<aE P e) (hlim:len*aE P e≤16777216)
  (hrow:yZ P e=true) (hall:(parts.toList.all fun p=>(pev σ p.2).cells.length==aE P e&&(pev σ p.2).cells.all PV.still)=true) (h:Inv P E S0 N σ a w c) (hd:∀ k,o.dst=some k→k<N) :
  tR P E S0 N o a w (Res.put σ o.dst (.new (o.dst.getD 0) (.row e [] (parts.toList.map fun p=>(pev σ p.2).cells)) (.row (.top (o.dst.getD 0)) e))):=by
 obtain ⟨i,z,hi,hz,hsz,hby,hzs,hsize⟩:=rF hrow
 have hlen:parts.toList.length=len:=by have:=congrArg List.length hidx;simpa using this
 let cells:List Value:=parts.toList.flatMap fun p=>(a.eval p.2).cells.toList
 have each:∀ p ∈ parts.toList,(pev σ p.2).cells.length=aE P e∧(pev σ p.2).cells.all PV.still=true:=fun p hp=>by
  have:=List.all_eq_true.1 hall p hp
  simpa using this
 have rep:∀ p ∈ parts.toList,(a.eval p.2).cells.size=aE P e∧∀ (j:Nat) pv,(pev σ p.2).cells[j]?=some pv→RF w c.S pv ((a.eval p.2).cells.getD j undef)∧((a.eval p.2).cells.getD j undef).oneCell'=true:=fun p hp=>by
  obtain ⟨q1,q2⟩:=each p hp
  obtain ⟨q3,q4⟩:=(h.ev p.2).cells (zX q2)
  exact ⟨by omega,fun j pv hg=>⟨(q4 j pv hg).1.NU (Fw (List.all_eq_true.1 q2 pv (List.mem_of_getElem? hg))),(q4 j pv hg).2⟩⟩
 have hrun:(Instr.buildSlice t len (parts.map fun p=>(p.1,a.eval p.2))).run P w=.ok (.slice (some ⟨w.heap.size,0,none⟩) len len) (w.alloc (.cells cells.toArray e)):=vP ht hidx hk hlim hrow fun p hp=>(rep p hp).1
 have hexec:(execOp a.eval o).run P w=.ok (.value (.slice (some ⟨w.heap.size,0,none⟩) len len)) (w.alloc (.cells cells.toArray e)):=by
  unfold execOp
  simp only [ho,Sem.run_bind,hrun,Result.andThen_ok,Sem.run_pure]
 have hb:Below w.heap.size w (w.alloc (.cells cells.toArray e)):=(Below.refl _ _).alloc (Nat.le_refl _) _
 have hcsz:∀ p ∈ parts.toList,(a.eval p.2).cells.toList.length=aE P e:=fun p hp=>by simpa using (rep p hp).1
 have hcl:cells.length=len*aE P e:=by
  have:∀ l:List (Nat×Operand),(∀ p ∈ l,(a.eval p.2).cells.toList.length=aE P e)→(l.flatMap fun p=>(a.eval p.2).cells.toList).length=l.length*aE P e:=by
   intro l
   induction l with
   | nil=>intro _;simp
   | cons p l ih =>
     intro hl
     rw [List.flatMap_cons,List.length_append,hl p (by simp),ih fun q hq=>hl q (by simp [hq]),List.length_cons,Nat.add_mul];omega
  rw [← hlen];exact this _ hcsz
 have hg:∀ i j pv,cP (parts.toList.map fun p=>(pev σ p.2).cells) i j=some pv→∃ p,p ∈ parts.toList∧(pev σ p.2).cells[j]?=some pv∧j<aE P e∧i<len∧cells[i*aE P e+j]?=some ((a.eval p.2).cells.getD j undef):=by
  intro i j pv hg
  unfold cP at hg
  rw [List.getElem?_map] at hg
  cases hp:parts.toList[i]? with
  | none=>simp [hp] at hg
  | some p =>
    simp only [hp,Option.map_some,Option.bind_some] at hg
    have hmem:=List.mem_of_getElem? hp
    have hj:j<aE P e:=by
     rcases Nat.lt_or_ge j (pev σ p.2).cells.length with q | q
     ·rw [(each p hmem).1] at q;exact q
     ·rw [List.getElem?_eq_none q] at hg;cases hg
    have hi':i<len:=by
     rcases Nat.lt_or_ge i parts.toList.length with q | q
     ·omega
     ·rw [List.getElem?_eq_none q] at hp;cases hp
    refine ⟨p,hmem,hg,hj,hi', ?_⟩
    rw [Lb (aE P e) parts.toList (fun p=>(a.eval p.2).cells.toList) hcsz i j hj,hp]
    simp only [Option.bind_some]
    rw [Array.getElem?_toList]
    exact Bw (by have:=(rep p hmem).1;omega)
 let c':=c.lay (o.dst.getD 0) w.heap.size (.slice (some ⟨w.heap.size,0,none⟩) len len) e True
 have hok:c'.Ok E.M (w.alloc (.cells cells.toArray e)):=Fh h.ok hb.size (fun _=>⟨h.below.mine (Nat.le_refl _),by simp,fun hS=>by have:=h.ok.hS _ hS;omega⟩) fun _ k' _ hg' e=>by have:=(h.ok.hD k' hg').2.1;omega
 have hhd:c'.hd (.top (o.dst.getD 0))=.slice (some ⟨w.heap.size,0,none⟩) len len:=dG.2.1
 have hrep:mX P (w.alloc (.cells cells.toArray e)) c' (o.dst.getD 0) (.row e [] (parts.toList.map fun p=>(pev σ p.2).cells)):=by
  refine ⟨cells,dG.2.2.1,hk,fun l hl=>?_, ?_,fun b hb'=>?_,fun i j pv hgE=>?_,fun i j pv hgE=>?_⟩
  ·obtain ⟨p,hp,rfl⟩:=List.mem_map.1 hl
   exact (each p hp).1
  ·rw [hhd]
   refine ⟨by rw [hcl,List.length_map,hlen],.inr ⟨w.heap.size,len,cells.toArray,by rw [List.length_map,hlen],Nat.zero_le _,heap_alloc_new w _,by rw [List.length_map,hlen];exact Nat.le_refl _, ?_,by simp [hcl], ?_⟩⟩
   ·have:=Nat.le_mul_of_pos_right len hk
    unfold maxLen;omega
   ·rw [List.length_map,hlen,← hcl];simp
  ·rw [hhd] at hb'
   simp [Value.ownBlock] at hb';subst hb'
   exact ⟨dG.2.2.2.2 trivial,dG.1⟩
  ·obtain ⟨p,hp,q1,_,_,q⟩:=hg i j pv hgE
   rw [List.getD_eq_getElem?_getD,q]
   exact ((rep p hp).2 j pv q1).2
  ·obtain ⟨p,hp,q1,_,_,q⟩:=hg i j pv hgE
   rw [List.getD_eq_getElem?_getD,q]
   exact (((rep p hp).2 j pv q1).1).same (fun b hS=>hb.block b (h.ok.hS b hS)) fun b hb=>hb
 refine Dm (Dn h hd) h hd hexec hb hok (fun _=>Iff.rfl) (fun k hk=>⟨kF hk,(Cb hk).2⟩) hrep ?_
 obtain ⟨xs',r'⟩:=hrep
 have:=RV.row (P:=P) (w:=w.alloc (.cells cells.toArray e)) (c:=c') (.top (o.dst.getD 0)) e r'.ty r'.wL
 rwa [hhd] at this
end
section
variable {G:Prg} {ops:Array Oper} {k:Nat} {σ:St} {K:St→Prop}
theorem HS {o:Oper} (ho:xR ops k=some o) (hg:kG ops σ o=some true) {σ':St} (h:∀ {E:Ent} {S0:Nat→Prop} {N:Nat} {a:Act} {w:World} {c:Ctx},Inv G.P E S0 N σ a w c→(∀ k,o.dst=some k→k<N)→tR G.P E S0 N o a w σ') (next:EVO G ops (k+1) σ' K):EVO G ops k σ K:=
 Pg ho hg (fun _ E S0 N a w c hi hd nx Q hn=>h hi hd nx Q fun a' w' c' hi'=>hn _ _ _ _ next hi') fun e=>nomatch e
def rG (G:Prg) (ops:Array Oper) (k:Nat) (σ:St) (r:Res):Prop:=∃ o,xR ops k=some o∧kG ops σ o=some true∧∀ {E:Ent} {S0:Nat→Prop} {N:Nat} {a:Act} {w:World} {c:Ctx},Inv G.P E S0 N σ a w c→(∀ k,o.dst=some k→k<N)→tR G.P E S0 N o a w (r.put σ o.dst)
theorem gW {r:Res} (h:rG G ops k σ r) (next:EVS G ops (k+1) (r.put σ (fP ops k)) K):EVS G ops k σ K:=by
 obtain ⟨o,h1,h2,h3⟩:=h
 rw [sK h1] at next
 exact HV h1 h2 h3 next
theorem PK {r:Res} (h:rG G ops k σ r) (next:EVO G ops (k+1) (r.put σ (fP ops k)) K):EVO G ops k σ K:=by
 obtain ⟨o,h1,h2,h3⟩:=h
 rw [sK h1] at next
 exact HS h1 h2 h3 next
def CD (G:Prg) (ops:Array Oper) (k:Nat) (σ:St):Option PV:=match vV ops k σ with
 | some o=>(match o.op with
   | .binOp .eql t x (.const (.slice none 0 0)) _=>(match jQ G.P t with
     | some _=>some (pev σ x)
     | none=>none)
   | _=>none)
 | none=>none
theorem Mo {es:List (List PV)} (h:CD G ops k σ=some (.sl es)) (h1:es=[]→EVS G ops (k+1) (mA σ (fP ops k) (vB true)) K) (h2:EVS G ops (k+1) (mA σ (fP ops k) (vB false)) K):EVS G ops k σ K:=by
 unfold CD at h
 split at h
 case h_2=>cases h
 rename_i o ho
 split at h
 case h_2=>cases h
 rename_i t x t' hop
 split at h
 case h_2=>cases h
 rename_i e he
 injection h with hx
 obtain ⟨q1,q2⟩:=fY ho
 rw [sK q1] at h1 h2
 refine Ht q1 q2 (fun _ E S0 N a w c hi hd nx Q hn=>?_) fun e=>nomatch e
 obtain ⟨b,hb,hdo⟩:=IV hop he hx hi hd
 refine hdo nx Q fun a' w' c' hi'=>?_
 rw [put_eq] at hi'
 cases b with
 | true=>exact hn _ _ _ _ (h1 (hb rfl)) hi'
 | false=>exact hn _ _ _ _ h2 hi'
def OB (G:Prg) (ops:Array Oper) (k:Nat) (σ:St):Option (Nat×List (List PV)×Nat):=match vV ops k σ with
 | some o=>(match o.op with
   | .buildSlice t len parts=>(match jQ G.P t with
     | some e=>if decide (parts.toList.map (·.1)=List.range len)&&Nat.blt 0 (aE G.P e)&&Nat.ble (len*aE G.P e) 16777216&&yZ G.P e&&(parts.toList.all fun p=>(pev σ p.2).cells.length==aE G.P e&&(pev σ p.2).cells.all PV.still) then some (e,parts.toList.map (fun p=>(pev σ p.2).cells),o.dst.getD 0) else none
     | none=>none)
   | _=>none)
 | none=>none
def GP (G:Prg) (ops:Array Oper) (k:Nat) (σ:St):Option (List (List PV)):=match vV ops k σ with
 | some o=>(match o.op with
   | .buildSlice t len parts=>(match jQ G.P t with
     | some e=>if decide (parts.toList.map (·.1)=List.range len)&&Nat.blt 0 (aE G.P e)&&Nat.ble (len*aE G.P e) 16777216&&yZ G.P e&&(parts.toList.all fun p=>(pev σ p.2).cells.length==aE G.P e&&((pev σ p.2).cells.map PV.Cd).all PV.still) then some (parts.toList.map (fun p=>(pev σ p.2).cells.map PV.Cd)) else none
     | none=>none)
   | _=>none)
 | none=>none
theorem DQ {es:List (List PV)} (h:GP G ops k σ=some es):rG G ops k σ (.val (.sl es)):=by
 unfold GP at h
 split at h
 case h_2=>cases h
 rename_i o ho
 split at h
 case h_2=>cases h
 rename_i t len parts hop
 split at h
 case h_2=>cases h
 rename_i e' he
 split at h
 case isFalse=>cases h
 rename_i hc
 simp only [Bool.and_eq_true,decide_eq_true_eq] at hc
 obtain ⟨⟨⟨⟨c1,c2⟩,c3⟩,c4⟩,c5⟩:=hc
 injection h with h
 subst h
 obtain ⟨q1,q2⟩:=fY ho
 exact ⟨o,q1,q2,fun hi hd=>DU hop he c1 (by simpa using c2) (Nat.le_of_ble_eq_true c3) c4 c5 hi hd⟩
theorem Ki {e d:Nat} {es:List (List PV)} (h:OB G ops k σ=some (e,es,d)):rG G ops k σ (.new d (.row e [] es) (.row (.top d) e)):=by
 unfold OB at h
 split at h
 case h_2=>cases h
 rename_i o ho
 split at h
 case h_2=>cases h
 rename_i t len parts hop
 split at h
 case h_2=>cases h
 rename_i e' he
 split at h
 case isFalse=>cases h
 rename_i hc
 simp only [Bool.and_eq_true,decide_eq_true_eq] at hc
 obtain ⟨⟨⟨⟨c1,c2⟩,c3⟩,c4⟩,c5⟩:=hc
 simp only [Option.some.injEq,Prod.mk.injEq] at h
 obtain ⟨rfl,rfl,rfl⟩:=h
 obtain ⟨q1,q2⟩:=fY ho
 exact ⟨o,q1,q2,fun hi hd=>DT hop he c1 (by simpa using c2) (Nat.le_of_ble_eq_true c3) c4 c5 hi hd⟩
def KV (G:Prg) (ops:Array Oper) (k:Nat) (σ:St):Option (PV×PV):=match vV ops k σ with
 | some o=>(match o.op with
   | .index t x ix=>(match G.P.underlying t with
     | some .string=>some (pev σ x,pev σ ix)
     | _=>none)
   | _=>none)
 | none=>none
theorem Pf {s:ByteArray} {i x:Int} {kd:IntKind} (h:KV G ops k σ=some (.lit (.string s),.lit (.int kd i))) (hx:Hj s i=some x):rG G ops k σ (.val (.lit (.int .u8 x))):=by
 unfold KV at h
 split at h
 case h_2=>cases h
 rename_i o ho
 split at h
 case h_2=>cases h
 rename_i t y z hop
 split at h
 case h_2=>cases h
 rename_i hu
 simp only [Option.some.injEq,Prod.mk.injEq] at h
 obtain ⟨h1,h2⟩:=h
 obtain ⟨q1,q2⟩:=fY ho
 refine ⟨o,q1,q2,fun hi hd=>?_⟩
 have r1:=hi.ev y
 rw [h1] at r1
 have r2:=hi.ev z
 rw [h2] at r2
 refine bK hi hd ?_ (.free _ _ (.lit _))
 unfold Hj at hx
 split at hx
 case isFalse=>cases hx
 rename_i h0
 obtain ⟨b,hb,rfl⟩:=Option.map_eq_some_iff.1 hx
 unfold execOp
 simp only [hop,r1.gO,r2.gO,Instr.index,asIntOf,Sem.run_bind,Sem.run_pure,Result.andThen_ok,run_underlying hu,h0,if_true,hb]
end
end Go.VI
namespace Go.VI
open Go.RowKit
theorem Zl {α:Type} {es ys:List α} {lo:Nat} (h:lo+ys.length≤es.length):(cpy es lo ys).length=es.length:=by unfold cpy;simp;omega
theorem LU {α:Type} {es ys:List α} {lo:Nat} (h:lo+ys.length≤es.length) (i:Nat):(cpy es lo ys)[i]?=if lo≤i∧i<lo+ys.length then ys[i-lo]? else es[i]?:=by
 have ht:(es.take lo).length=lo:=by simp;omega
 unfold cpy
 by_cases h1:i<lo
 ·rw [List.append_assoc,List.getElem?_append_left (by omega),List.getElem?_take,if_pos h1,if_neg (by omega)]
 ·by_cases h2:i<lo+ys.length
  ·rw [List.append_assoc,List.getElem?_append_right (by omega),ht,List.getElem?_append_left (by omega),if_pos ⟨by omega,h2⟩]
  ·rw [List.getElem?_append_right (by simp;omega),List.getElem?_drop,if_neg (by omega)]
   have:(List.take lo es++ys).length=lo+ys.length:=by simp;omega
   rw [this,show lo+ys.length+(i-(lo+ys.length))=i from by omega]
theorem LW {α β:Type} (f:α→β) (es ys:List α) (lo:Nat):(cpy es lo ys).map f=cpy (es.map f) lo (ys.map f):=by unfold cpy;simp
def Sr (h:HP) (g:Nat):PV→Option (Nat×Nat)
 | .row (.top g') _=>if Nat.beq g' g=true then (match h.get g with
   | some (.row _ _ es)=>some (0,es.length)
   | _=>none) else none
 | .part (.top g') _ lo n=>if Nat.beq g' g=true then some (lo,n) else none
 | _=>none
def GW (m g:Nat):PV→Option (Nat×Nat)
 | .row (.top g') _=>if Nat.beq g' g=true then some (0,m) else none
 | .part (.top g') _ lo n=>if Nat.beq g' g=true then some (lo,n) else none
 | _=>none
theorem LQ {h:HP} {g e m:Nat} {J:List (Nat×Nat)} {es:List (List PV)} (hg:h.get g=some (.row e J es)) (hm:es.length=m) (x:PV):Sr h g x=GW m g x:=by
 cases x with
 | row k0 e0 =>
   cases k0 with
   | top g0 =>
     simp only [Sr,GW]
     split
     ·rw [hg];simp [hm]
     ·rfl
   | sub=>rfl
 | part k0 e0 lo0 n0=>cases k0 <;> rfl
 | _=>rfl
theorem Si (c:Array Value) (m:Nat):c.toList.getD m undef=c.getD m undef:=by simp [Array.getD_eq_getD_getElem?]
section
variable {P:Program} {E:Ent} {S0:Nat→Prop} {N:Nat} {σ:St} {a:Act} {w:World} {c:Ctx}
theorem GX {e g lo n:Nat} {d:PV} {V:Value} {es:List (List PV)} {xs0:List Value} (r:iP P w c (.top g) e es (cX P w c g []) xs0) (hg:σ.hget g=some (.row e [] es)) (hd0:Sr σ.h g d=some (lo,n)) (rd:RV P w c d V) :
  ∃ B cc',V=.slice B n cc'∧(0<n→B=some ⟨c.τ (.top g),lo*aE P e,none⟩):=by
 cases rd with
 | free pv v hf=>cases hf <;> simp [Sr] at hd0
 | row k e' he h1 =>
   cases k with
   | sub=>simp [Sr] at hd0
   | top g' =>
     simp only [Sr] at hd0
     split at hd0
     case isFalse=>cases hd0
     rename_i hb
     have:=Nat.eq_of_beq_eq_true hb
     subst this
     rw [show σ.h.get g'=some (.row e [] es) from hg] at hd0
     simp only [Option.some.injEq,Prod.mk.injEq] at hd0
     obtain ⟨rfl,rfl⟩:=hd0
     rcases r.own.2 with ⟨h0,hn⟩ | ⟨g2,cap,cur,h0,_⟩
     ·exact ⟨none,0,by rw [h0,hn],fun q=>by omega⟩
     ·have hob:(c.hd (.top g')).ownBlock=some g2:=by rw [h0];rfl
      obtain ⟨_,hτ⟩:=r.blk g2 hob
      exact ⟨_,cap,h0,fun _=>by rw [hτ,Nat.zero_mul]⟩
 | part k e' lo' n' B cc' he hn hB =>
   cases k with
   | sub=>simp [Sr] at hd0
   | top g' =>
     simp only [Sr] at hd0
     split at hd0
     case isFalse=>cases hd0
     rename_i hb
     have:=Nat.eq_of_beq_eq_true hb
     subst this
     simp only [Option.some.injEq,Prod.mk.injEq] at hd0
     obtain ⟨rfl,rfl⟩:=hd0
     have e1:e'=e:=he.symm.trans r.ty
     subst e1
     exact ⟨B,cc',rfl,hB⟩
 | _=>simp [Sr] at hd0
theorem KC {e g lo m:Nat} {es xs:List (List PV)} {xs0 news:List Value} (r:iP P w c (.top g) e es (cX P w c g []) xs0) (hlen:∀ l ∈ xs,l.length=aE P e) (hnl:news.length=xs.length*aE P e) (hone:∀ u ∈ news,u.oneCell'=true)
  (hrep:∀ i j pv,cP xs i j=some pv→RF w c.S pv (news.getD (i*aE P e+j) undef)) (hm1:m≤xs.length) (hfit:lo+m≤es.length) (hmp:0<m) (h:Inv P E S0 N σ a w c) :
  ∃ (g':Nat) (cur:Array Value),c.τ (.top g)=g'∧(∃ cap',c.hd (.top g)=.slice (some ⟨g',0,none⟩) es.length cap')∧(storeCells ⟨g',lo*aE P e,none⟩ (news.take (m*aE P e))).run P w=.ok () (w.setRow g' (jO cur (lo*aE P e) (news.take (m*aE P e)))) ∧
    Inv P E S0 N (σ.put g (.row e [] (cpy es lo (xs.take m)))) a (w.setRow g' (jO cur (lo*aE P e) (news.take (m*aE P e)))) c:=by
 have hyl:(xs.take m).length=m:=by simp;omega
 obtain ⟨hl,⟨_,hn⟩ | ⟨g',cap',cur,hv,hb,hgc,hnc,hcm,hcs,htake⟩⟩:=r.own
 ·omega
 have hob:(c.hd (.top g)).ownBlock=some g':=by rw [hv];rfl
 obtain ⟨hDk,hτ⟩:=r.blk g' hob
 let ns:=news.take (m*aE P e)
 have hmul:m*aE P e≤news.length:=by rw [hnl];exact Nat.mul_le_mul_right _ hm1
 have hnsl:ns.length=m*aE P e:=by simp only [ns,List.length_take];omega
 have hns1:∀ v ∈ ns,v.oneCell'=true:=fun v hv'=>hone v (List.mem_of_mem_take hv')
 have hfit2:lo*aE P e+ns.length≤cur.size:=by
  rw [hnsl,hcs,← Nat.add_mul]
  exact Nat.mul_le_mul_right _ (by omega)
 have hst:=run_storeCells_at (P:=P) g' (lo*aE P e) e ns 0 cur w hgc (by simpa using hfit2) hns1
 simp only [Nat.add_zero] at hst
 let c1:=jO cur (lo*aE P e) ns
 have hst':(storeCells ⟨g',lo*aE P e,none⟩ ns).run P w=.ok () (w.setRow g' c1):=by simpa [c1,jO] using hst
 have hcl:=Zl (es:=es) (ys:=xs.take m) (lo:=lo) (by omega)
 have hkl:∀ l ∈ cpy es lo (xs.take m),l.length=aE P e:=fun l hl'=>by
  unfold cpy at hl'
  simp only [List.mem_append] at hl'
  rcases hl' with (q | q) | q
  ·exact r.len l (List.mem_of_mem_take q)
  ·exact hlen l (List.mem_of_mem_take q)
  ·exact r.len l (List.mem_of_mem_drop q)
 have hgE:∀ i j pv,cP (cpy es lo (xs.take m)) i j=some pv→(lo≤i∧i<lo+m∧cP xs (i-lo) j=some pv)∨(¬ (lo≤i∧i<lo+m)∧cP es i j=some pv):=fun i j pv hg'=>by
  unfold cP at hg' ⊢
  rw [LU (by omega),hyl] at hg'
  split at hg'
  ·rename_i q
   rw [List.getElem?_take,if_pos (by omega)] at hg'
   exact .inl ⟨q.1,q.2,hg'⟩
  ·rename_i q
   exact .inr ⟨q,hg'⟩
 have hval : ∀ i j,j<aE P e→i<es.length→c1.getD (i*aE P e+j) undef=if lo≤i∧i<lo+m then news.getD ((i-lo)*aE P e+j) undef else xs0.getD (i*aE P e+j) undef:=fun i j hj hi=>by
  have hlt:=mZ hi hj
  rw [wV hfit2,hnsl]
  have iff_:(lo*aE P e≤i*aE P e+j∧i*aE P e+j<lo*aE P e+m*aE P e)↔(lo≤i∧i<lo+m):=by
   rw [← Nat.add_mul]
   constructor
   ·rintro ⟨q1,q2⟩
    refine ⟨?_, ?_⟩
    ·rcases Nat.lt_or_ge i lo with q | q
     ·have:=Nat.mul_le_mul_right (aE P e) (show i+1≤lo from q)
      rw [Nat.add_mul] at this;omega
     ·exact q
    ·rcases Nat.lt_or_ge i (lo+m) with q | q
     ·exact q
     ·have:=Nat.mul_le_mul_right (aE P e) q;omega
   ·rintro ⟨q1,q2⟩
    have h1:=Nat.mul_le_mul_right (aE P e) q1
    have h2:=Nat.mul_le_mul_right (aE P e) (show i+1≤lo+m from q2)
    rw [Nat.add_mul] at h2
    omega
  by_cases q:lo≤i∧i<lo+m
  ·rw [if_pos (iff_.2 q),if_pos q]
   have e1:i*aE P e+j-lo*aE P e=(i-lo)*aE P e+j:=by rw [Nat.sub_mul];have:=Nat.mul_le_mul_right (aE P e) q.1;omega
   have hin:(i-lo)*aE P e+j<m*aE P e:=mZ (by omega) hj
   rw [e1,tJ _ _ _ hin]
  ·rw [if_neg (fun hh=>q (iff_.1 hh)),if_neg q,← htake,tJ _ _ _ hlt]
   simp [Array.getD_eq_getD_getElem?]
 have hrow:mX P (w.setRow g' c1) c g (.row e [] (cpy es lo (xs.take m))):=by
  have hh':(w.setRow g' c1).heap[g']?=some (.cells c1 e (0,0)):=by
   unfold World.setRow
   rw [Array.getElem?_modify,if_pos rfl,hgc];rfl
  refine ⟨c1.toList.take (es.length*aE P e),r.ty,r.pos,hkl, ?_,r.blk,fun i j pv hg'=>?_,fun i j pv hg'=>?_⟩
  ·rw [hcl]
   have hc1:c1.size=cur.size:=Ce hfit2
   refine ⟨?_,.inr ⟨g',cap',c1,hv,hb,hh',hnc,hcm,by rw [hc1,hcs],rfl⟩⟩
   simp only [List.length_take,Array.length_toList,hc1,hcs]
   have:=Nat.mul_le_mul_right (aE P e) hnc
   omega
  ·have hlt:=lB hkl hg'
   rw [hcl] at hlt
   rw [tJ _ _ _ (mZ hlt.1 hlt.2),Si,hval i j hlt.2 hlt.1]
   rcases hgE i j pv hg' with ⟨q1,q2,q3⟩ | ⟨q1,q3⟩
   ·rw [if_pos ⟨q1,q2⟩]
    have hlt2:=lB hlen q3
    have hin:=mZ hlt2.1 hlt2.2
    rw [← hnl] at hin
    rw [List.getD_eq_getElem?_getD,List.getElem?_eq_getElem hin]
    exact hone _ (List.getElem_mem hin)
   ·rw [if_neg q1];exact r.one i j pv q3
  ·have hlt:=lB hkl hg'
   rw [hcl] at hlt
   rw [tJ _ _ _ (mZ hlt.1 hlt.2),Si,hval i j hlt.2 hlt.1]
   have hsame:Cj c.S w (w.setRow g' c1):=fun b hS=>setRow_other w g' b c1 fun q=>(h.ok.hD _ hDk).2.2 (by rw [hτ];exact q ▸ hS)
   have lift:∀ {v:Value},RF w c.S pv v→RF (w.setRow g' c1) c.S pv v:=fun hr=>RF.same hsame (fun _ h=>h) hr
   have:RF (w.setRow g' c1) c.S pv (if lo≤i∧i<lo+m then news.getD ((i-lo)*aE P e+j) undef else xs0.getD (i*aE P e+j) undef):=by
    rcases hgE i j pv hg' with ⟨q1,q2,q3⟩ | ⟨q1,q3⟩
    ·rw [if_pos ⟨q1,q2⟩];exact lift (hrep _ _ pv q3)
    ·rw [if_neg q1];exact lift (r.rep i j pv q3)
   exact this
 have hinv:=h.write (k0:=.top g) hDk c1 (o:=.row e [] (cpy es lo (xs.take m))) (by rw [hτ];exact hrow)
 rw [hτ] at hinv
 exact ⟨g',cur,hτ,⟨cap',hv⟩,hst',hinv⟩
theorem Je (z:Array Value) (n:Nat):(Builtin.zeroCells z n).toList.length=n*z.size:=by simp [Builtin.zeroCells]
theorem Tf {z:Array Value} {n i j:Nat} (hi:i<n) (hj:j<z.size):(Builtin.zeroCells z n).toList.getD (i*z.size+j) undef=z.getD j undef:=by
 have hlt:i*z.size+j<n*z.size:=mZ hi hj
 have hmod:(i*z.size+j)%z.size=j:=by rw [Nat.add_comm,Nat.add_mul_mod_self_right,Nat.mod_eq_of_lt hj]
 have hlt2:i*z.size+j<(Array.range (n*z.size)).size:=by simpa using hlt
 have hz:0<z.size:=by omega
 simp only [Builtin.zeroCells,Array.toList_map,Array.toList_range,List.getD_eq_getElem?_getD,List.getElem?_map,List.getElem?_range hlt,Option.map_some,Option.getD_some,hmod]
 rw [getElem!_pos z j hj]
 simp [Array.getD_eq_getD_getElem?,hj]
theorem GZ {o:Oper} {t e g lo n:Nat} {d:Operand} {es:List (List PV)} {z:Value} (ho:o.op=.call { callee:=.builtin .clear,args:=#[d],argTypes:=#[t] }) (ht:jQ P t=some e) (hz:Ay P e=some z) (hrow:yZ P e=true) (hz1:z.cells.toList.all Value.oneCell'=true)
  (hg:σ.hget g=some (.row e [] es)) (hd0:Sr σ.h g (pev σ d)=some (lo,n)) (hfit:lo+n≤es.length) (h:Inv P E S0 N σ a w c) (hd:∀ k,o.dst=some k→k<N) :
  tR P E S0 N o a w (Res.put σ o.dst ⟨[],[(g,.row e [] (cpy es lo (List.replicate n (z.cells.toList.map ofE))))],.tup []⟩):=by
 obtain ⟨i,z',hi,hz',hsz,hby,hzs,hsize⟩:=rF hrow
 obtain rfl:z'=z:=by unfold Ay at hz;simp [hi,hz'] at hz;exact hz
 obtain ⟨xs0,r⟩:=h.eZ g _ hg
 have hk0:=r.pos
 obtain ⟨B,cc',hV,hB⟩:=GX r hg hd0 (h.ev d)
 have hu:=lN ht
 have hzv:(zeroValue e).run P w=.ok z' w:=by simp [zeroValue,typeInfo,hi,hz']
 have hval:∀ {w':World},(Builtin.clear_ #[t] o.type #[a.eval d]).run P w=.ok (.tuple #[]) w'→(execOp a.eval o).run P w=.ok (.value (.tuple #[])) w':=fun hrun=>by
  unfold execOp
  simp only [ho,resolve,invoke,builtin,Sem.run_bind,Sem.run_pure,Result.andThen_ok,List.map_toArray,List.map_cons,List.map_nil,hrun]
 rcases Nat.eq_zero_or_pos n with hn0 | hnp
 ·subst hn0
  have hrun:(Builtin.clear_ #[t] o.type #[a.eval d]).run P w=.ok (.tuple #[]) w:=by
   rw [hV]
   unfold Builtin.clear_
   cases B <;> simp only [List.getElem?_toArray,List.getElem?_cons_zero,Sem.run_bind,run_underlying hu,Result.andThen_ok,Sem.run_pure]
  have hes:cpy es lo (List.replicate 0 (z'.cells.toList.map ofE))=es:=by unfold cpy;simp
  rw [hes]
  have hinv:Inv P E S0 N (σ.put g (.row e [] es)) a w c:=by
   refine ⟨h.below,h.ok,h.sub,h.sup,h.slots,fun g' o' hg'=>?_,h.pin,h.small,h.size,h.defers⟩
   rw [dA] at hg'
   split at hg'
   ·rename_i e';subst e';injection hg' with hg';subst hg';exact h.eZ _ _ hg
   ·exact h.eZ g' o' hg'
  exact lO (σ:=σ) (r:=⟨[],[(g,.row e [] es)],.tup []⟩) (c':=c) hd (.inl (hval hrun)) hinv (.free _ _ (.tup _ _ rfl (by simp)))
 ·have hzl:(z'.cells.toList.map ofE).length=aE P e:=by simp [hzs,hsize]
  have hzn:z'.cells.size=aE P e:=by rw [hzs,hsize]
  obtain ⟨g',cur,hτ,⟨cap',hhd⟩,hst,hinv⟩:=KC (m:=n) (lo:=lo) (xs:=List.replicate n (z'.cells.toList.map ofE)) (news:=(Builtin.zeroCells z'.cells n).toList) r (fun l hl=>by rw [List.eq_of_mem_replicate hl];exact hzl) (by rw [Je,List.length_replicate,hzn])
   (fun u hu'=>by
    obtain ⟨q,hq⟩:=List.mem_iff_getElem?.1 hu'
    have hql:=bS hq
    simp only [Builtin.zeroCells,Array.toList_map,Array.toList_range] at hq
    rw [List.getElem?_map] at hq
    obtain ⟨v,hv,rfl⟩:=Option.map_eq_some_iff.1 hq
    have hpos:0<z'.cells.size:=by omega
    have hm:=Nat.mod_lt v hpos
    rw [getElem!_pos z'.cells _ hm]
    exact List.all_eq_true.1 hz1 _ (by simp))
   (fun i j pv hgE=>by
    unfold cP at hgE
    rw [List.getElem?_replicate] at hgE
    split at hgE
    case isFalse=>cases hgE
    rename_i hi'
    simp only [Option.bind_some,List.getElem?_map] at hgE
    obtain ⟨u,hu',rfl⟩:=Option.map_eq_some_iff.1 hgE
    have hj:j<z'.cells.size:=by have:=bS hu';simpa using this
    rw [← hzn,Tf hi' hj]
    have:z'.cells.getD j undef=u:=by
     rw [Array.getElem?_toList] at hu'
     simp [Array.getD_eq_getD_getElem?,hu']
    rw [this]
    exact JM w c.S u) (by simp) hfit hnp h
  have htk:((Builtin.zeroCells z'.cells n).toList.take (n*aE P e))=(Builtin.zeroCells z'.cells n).toList:=List.take_of_length_le (by rw [Je,hzn];exact Nat.le_refl _)
  have htr:(List.replicate n (z'.cells.toList.map ofE)).take n=List.replicate n (z'.cells.toList.map ofE):=List.take_of_length_le (by simp)
  rw [htk] at hst
  rw [htr] at hinv
  have hBs:=hB hnp
  have hrun:(Builtin.clear_ #[t] o.type #[a.eval d]).run P w=.ok (.tuple #[]) (w.setRow g' (jO cur (lo*aE P e) (Builtin.zeroCells z'.cells n).toList)):=by
   rw [hV,hBs,hτ]
   obtain ⟨n',rfl⟩:∃ n',n=n'+1:=⟨n-1,by omega⟩
   unfold Builtin.clear_
   simp only [List.getElem?_toArray,List.getElem?_cons_zero,Sem.run_bind,run_underlying hu,Result.andThen_ok,hzv,hst,Sem.run_pure]
  exact lO (σ:=σ) (r:=⟨[],[(g,.row e [] (cpy es lo (List.replicate n (z'.cells.toList.map ofE))))],.tup []⟩) (c':=c) hd (.inl (hval hrun)) (by rw [htk] at hinv;exact hinv) (.free _ _ (.tup _ _ rfl (by simp)))
end
section
variable {G:Prg} {ops:Array Oper} {k:Nat} {σ:St} {K:St→Prop}
theorem JS {α:Type} {l:List α} {lo hi:Int} (h:(decide (0≤lo)&&(decide (lo≤hi)&&decide (hi≤(l.length:Int))))=true):lo.toNat+(hi.toNat-lo.toNat)≤l.length:=by
 simp only [Bool.and_eq_true,decide_eq_true_eq] at h
 omega
theorem DC {α:Type} {c:α→List PV} {l:List α} {kk:Key} {e sz:Nat} {k1:IntKind} {lo:Int} (h:KW G ops k σ=some (.row kk e,sz,some (.lit (.int k1 lo)),none)) (hr:σ.h.rowAt kk=some (l.map c)) (hs:∀ y,(c y).length=sz)
  (hb:(decide (0≤lo)&&(decide (lo≤(l.length:Int))&&decide ((l.length:Int)≤(l.length:Int))))=true):eB G ops k σ=some (.val (.part kk e lo.toNat ((l.length:Int).toNat-lo.toNat))):=by
 simp only [Bool.and_eq_true,decide_eq_true_eq] at hb
 exact QM h hr hs (by simp only [loN,yU hb.1]) (by simp only [hiN];congr 1) ⟨by omega,by omega⟩
def OC (G:Prg) (ops:Array Oper) (k:Nat) (σ:St):Option (PV×Nat×List PV):=match vV ops k σ with
 | some o=>(match o.op with
   | .call { callee:=.builtin .clear,args:=args,argTypes:=tys }=>(match args.toList,tys.toList with
     | [d],[t]=>(match jQ G.P t with
       | some e=>(match Ay G.P e with
         | some z=>if (yZ G.P e&&z.cells.toList.all Value.oneCell')=true then some (pev σ d,e,z.cells.toList.map ofE) else none
         | none=>none)
       | none=>none)
     | _,_=>none)
   | _=>none)
 | none=>none
theorem GJ {α:Type} {c:α→List PV} {l:List α} {z:α} {d:PV} {e g lo n:Nat} {zs:List PV} (h:OC G ops k σ=some (d,e,zs)) (hg:σ.h.get g=some (.row e [] (l.map c))) (hd:GW l.length g d=some (lo,n)) (hfit:lo+n≤l.length) (hz:zs=c z) :
  rG G ops k σ ⟨[],[(g,.row e [] ((cpy l lo (List.replicate n z)).map c))],.tup []⟩:=by
 unfold OC at h
 split at h
 case h_2=>cases h
 rename_i o ho
 split at h
 case h_2=>cases h
 rename_i args tys hop
 split at h
 case h_2=>cases h
 rename_i d' t hargs htys
 split at h
 case h_2=>cases h
 rename_i e' he
 split at h
 case h_2=>cases h
 rename_i z' hz'
 split at h
 case isFalse=>cases h
 rename_i hc
 simp only [Bool.and_eq_true] at hc
 simp only [Option.some.injEq,Prod.mk.injEq] at h
 obtain ⟨rfl,rfl,h3⟩:=h
 obtain ⟨q1,q2⟩:=fY ho
 obtain rfl:args=#[d']:=Array.toList_inj.1 hargs
 obtain rfl:tys=#[t]:=Array.toList_inj.1 htys
 refine ⟨o,q1,q2,fun hi hdd=>?_⟩
 have:=GZ (n:=n) (lo:=lo) hop he hz' hc.1 hc.2 hg (by rw [LQ hg (List.length_map _)];exact hd) (by simpa using hfit) hi hdd
 rw [h3,hz,← List.map_replicate,← LW] at this
 exact this
def cutAt (G:Prg) (ops:Array Oper) (k:Nat) (σ:St):Option (PV×Nat×PV):=match vV ops k σ with
 | some o=>(match o.op with
   | .slice t x none (some y) none=>(match jQ G.P t with
     | some e=>if (G.P.info? e).isSome=true then some (pev σ x,e,pev σ y) else none
     | none=>none)
   | _=>none)
 | none=>none
theorem PA {α:Type} {c:α→List PV} {l l':List α} {e g:Nat} {J:List (Nat×Nat)} {k2:IntKind} {hi:Int} (h:cutAt G ops k σ=some (.row (.top g) e,e,.lit (.int k2 hi))) (hg:σ.h.get g=some (.row e J (l.map c))) (hp:Nat.blt g PIN=true) (hl:slc l 0 hi=some l') :
  rG G ops k σ ⟨[cO g],[(g,.row e J (l'.map c))],.row (.top g) e⟩:=by
 obtain ⟨⟨h1,h2,h3⟩,rfl⟩:=RP hl
 unfold cutAt at h
 split at h
 case h_2=>cases h
 rename_i o ho
 split at h
 case h_2=>cases h
 rename_i t x y hop
 split at h
 case h_2=>cases h
 rename_i e' he
 split at h
 case isFalse=>cases h
 rename_i hinf
 simp only [Option.some.injEq,Prod.mk.injEq] at h
 obtain ⟨hx,rfl,hy⟩:=h
 obtain ⟨q1,q2⟩:=fY ho
 refine ⟨o,q1,q2,fun hi' hdd=>?_⟩
 have:=PJ (n:=hi.toNat) hop he hinf (by simpa using hp) hx (by rw [hy];exact yU h2) hg (by simp;omega) hi' hdd
 rw [← List.map_take] at this
 simpa using this
theorem Rf {α:Type} {l:List α} {lo n:Nat} {i:Int} {x:α} (h:idx ((l.drop lo).take n) i=some x):l[lo+i.toNat]?=some x:=by
 obtain ⟨_,h1⟩:=Dw h
 rw [List.getElem?_take] at h1
 split at h1
 ·rwa [List.getElem?_drop] at h1
 ·cases h1
theorem NQ {kk:Key} {e lo n:Nat} (h:Iw G ops k σ=some (.part kk e lo n)):eB G ops k σ=some (.val (.lit (.int .i64 n))):=by
 unfold Iw at h
 split at h
 case h_2=>cases h
 rename_i o ho
 split at h
 case h_2=>cases h
 rename_i cl hop
 split at h
 case h_2=>cases h
 rename_i hcal
 split at h
 case h_2=>cases h
 rename_i a t hargs hty
 split at h
 case h_2=>cases h
 rename_i e he
 injection h with h
 refine xK ho (by rw [hop];simp only [lP,hcal]) ?_
 rw [hop]
 simp only [jP,My,hcal,hargs,hty,he,h,Ot]
 rfl
end
end Go.VI
namespace Go.VI
open Go.RowKit
section
variable {P:Program} {E:Ent} {S0:Nat→Prop} {N:Nat} {σ:St} {a:Act} {w:World} {c:Ctx}
def NW (P:Program) (E:Ent) (o:Oper) (a:Act) (w:World) (c:Ctx) (g e:Nat) (ob:HO):Prop:=
 ∃ (v:Value) (w':World) (c':Ctx),(execOp a.eval o).run P w=.ok (.value v) w'∧E.Fr w'∧c'.Ok E.M w'∧Cj c.S w w'∧(∀ b,c'.S b↔c.S b)∧(∀ k,k.tag≠g→Agree c c' k) ∧
   (∀ k,c.D k→k.tag≠g→w'.heap[c.τ k]?=w.heap[c.τ k]?∧c'.D k)∧mX P w' c' g ob∧RV P w' c' (.row (.top g) e) v
theorem renamed {o:Oper} {g d e:Nat} {ob:HO} (hgd:d≠g) (hdp:d<PIN) (hgp:g<PIN) (h:Inv P E S0 N σ a w c) (hcl:Clean [d] σ) (hd:∀ k,o.dst=some k→k<N) {eR:Nat} {J:List (Nat×Nat)} {es:List (List PV)} (hob:ob=.row eR J es) (hdo:NW P E o a w c g e ob)
  (next:Act→World→Prop) (Q:Exit→Act→World→Prop) (hn:∀ a' w' c',Inv P E S0 N (σ.act o.dst ⟨[g],[(d,ob)],.row (.top d) e⟩) a' w' c'→next a' w'):o.wp P a w next Q:=by
 obtain ⟨v,w',c1,hrun,below,hok,hS,hSS,hag,hkeep,hrep,hrv⟩:=hdo
 let c2:Ctx:=⟨c1.S,fun k=>if k.tag=d then c1.τ (k.cC g) else if k.tag=g then c.τ k else c1.τ k,fun k=>if k.tag=d then c1.hd (k.cC g) else if k.tag=g then c.hd k else c1.hd k,
  fun k=>if k.tag=d then c1.ty (k.cC g) else if k.tag=g then c.ty k else c1.ty k,fun k=>if k.tag=d then c1.D (k.cC g) else if k.tag=g then False else c1.D k⟩
 have atd:∀ k:Key,k.tag=d→c2.τ k=c1.τ (k.cC g)∧c2.hd k=c1.hd (k.cC g)∧c2.ty k=c1.ty (k.cC g)∧(c2.D k↔c1.D (k.cC g)):=fun k hk=>by simp [c2,hk]
 have off:∀ k:Key,k.tag≠d→Agree c c2 k:=fun k hk=>by
  by_cases hg:k.tag=g
  ·simp [Agree,c2,hg,Ne.symm hgd]
  ·obtain ⟨q1,q2,q3⟩:=hag k hg
   simp [Agree,c2,hk,hg,q1,q2,q3]
 have Dof:∀ k:Key,k.tag≠d→(c2.D k↔k.tag≠g∧c1.D k):=fun k hk=>by
  by_cases hg:k.tag=g
  ·simp [c2,hg,Ne.symm hgd]
  ·simp [c2,hk,hg]
 have phi:∀ k,c2.D k→∃ k0,c1.D k0∧c2.τ k=c1.τ k0∧((k.tag=d∧k0=k.cC g)∨(k.tag≠d∧k.tag≠g∧k0=k)):=fun k hk=>by
  by_cases hkd:k.tag=d
  ·obtain ⟨q1,_,_,q4⟩:=atd k hkd
   exact ⟨_,q4.1 hk,q1,.inl ⟨hkd,rfl⟩⟩
  ·obtain ⟨q1,q2⟩:=(Dof k hkd).1 hk
   exact ⟨k,q2,by simp [c2,hkd,q1],.inr ⟨hkd,q1,rfl⟩⟩
 have ok2:c2.Ok E.M w':=by
  refine ⟨hok.hS,fun k hk=>?_,fun k k' hk hk' he=>?_⟩
  ·obtain ⟨k0,q1,q2,_⟩:=phi k hk
   rw [q2];exact hok.hD k0 q1
  ·obtain ⟨k0,q1,q2,q3⟩:=phi k hk
   obtain ⟨k1,p1,p2,p3⟩:=phi k' hk'
   rw [q2,p2] at he
   have e0:=hok.inj _ _ q1 p1 he
   rcases q3 with ⟨a1,rfl⟩ | ⟨a1,a2,rfl⟩ <;> rcases p3 with ⟨b1,rfl⟩ | ⟨b1,b2,rfl⟩
   ·exact Ii e0 (by rw [a1,b1])
   ·exact absurd (by rw [← e0,nE]) b2
   ·exact absurd (by rw [e0,nE]) a2
   ·exact e0
 have hS2:∀ b,c.S b→c2.S b:=fun b hb=>(hSS b).2 hb
 have av:∀ pv:PV,eK [d] pv=true→pv.has (cO d)=false:=fun pv hpv=>by simpa [eK] using hpv
 have rv2:RV P w' c2 (.row (.top d) e) v:=by
  generalize hX:PV.row (.top g) e=X at hrv
  cases hrv with
  | free _ _ hf=>subst hX;cases hf
  | row k e' he h1 =>
    injection hX with q1 q2
    subst q1 q2
    obtain ⟨q1,q2,q3,_⟩:=atd (.top d) rfl
    have:=RV.row (P:=P) (w:=w') (c:=c2) (.top d) e (q3.trans he) (by rw [q2];exact h1)
    rwa [q2] at this
  | _=>cases hX
 have hrepd:mX P w' c2 d ob:=by
  subst hob
  obtain ⟨xs,r⟩:=hrep
  obtain ⟨q1,q2,q3,q4⟩:=atd (.top d) rfl
  refine ⟨xs,r.cC (k':=.top d) q1 q2 q3 q4.2 fun i j pv v hgE hc=>?_⟩
  unfold cX at hc ⊢
  split at hc
  ·exact hc
  ·rcases hc with hc | ⟨h1,es',xs',rfl,r'⟩
   ·exact .inl hc
   obtain ⟨p1,p2,p3,p4⟩:=atd (.sub d i j) rfl
   exact .inr ⟨h1.trans p2.symm,es',xs',rfl,r'.cC (k':=.sub d i j) p1 p2 p3 p4.2 fun _ _ _ _ _ q=>q⟩
 have hinv : Inv P E S0 N ⟨σ.s,[(d,ob)]++σ.h.Cn [g]⟩ a w' c2:=by
  refine ⟨below,ok2,fun b hb=>hS2 b (h.sub b hb),fun b hb=>h.sup b ((hSS b).1 hb),fun i=>?_,fun g' o' hg'=>?_,fun k hk=>?_,h.small,h.size,h.defers⟩
  ·exact (h.slots i).keep (p:=cO d) hS hS2 (fun k hk=>off k (kC.1 hk)) (av _ (hcl.1 i))
  ·have e1 : (⟨σ.s,[(d,ob)]++σ.h.Cn [g]⟩:St).hget g'=HP.get ([(d,ob)]++σ.h.Cn [g]) g':=rfl
   rw [e1,Bf,Xd] at hg'
   by_cases hd':g'=d
   ·subst hd'
    simp only [HP.get,Nat.beq_refl,if_true,Option.some.injEq] at hg'
    subst hg';exact hrepd
   ·simp only [HP.get,oF hd',Bool.false_eq_true,if_false,List.mem_singleton] at hg'
    split at hg'
    ·cases hg'
    rename_i hne
    have r:=h.eZ g' o' hg'
    have hk:∀ k:Key,k.tag=g'→cO d k=false:=fun k hk=>kC.2 (by rw [hk];exact hd')
    have hD:∀ k:Key,k.tag=g'→c.D k→w'.heap[c.τ k]?=w.heap[c.τ k]?∧c2.D k:=fun k hk hDk=>by
     obtain ⟨q1,q2⟩:=hkeep k hDk (by rw [hk];exact hne)
     exact ⟨q1,(Dof k (by rw [hk];exact hd')).2 ⟨by rw [hk];exact hne,q2⟩⟩
    have:=r.vJ (c':=c2) (p:=cO d) hS hS2 (fun k hk=>off k (kC.1 hk)) hk hD
    have e2:o'.kill (cO d)=o':=by
     have:=(hcl.2 g' o' hg').2
     cases o' with
     | box cs =>
       simp only [HO.kill]
       congr 1
       have:∀ l:List PV,l.all (eK [d])=true→PV.pS (cO d) l=l:=by
        intro l
        induction l with
        | nil=>intro _;rfl
        | cons x l ih=>intro hl;simp only [List.all_cons,Bool.and_eq_true] at hl;simp only [PV.pS,wM _ x (av x hl.1),ih hl.2]
       exact this cs (by assumption)
     | _=>rfl
    rwa [e2] at this
  ·obtain ⟨q1,q2,q3⟩:=h.pin k hk
   obtain ⟨p1,p2,p3⟩:=off (.top k) (show k≠d by omega)
   exact ⟨p1.trans q1,p2.trans q2,p3.trans q3⟩
 unfold Oper.wp
 rw [hrun,Oper.upon_value]
 exact hn _ _ c2 (hinv.put o.dst hd rv2)
end
section
variable {G:Prg} {ops:Array Oper} {k:Nat} {σ:St} {K:St→Prop}
end
end Go.VI
namespace Go.VI
theorem gG {α A S R:Type} (l:List α) (mk:Nat→A→S) (body:S→Option (S ⊕ R)) (r:A→R) (I:Nat→A→Prop) (a0:A) (h0:I 0 a0)
  (step:∀ (k:Nat) (x:α) (a:A),l[k]?=some x→I k a→∃ a',body (mk k a)=some (.inl (mk (k+1) a'))∧I (k+1) a') (fin:∀ a,I l.length a→body (mk l.length a)=some (.inr (r a))) :
  ∃ a,aH body (mk 0 a0)=some (r a)∧I l.length a:=by
 have key:∀ (n k:Nat) (a:A),k+n=l.length→I k a→∃ a',aH body (mk k a)=some (r a')∧I l.length a':=by
  intro n
  induction n with
  | zero =>
    intro k a h hI;obtain rfl:k=l.length:=by omega
    exact ⟨a,fQ (fin a hI),hI⟩
  | succ n ih =>
    intro k a h hI
    have hx:l[k]?=some l[k]:=by simp
    obtain ⟨a',q1,q2⟩:=step k l[k] a hx hI
    rw [jS q1]
    exact ih (k+1) a' (by omega) q2
 exact key l.length 0 a0 (by omega) h0
theorem aV {α:Type} {l:List α} {k:Nat} {x:α} (h:l[k]?=some x):k<l.length:=(List.getElem?_eq_some_iff.1 h).1
theorem bH (k:Nat) (h:(k:Int)<9223372036854775807):aJ (k:Int) 1=((k+1:Nat):Int):=by rw [aP (by omega) (by omega)];omega
end Go.VI
namespace Go.VI
open Go.RowKit
def tV (g T n:Nat):Key→Key
 | .top q=>.top q
 | .sub q i j=>if q=g∧n≤i then .sub T (i-n) j else .sub q i j
def Li (g T:Nat) (k:Key):Bool:=cO g k || cO T k
def Ctx.join (c:Ctx) (g T n b:Nat) (v:Value) (e:Nat):Ctx:=
 ⟨c.S,fun k=>if k=.top g then b else c.τ (tV g T n k),fun k=>if k=.top g then v else c.hd (tV g T n k),fun k=>if k=.top g then e else c.ty (tV g T n k),
  fun k=>if k=.top g then v.ownBlock.isSome=true else k.tag≠T∧c.D (tV g T n k)⟩
theorem EU {g T n:Nat} {k k':Key} (h1:k.tag≠T) (h2:k'.tag≠T) (h:tV g T n k=tV g T n k'):k=k':=by
 cases k with
 | top q=>cases k' with
   | top q'=>exact h
   | sub q' i' j'=>simp only [tV] at h;split at h <;> cases h
 | sub q i j=>cases k' with
   | top q'=>simp only [tV] at h;split at h <;> cases h
   | sub q' i' j' =>
     simp only [tV] at h
     simp only [Key.tag] at h1 h2
     split at h <;> split at h
     ·rename_i a b;injection h with _ e1 e2;rw [a.1,b.1,e2,show i=i' from by omega]
     ·injection h with e1;exact absurd e1.symm h2
     ·injection h with e1;exact absurd e1 h1
     ·exact h
theorem Ua {g T n:Nat} {k:Key} (h:tV g T n k=.top g):k=.top g:=by
 cases k with
 | top q=>exact h
 | sub q i j=>simp only [tV] at h;split at h <;> cases h
theorem Nu {g T n:Nat} {k:Key} (h:k.tag≠g):tV g T n k=k:=by
 cases k with
 | top q=>rfl
 | sub q i j=>simp only [tV];rw [if_neg];exact fun q=>h q.1
section
variable {P:Program} {E:Ent} {S0:Nat→Prop} {N:Nat} {σ:St} {a:Act} {w:World} {c:Ctx}
theorem Zi {o:Oper} {t e g T:Nat} {s x:Operand} {J:List (Nat×Nat)} {es es2:List (List PV)} (ho:o.op=.call { callee:=.builtin .append,args:=#[s,x],argTypes:=#[t,t] }) (ht:jQ P t=some e) (hrow:yZ P e=true)
  (hs:pev σ s=.row (.top g) e) (hx:pev σ x=.row (.top T) e) (hgR:σ.hget g=some (.row e J es)) (hgT:σ.hget T=some (.row e J es2)) (hne:T≠g) (hg:g<PIN) (hT:T<PIN) (hlim:es.length+es2.length≤LIM)
  (h:Inv P E S0 N σ a w c) (hd:∀ k,o.dst=some k→k<N):tR P E S0 N o a w (Res.put σ o.dst ⟨[Li g T],[(g,.row e J (es++es2))],.row (.top g) e⟩):=by
 have rs:=h.ev s
 have rx:=h.ev x
 rw [hs] at rs
 rw [hx] at rx
 obtain ⟨i,z,hi,hz,hsz,hby,hzs,hsize⟩:=rF hrow
 have hu:=lN ht
 have hV:a.eval s=c.hd (.top g):=by
  generalize a.eval s=X at rs
  cases rs with
  | free _ _ hf=>cases hf
  | row=>rfl
 have hX:a.eval x=c.hd (.top T):=by
  generalize a.eval x=X at rx
  cases rx with
  | free _ _ hf=>cases hf
  | row=>rfl
 have hexec:∀ v' w',(Builtin.append_ #[t,t] o.type #[a.eval s,a.eval x]).run P w=.ok v' w'→(execOp a.eval o).run P w=.ok (.value v') w':=by
  intro v' w' hrun
  unfold execOp
  simp only [ho,resolve,invoke,builtin,Sem.run_bind,Sem.run_pure,Result.andThen_ok,List.map_toArray,List.map_cons,List.map_nil,hrun]
 obtain ⟨xs,rr⟩:=h.eZ g _ hgR
 obtain ⟨xt,rt⟩:=h.eZ T _ hgT
 have h1:∀ u ∈ xt,u.oneCell'=true:=fun u hu=>by
  obtain ⟨m,hm,rfl⟩:=List.getElem_of_mem hu
  have hl:=rt.own.1
  have hk0:=rt.pos
  have q1:m / aE P e<es2.length:=Nat.div_lt_of_lt_mul (by rw [Nat.mul_comm,← hl];exact hm)
  have q2:m%aE P e<aE P e:=Nat.mod_lt _ hk0
  have q3:=rt.len _ (List.getElem_mem q1)
  have q4:cP es2 (m / aE P e) (m%aE P e)=some ((es2[m / aE P e])[m%aE P e]):=by unfold cP;simp [q1,q3,q2]
  have:=rt.one _ _ _ q4
  rwa [Nat.mul_comm,Nat.div_add_mod,List.getD_eq_getElem?_getD,List.getElem?_eq_getElem hm] at this
 obtain ⟨A,cc,hXv,hA,hcell⟩:∃ A cc,c.hd (.top T)=.slice A es2.length cc∧(es2.length≠0→∃ ad,A=some ad)∧(∀ ad,A=some ad→∀ (j:Nat) u,xt[j]?=some u→w.cell? (ad.add j)=some u):=by
  rcases rt.own.2 with ⟨h0,hn⟩ | ⟨g2,cap,cur,h0,hb2,hg2,hnc,rest⟩
  ·exact ⟨none,0,by rw [h0,hn],fun q=>absurd hn q,fun ad q=>nomatch q⟩
  ·have hob:(c.hd (.top T)).ownBlock=some g2:=by rw [h0];rfl
   refine ⟨_,cap,h0,fun _=>⟨_,rfl⟩,fun ad had j u hj=>?_⟩
   injection had with had
   subst had
   have:=wQ rt.own hob j (by have:=bS hj;rw [rt.own.1] at this;exact this)
   rw [this,List.getD_eq_getElem?_getD,hj];rfl
 obtain ⟨v',w',hrun,hown',hgrow,hblk⟩:=As (P:=P) 0 t o.type e i z (aE P e) hu hi hz hsize hby hzs rr.pos (c.hd (.top g)) es.length xs rr.own A es2.length cc xt rt.own.1 hA hcell h1 hlim (Nat.zero_le _)
 rw [← hXv,← hX,← hV] at hrun
 have hVb:∀ b,(c.hd (.top g)).ownBlock=some b→E.M b∧¬ c.S b∧∀ k',k'≠.top g→c.D k'→c.τ k'≠b:=fun b hb'=>by
  obtain ⟨q1,q2⟩:=rr.blk b hb'
  have:=h.ok.hD _ q1
  rw [q2] at this
  exact ⟨this.1,this.2.2,fun k' hne hg' e=>hne (by rw [h.ok.inj _ _ hg' q1 (by rw [e,q2])])⟩
 have hsame:∀ b,b<w.heap.size→(c.hd (.top g)).ownBlock≠some b→w'.heap[b]?=w.heap[b]?:=fun b hb' hne=>hgrow.block b hb' (Ne.symm hne)
 have hS:Cj c.S w w':=fun b hS=>hsame b (h.ok.hS b hS) fun e=>(hVb b e).2.1 hS
 have hDs:∀ k,k≠.top g→c.D k→w'.heap[c.τ k]?=w.heap[c.τ k]?:=fun k hk hD=>hsame _ (h.ok.hD k hD).2.1 fun e=>(hVb _ e).2.2 k hk hD rfl
 have below:E.Fr w':=⟨hgrow.os.trans h.below.os,hgrow.tape.trans h.below.tape,hgrow.output.trans h.below.output,Nat.le_trans h.below.size hgrow.size,fun k hk' hm=>(hsame k (Nat.lt_of_lt_of_le hk' h.below.size) fun e=>hm (hVb k e).1).trans (h.below.block k hk' hm)⟩
 let b:=(v'.ownBlock).getD 0
 let c':=c.join g T es.length b v' e
 have ctop:c'.τ (.top g)=b∧c'.hd (.top g)=v'∧c'.ty (.top g)=e∧(c'.D (.top g)↔v'.ownBlock.isSome=true):=by simp [c',Ctx.join]
 have coth:∀ k,k≠.top g→c'.τ k=c.τ (tV g T es.length k)∧c'.hd k=c.hd (tV g T es.length k)∧c'.ty k=c.ty (tV g T es.length k)∧(c'.D k↔k.tag≠T∧c.D (tV g T es.length k)):=fun k hk=>by simp [c',Ctx.join,hk]
 have hbb:v'.ownBlock.isSome=true→E.M b∧b<w'.heap.size∧¬ c.S b∧∀ k',k'≠.top g→c.D k'→c.τ k'≠b:=fun hs=>by
  obtain ⟨b',hb'⟩:=Option.isSome_iff_exists.1 hs
  have hbe:b=b':=by simp [b,hb']
  rw [hbe]
  have hlt:b'<w'.heap.size:=(hown'.lt b' hb').2
  rcases hblk with hq | hq
  ·have:=hVb b' (by rw [← hq,hb'])
   exact ⟨this.1,hlt,this.2.1,this.2.2⟩
  ·rw [hb'] at hq
   injection hq with hq
   subst hq
   exact ⟨h.below.mine (Nat.le_refl _),hlt,fun hS=>by have:=h.ok.hS _ hS;omega,fun k' _ hg' e=>by have:=(h.ok.hD k' hg').2.1;omega⟩
 have hok:c'.Ok E.M w':=by
  refine ⟨fun b hb=>Nat.lt_of_lt_of_le (h.ok.hS b hb) hgrow.size,fun k hk=>?_,fun k k' hk hk' he=>?_⟩
  ·by_cases q:k=.top g
   ·subst q
    have:=hbb (ctop.2.2.2.1 hk)
    rw [ctop.1];exact ⟨this.1,this.2.1,this.2.2.1⟩
   ·have hk0:=((coth k q).2.2.2.1 hk).2
    rw [(coth k q).1]
    exact ⟨(h.ok.hD _ hk0).1,Nat.lt_of_lt_of_le (h.ok.hD _ hk0).2.1 hgrow.size,(h.ok.hD _ hk0).2.2⟩
  ·by_cases q:k=.top g <;> by_cases q':k'=.top g
   ·rw [q,q']
   ·subst q
    rw [ctop.1,(coth k' q').1] at he
    have hk0:=((coth k' q').2.2.2.1 hk').2
    exact absurd he.symm ((hbb (ctop.2.2.2.1 hk)).2.2.2 _ (fun e=>q' (Ua e)) hk0)
   ·subst q'
    rw [ctop.1,(coth k q).1] at he
    have hk0:=((coth k q).2.2.2.1 hk).2
    exact absurd he ((hbb (ctop.2.2.2.1 hk')).2.2.2 _ (fun e=>q (Ua e)) hk0)
   ·rw [(coth k q).1,(coth k' q').1] at he
    have hk0:=(coth k q).2.2.2.1 hk
    have hk0':=(coth k' q').2.2.2.1 hk'
    exact EU hk0.1 hk0'.1 (h.ok.inj _ _ hk0.2 hk0'.2 he)
 have hrep:mX P w' c' g (.row e J (es++es2)):=by
  refine ⟨xs++xt,ctop.2.2.1,rr.pos,fun l hl=>(List.mem_append.1 hl).elim (rr.len l) (rt.len l),by rw [ctop.2.1,List.length_append];exact hown',fun b' hb'=>?_,fun i j pv hg=>?_,fun i j pv hg=>?_⟩
  ·rw [ctop.2.1] at hb'
   exact ⟨ctop.2.2.2.2 (by rw [hb'];rfl),by rw [ctop.1];simp [b,hb']⟩
  ·rcases Eu rr.len rt.len rr.own.1 (news:=xt) hg with ⟨q1,q2⟩ | ⟨i',_,q1,q2⟩
   ·rw [q2];exact rr.one i j pv q1
   ·rw [q2];exact rt.one i' j pv q1
  ·rcases Eu rr.len rt.len rr.own.1 (news:=xt) hg with ⟨q1,q2⟩ | ⟨i',hii,q1,q2⟩
   ·rw [q2]
    have hlt:=(lB rr.len q1).1
    have:=rr.rep i j pv q1
    unfold cX at this ⊢
    split at this
    ·exact this.same hS fun _ h=>h
    ·rename_i e' hJ
     rcases this with this | ⟨p1,es',xs',p2,p3⟩
     ·exact .inl this
     have hsk:tV g T es.length (.sub g i j)=.sub g i j:=by simp only [tV];rw [if_neg];omega
     have hc:=coth (.sub g i j) (by simp)
     rw [hsk] at hc
     exact .inr ⟨p1.trans hc.2.1.symm,es',xs',p2,p3.keep ⟨hc.1,hc.2.1,hc.2.2.1⟩ (fun hD=>⟨hDs _ (by simp) hD,hc.2.2.2.2 ⟨fun q=>hne q.symm,hD⟩⟩) fun _ _ _ _ r=>r.same hS fun _ h=>h⟩
   ·rw [q2]
    have:=rt.rep i' j pv q1
    unfold cX at this ⊢
    split at this
    ·exact this.same hS fun _ h=>h
    ·rename_i e' hJ
     rcases this with this | ⟨p1,es',xs',p2,p3⟩
     ·exact .inl this
     subst hii
     have hsk:tV g T es.length (.sub g (es.length+i') j)=.sub T i' j:=by simp only [tV];rw [if_pos ⟨trivial,by omega⟩];congr 1;omega
     have hc:=coth (.sub g (es.length+i') j) (by simp)
     rw [hsk] at hc
     refine .inr ⟨p1.trans hc.2.1.symm,es',xs',p2, ?_⟩
     have k1:iP P w' c (.sub T i' j) e' es' (fun _ _ pv v=>RF w' c.S pv v) xs':=iP.keep (c:=c) (c':=c) (Agree.refl c _) (fun q=>⟨hDs _ (by simp) q,q⟩) (fun _ _ _ _ q=>RF.same hS (fun _ h=>h) q) p3
     exact iP.cC (c:=c) (c':=c') hc.1 hc.2.1 hc.2.2.1 (fun q=>hc.2.2.2.2 ⟨fun q=>hne q.symm,q⟩) (fun _ _ _ _ _ q=>q) k1
 have hrv:RV P w' c' (.row (.top g) e) v':=by
  obtain ⟨xs',r'⟩:=hrep
  have:=RV.row (P:=P) (w:=w') (c:=c') (.top g) e r'.ty r'.wL
  rwa [ctop.2.1] at this
 refine lO hd (.inl (hexec _ _ hrun)) (c':=c') ?_ hrv
 have notp:∀ k,Li g T k=false→k.tag≠g∧k.tag≠T:=fun k hk=>by
  simp only [Li,Bool.or_eq_false_iff] at hk
  exact ⟨kC.1 hk.1,kC.1 hk.2⟩
 have isp:∀ k,Li g T k=true→k.tag=g∨k.tag=T:=fun k hk=>by
  simp only [Li,Bool.or_eq_true] at hk
  exact hk.imp fN.1 fN.1
 have nt:∀ k:Key,k.tag≠g→k≠.top g:=fun k hk q=>hk (by rw [q];rfl)
 refine h.step (c':=c') (Li g T) (fun q=>q=g∨q=T) below hok hS (fun _ h=>h) h.sup (fun k hk hp=>?_) (fun k hk=>?_) (fun k hD hx=>?_) (fun k hk=>isp k hk) rfl (fun g' o hx hg'=>?_) (fun g' o hx hg'=>?_)
 ·rcases isp k hp with q | q <;> omega
 ·have hc:=coth k (nt k (notp k hk).1)
  rw [Nu (notp k hk).1] at hc
  exact ⟨hc.1,hc.2.1,hc.2.2.1⟩
 ·have hkg:k.tag≠g:=fun q=>hx (.inl q)
  have hc:=coth k (nt k hkg)
  rw [Nu hkg] at hc
  exact ⟨hDs k (nt k hkg) hD,hc.2.2.2.2 ⟨fun q=>hx (.inr q),hD⟩⟩
 ·simp only [Res.base,List.foldl_cons,List.foldl_nil,dA] at hg'
  rwa [if_neg (fun q=>hx (.inl q))] at hg'
 ·simp only [Res.base,List.foldl_cons,List.foldl_nil,dA] at hg'
  split at hg'
  ·rename_i q
   injection hg' with hg'
   subst hg' q
   exact hrep
  ·rename_i q
   rcases hx with hx | hx
   ·exact absurd hx q
   ·subst hx
    rw [uT] at hg'
    have:Li g g' (.top g')=true:=by simp [Li,cO,Key.tag]
    rw [if_pos this] at hg'
    cases hg'
end
section
variable {G:Prg} {ops:Array Oper} {k:Nat} {σ:St} {α β:Type} {c:α→List PV} {c2:β→List PV}
theorem Ed {h:HP} {g i j e:Nat} {J:List (Nat×Nat)} {l:List α} {x:α} {l2:List β} (hg:h.get g=some (.row e J (l.map c))) (hJ:(Jat J j).isSome=true) (hx:l[i]?=some x) (hc:(c x)[j]?=some (.sl (l2.map c2))):h.rowAt (.sub g i j)=some (l2.map c2):=by
 simp only [HP.rowAt,hg,hJ,if_true,List.getElem?_map,hx,Option.map_some,hc]
theorem EH {h:HP} {g i j e e0:Nat} {J:List (Nat×Nat)} {l:List α} {x:α} {l2:List β} (hg:h.get g=some (.row e J (l.map c))) (hJ:(Jat J j).isSome=true) (hx:l[i]?=some x) (hc:(c x)[j]?=some (.sl (l2.map c2))):(PV.row (.sub g i j) e0).elems h=some (l2.map c2):=Ed hg hJ hx hc
theorem Ry {h:HP} {g i j e:Nat} {J:List (Nat×Nat)} {l:List α} {x x':α} {es':List (List PV)} (hg:h.get g=some (.row e J (l.map c))) (hx:l[i]?=some x) (hs:setAt (c x) j [.sl es']=c x'):h.yC es' (.sub g i j)=some (.row e J ((l.set i x').map c)):=by
 simp only [HP.yC,hg,Js hx hs]
def GN (G:Prg) (ops:Array Oper) (k:Nat) (σ:St):Option (Nat×PV×Nat):=match vV ops k σ with
 | some o=>(match o.op with
   | .buildSlice t n parts=>(match n,parts.toList with
     | 1,[(0,x)]=>(match jQ G.P t with
       | some e=>if yZ G.P e&&Nat.beq (aE G.P e) 1 then some (e,pev σ x,o.dst.getD 0) else none
       | none=>none)
     | _,_=>none)
   | _=>none)
 | none=>none
theorem LM {g T e sz d:Nat} {J:List (Nat×Nat)} {l l2 l':List α} (h:Nl G ops k σ=some (.row (.top g) e,.row (.top T) e,e,sz,d)) (ha:σ.h.get g=some (.row e J (l.map c))) (hx:σ.h.get T=some (.row e J (l2.map c))) (hc:(Nat.blt g PIN&&Nat.blt T PIN&&!Nat.beq T g)=true) (hl:app l l2=some l') :
  rG G ops k σ ⟨[Li g T],[(g,.row e J (l'.map c))],.row (.top g) e⟩:=by
 obtain ⟨h1,rfl⟩:=LJ hl
 simp only [Bool.and_eq_true,Bool.not_eq_true'] at hc
 unfold Nl at h
 split at h
 case h_2=>cases h
 rename_i o ho
 split at h
 case h_2=>cases h
 rename_i cl hop
 split at h
 case h_2=>cases h
 rename_i hcal
 split at h
 case h_2=>cases h
 rename_i a' x' t t' hargs hty
 split at h
 case isFalse=>cases h
 rename_i ht
 split at h
 case h_2=>cases h
 rename_i e' he
 split at h
 case isFalse=>cases h
 rename_i hrow
 simp only [Option.some.injEq,Prod.mk.injEq] at h
 obtain ⟨ha',hx',rfl,rfl,rfl⟩:=h
 obtain ⟨q1,q2⟩:=fY ho
 subst ht
 have hop':o.op=.call { callee:=.builtin .append,args:=#[a',x'],argTypes:=#[t,t] }:=by
  rw [hop]
  obtain ⟨callee,args,argTypes⟩:=cl
  simp only at hcal hargs hty
  subst hcal
  rw [show args=#[a',x'] from Array.toList_inj.1 hargs,show argTypes=#[t,t] from Array.toList_inj.1 hty]
 refine ⟨o,q1,q2,fun hi hdd=>?_⟩
 have:=Zi hop' he hrow ha' hx' ha hx (fun q=>by rw [q,Nat.beq_refl] at hc;cases hc.2) (by simpa using hc.1.1) (by simpa using hc.1.2) (by simpa using h1) hi hdd
 rwa [← List.map_append] at this
def RD (G:Prg) (ops:Array Oper) (k:Nat) (σ:St):Option (PV×PV):=match vV ops k σ with
 | some o=>(match o.op with
   | .store t a x=>(match uH G.P t with
     | some false=>if Nat.beq (aE G.P t) 1=true then some (pev σ a,pev σ x) else none
     | _=>none)
   | _=>none)
 | none=>none
theorem GM {g d e e' i off:Nat} {J:List (Nat×Nat)} {l:List α} {x x':α} {l2:List β} (h:RD G ops k σ=some (.rptr (.top g) e i off,.row (.top d) e')) (hg:σ.h.get g=some (.row e J (l.map c))) (hgd:σ.h.get d=some (.row e' [] (l2.map c2)))
  (hc:(Nat.blt d PIN&&!Nat.beq d g&&Nat.blt off (aE G.P e))=true) (hJ:Jat J off=some e') (hx:l[i]?=some x) (hs:setAt (c x) off [.sl (l2.map c2)]=c x') :
  rG G ops k σ ⟨[Lt d g],[(g,.row e J ((l.set i x').map c))],.lit undef⟩:=by
 simp only [Bool.and_eq_true,Bool.not_eq_true'] at hc
 unfold RD at h
 split at h
 case h_2=>cases h
 rename_i o ho
 split at h
 case h_2=>cases h
 rename_i t a' y hop
 split at h
 case h_2=>cases h
 rename_i he
 split at h
 case isFalse=>cases h
 rename_i h1
 simp only [Option.some.injEq,Prod.mk.injEq] at h
 obtain ⟨ha',hy⟩:=h
 obtain ⟨q1,q2⟩:=fY ho
 refine ⟨o,q1,q2,fun hi hdd=>?_⟩
 have:=MT hop he (Nat.eq_of_beq_eq_true h1) (.inr trivial) (by simpa using hc.1.1) (fun q=>by rw [q,Nat.beq_refl] at hc;cases hc.1.2) ha' hy hg hgd (by have:=(List.getElem?_eq_some_iff.1 hx).1;simpa using this) (by simpa using hc.2) hJ hi hdd
 rwa [Js hx hs] at this
def OL (G:Prg) (ops:Array Oper) (k:Nat) (σ:St):Option (Nat×PV×PV×Nat):=match vV ops k σ with
 | some o=>(match o.op with
   | .makeSlice t l h=>(match jQ G.P t with
     | some e=>(match Ay G.P e with
       | some z=>(match z.cells.toList with
         | [.slice none 0 0]=>if yZ G.P e=true then some (e,pev σ l,pev σ h,o.dst.getD 0) else none
         | _=>none)
       | none=>none)
     | none=>none)
   | _=>none)
 | none=>none
theorem PB {z:α} {l':List α} {e e2 d:Nat} {k1 k2:IntKind} {n:Int} (h:OL G ops k σ=some (e,.lit (.int k1 n),.lit (.int k2 n),d)) (hz:c z=[.sl []]) (h2:Nat.blt 0 (aE G.P e2)=true) (hl:mk n z=some l'):rG G ops k σ (.new d (.row e [(0,e2)] (l'.map c)) (.row (.top d) e)):=by
 unfold mk at hl
 split at hl
 case isFalse=>cases hl
 rename_i hn
 injection hl with hl
 subst hl
 unfold OL at h
 split at h
 case h_2=>cases h
 rename_i o ho
 split at h
 case h_2=>cases h
 rename_i t x hi' hop
 split at h
 case h_2=>cases h
 rename_i e' he
 split at h
 case h_2=>cases h
 rename_i z' hz'
 split at h
 case h_2=>cases h
 rename_i hzc
 split at h
 case isFalse=>cases h
 rename_i hrow
 simp only [Option.some.injEq,Prod.mk.injEq] at h
 obtain ⟨rfl,h3,h4,rfl⟩:=h
 obtain ⟨q1,q2⟩:=fY ho
 refine ⟨o,q1,q2,fun hi hdd=>?_⟩
 have hL:n.toNat≤LIM:=by have:=hn.2;omega
 have:=CI (J:=[(0,e2)]) hop he (by rw [h3];exact yU hn.1) (by rw [h4];exact yU hn.1) hz' hrow (Nat.le_refl _) hL (by rw [hzc];rfl) (fun j e' hJ=>by
  simp only [Jat] at hJ
  split at hJ
  ·rename_i hj
   obtain rfl:=Nat.eq_of_beq_eq_true hj
   injection hJ with hJ
   subst hJ
   refine ⟨by simpa using h2,fun _=>?_⟩
   rw [Array.getD_eq_getD_getElem?,← Array.getElem?_toList,hzc];rfl
  ·cases hJ) hi hdd
 rw [hzc] at this
 rwa [List.map_replicate,hz]
end
end Go.VI
namespace Go.VI
open Go.RowKit
section
variable {G:Prg} {ops:Array Oper} {k:Nat} {σ:St} {l l2:List Int} {g:Nat}
theorem BV:∀ h:HP,h.del []=h
 | []=>rfl
 | (g,o)::h=>by simp only [HP.del,TL.inn,Option.isSome_none,Bool.false_eq_true,if_false,BV h]
theorem Rc:∀ h:HP,h.kill rS=h
 | []=>rfl
 | (g,o)::h=>by simp only [HP.kill,rS,Bool.false_eq_true,if_false];rw [show o.kill rS=o from Vq o] at *;rw [show HP.kill rS h=h from Rc h]
theorem Ft:∀ s:SL,s.map (PV.kill rS)=s
 | []=>rfl
 | (i,v)::s=>by simp only [SL.map,wM rS v (Qz v),Ft s]
theorem Mf (σ:St):after ([]++[]) (([].filter fun (x:Nat×Nat)=>Nat.ble PIN x.1).map (·.2)) σ []=σ:=by
 have e:gone ([]++[]) (([].filter fun (x:Nat×Nat)=>Nat.ble PIN x.1).map (·.2))=rS:=by
  funext k;simp [gone,rS,TL.inn]
 unfold after
 rw [e]
 simp only [St.kill,HP.ren,List.nil_append,BV,Rc,Ft]
theorem Tw {Q:St→Prop} (vis:List Nat) {f:Nat} {qs:List PV} {r:PV} (hc:Da ops k σ [] vis=some (f,qs)) (pc:PC G.P f qs [] r []) (ht:Fy [] [] vis=true) (ind:vis=[]∨r.ind=true) (hr:r.ren []=r)
  (next:EVS G ops (k+1) (mA σ (fP ops k) r) Q):EVS G ops k σ Q:=
 rD [] [] vis hc pc ht rfl (ind.imp id fun q=>⟨q,fun _ _ h=>nomatch h⟩) (by rw [Mf,show r.ren ([]++[])=r from hr];exact next)
theorem EL {Q:St→Prop} (vis:List Nat) {f:Nat} {qs:List PV} {r:PV} (hc:Da ops k σ [] vis=some (f,qs)) (pc:PC G.P f qs [] r []) (ht:Fy [] [] vis=true) (ind:vis=[]∨r.ind=true) (hr:r.ren []=r)
  (next:EVO G ops (k+1) (mA σ (fP ops k) r) Q):EVO G ops k σ Q:=
 Tv [] [] vis hc pc ht rfl (ind.imp id fun q=>⟨q,fun _ _ h=>nomatch h⟩) (by rw [Mf,show r.ren ([]++[])=r from hr];exact next)
theorem Ub (σ:St):σ.kill (vX [])=σ:=by
 have e:vX []=rS:=by funext k;simp [vX,rS]
 rw [e]
 simp only [St.kill,Rc,Ft]
theorem lZ {cd:Code} {K:PX→St→Prop} (σj:St) (T F rd av fv:List (Nat×List Nat)) (m:Nat) (hk:knd cd=2) (hok:Gq (rH cd) T F rd av fv m=true) (hF:F.all (fun x=>inL x.2 [])=true)
  (h:EVD G (rH cd) ⟨lst T,lst F,lst rd,lst av,lst fv⟩ m 0 σ fun σ'=>EVO G (rH cd) m σ' (fun τ=>fW G.P σj τ)) (next:∀ τ,fW G.P σj τ→K .normal τ):SEM G cd σ K:=
 FO σj T F rd av fv m hk hok [] rfl hF (by rw [Ub];exact h) next
theorem Um {cd:Code} {K:PX→St→Prop} (T F rd av fv:List (Nat×List Nat)) (m:Nat) (hk:knd cd=2) (hok:Gq (rH cd) T F rd av fv m=true) (hF:F.all (fun x=>inL x.2 [])=true)
  (h:EVD G (rH cd) ⟨lst T,lst F,lst rd,lst av,lst fv⟩ m 0 σ fun σ'=>EVO G (rH cd) m σ' (K .normal)):SEM G cd σ K:=
 uA T F rd av fv m hk hok [] rfl hF (by rw [Ub];exact h)
end
end Go.VI
namespace Go.VI
section
variable {G:Prg} {P:Program} {cd b:Code} {σ:St} {K:PX→St→Prop}
theorem SB {ops:Array Oper} {k n:Nat} {σ':St} (h:(runK G ops k n σ).map (atS σ')=some (asS σ')):(runK G ops k n σ).isSome=true∧atS σ' (Ow G ops k n σ)=asS σ':=by
 cases hr:runK G ops k n σ with
 | none=>rw [hr] at h;cases h
 | some s =>
   rw [hr] at h
   injection h with h
   refine ⟨rfl, ?_⟩
   unfold Ow
   rw [hr]
   exact h
theorem z1 {ops:Array Oper} {k:Nat} (n:Nat) (σ':St) (next:SEM G b σ' K) (h:(Nat.ble ops.size (k+n),(runK G ops k n σ).map (atS σ'))=(true,some (asS σ')):=by kernel_rfl):EVS G ops k σ (En G b K .normal):=by
 injection h with h1 h2
 obtain ⟨a1,a2⟩:=SB h2
 exact Pj n a1 (Kz h1 fun τ hτ=>Az hτ σ' (here a2) next)
theorem z2 (n:Nat) (σ':St) (next:SEM G b σ' K) (h:(knd cd,Nat.ble (rH cd).size (0+n),(runK G (rH cd) 0 n σ).map (atS σ'))=(1,true,some (asS σ')):=by kernel_rfl):SEM G cd σ (En G b K):=by
 injection h with h1 h2
 exact wT h1 (z1 n σ' next h2)
theorem z3 (n:Nat) (σ':St) (next:SEM G (cR cd) σ' K) (h:(knd cd,knd (cL cd),Nat.ble (rH (cL cd)).size (0+n),(runK G (rH (cL cd)) 0 n σ).map (atS σ'))=(3,1,true,some (asS σ')):=by kernel_rfl):SEM G cd σ K:=by
 injection h with h1 h2
 exact Im h1 (z2 n σ' next h2)
theorem z4 (σ':St) (next:SEM G b σ' K) (h:(knd cd,atS σ' σ)=(0,asS σ'):=by kernel_rfl):SEM G cd σ (En G b K):=by
 injection h with h1 h2
 exact Nf h1 fun τ hτ=>Az hτ σ' (here h2) next
theorem z6 {ops:Array Oper} {k:Nat} {Q:St→Prop} (n:Nat) (next:∀ τ,fW G.P (Ow G ops k n σ) τ→Q τ) (h:((runK G ops k n σ).isSome,Nat.ble ops.size (k+n))=(true,true):=by kernel_rfl):EVS G ops k σ Q:=by
 injection h with h1 h2
 exact Pj n h1 (Kz h2 next)
theorem z7 (next:EVS G (rH (cL cd)) 0 σ (En G (cR cd) K .normal)) (h:(knd cd,knd (cL cd))=(3,1):=by kernel_rfl):SEM G cd σ K:=by
 injection h with h1 h2
 exact Im h1 (wT h2 next)
theorem z8 (n:Nat) (σ':St) (next:∀ τ,fW G.P σ' τ→K .ret τ) (h:(knd cd,knd (cL cd),Nat.ble (rH (cL cd)).size (0+n),(runK G (rH (cL cd)) 0 n σ).map (atS σ'),knd (cR cd))=(3,1,true,some (asS σ'),8):=by kernel_rfl):SEM G cd σ K:=by
 injection h with h1 h2
 injection h2 with h2 h3
 injection h3 with h3 h4
 injection h4 with h4 h5
 exact Im h1 (wT h2 (z1 n σ' (Ys h5 next) (by rw [h3,h4])))
theorem zA {ops:Array Oper} {k:Nat} {K:St→Prop} (n:Nat) (next:EVS G ops (k+n) (Ow G ops k n σ) K) (h:(runK G ops k n σ).isSome=true:=by kernel_rfl):EVS G ops k σ K:=Pj n h next
theorem zB (h:SEM G (cL cd) σ (En G (cR cd) K)) (hk:knd cd=3:=by kernel_rfl):SEM G cd σ K:=Im hk h
theorem zC (h:SEM G (cL cd) σ (Uw (cId cd) K)) (hk:knd cd=5:=by kernel_rfl):SEM G cd σ K:=FN hk h
theorem zD (h:EVS G (rH cd) 0 σ (K .normal)) (hk:knd cd=1:=by kernel_rfl):SEM G cd σ K:=wT hk h
theorem zF {S R:Type} {emb:S→St} {out:R→PX×St} {r:R} {px:PX} {X τ:St} (hτ:fW P X τ) (e:(out r).1=px:=by rfl) (h:atS (out r).2 X=asS (out r).2:=by kernel_rfl):LKR P emb out (.inr r) px τ:=vM hτ e (here h)
theorem zG {X τ σe:St} (hτ:fW P X τ) (h:atS σe X=asS σe:=by kernel_rfl):fW P σe τ:=fH hτ (here h)
theorem zH {S R:Type} {emb:S→St} {out:R→PX×St} {s':S} {X τ:St} (hτ:fW P X τ) (h:atS (emb s') X=asS (emb s'):=by kernel_rfl):LKR P emb out (.inl s') .normal τ:=Ll hτ (here h)
theorem zL (i:Nat) (next:∀ τ,fW G.P σ τ→K (.exit i) τ) (hk:knd cd=7:=by kernel_rfl) (hi:cId cd=i:=by rfl):SEM G cd σ K:=FP i hk hi next
theorem zM (next:∀ τ,fW G.P σ τ→K .normal τ) (hk:knd cd=0:=by kernel_rfl):SEM G cd σ K:=Nf hk next
theorem zN (next:∀ τ,fW G.P σ τ→K .ret τ) (hk:knd cd=8:=by kernel_rfl):SEM G cd σ K:=Ys hk next
theorem zO {ops:Array Oper} {k:Nat} {K:St→Prop} (next:∀ τ,fW G.P σ τ→K τ) (h:Nat.ble ops.size k=true:=by kernel_rfl):EVO G ops k σ K:=HT h next
theorem zP {ops:Array Oper} {k:Nat} {K:St→Prop} (next:∀ τ,fW G.P σ τ→K τ) (h:Nat.ble ops.size k=true:=by kernel_rfl):EVS G ops k σ K:=Kz h next
theorem zQ {id i:Nat} {K:PX→St→Prop} (h:K .normal σ) (e:id=i:=by kernel_rfl):Uw id K (.exit i) σ:=PG e h
theorem zS {ops:Array Oper} {k:Nat} {K:St→Prop} (b:Bool) (σf:Bool→St) (ht:b=true→EVS G ops k (σf true) K) (hf:b=false→EVS G ops k (σf false) K) (h:atS (σf b) σ=asS (σf b):=by kernel_rfl):EVS G ops k σ K:=EN b σf h ht hf
theorem zT (σj:St) (h:EVS G (rH cd) 0 σ (fun τ=>fW G.P σj τ)) (next:∀ τ,fW G.P σj τ→K .normal τ) (hk:knd cd=1:=by kernel_rfl):SEM G cd σ K:=Yr σj hk h next
end
section
variable (G:Prg) {f:FuncId} {fn:Func} {args:List PV} {H0:HP} {r:PV} {H1:HP}
theorem zU (hf:G.P.funcs[f]?=some fn) (h:SEM G (Mj fn) ⟨Gx 0 args,H0⟩ (RK G.P fn.results.toList r H1)) (hb:fn.body.isSome=true:=by kernel_rfl) (hname:(fn.name == "runtime.NumGoroutine")=false:=by kernel_rfl)
 (hd:yF fn.ntmps (Mj fn)=true:=by kernel_rfl) (hl:Nat.ble args.length fn.ntmps=true:=by kernel_rfl) (hN:Nat.ble fn.ntmps PIN=true:=by kernel_rfl):PC G.P f args H0 r H1:=RE G hf hb hname hd hl hN h
theorem zV {P:Program} {X τ:St} {l:List ResultVar} (hτ:fW P X τ) (s:SL) (h:AR P ⟨s,H1⟩ l=some r:=by kernel_rfl) (hs:atS ⟨s,H1⟩ X=asS ⟨s,H1⟩:=by kernel_rfl):RK P l r H1 .ret τ:=Hc hτ s (here hs) h
end
abbrev ro (g e:Nat):PV:=.row (.top g) e
abbrev sI (l:List Int):PV:=.sl (List.map cI l)
abbrev sB (l:List Bool):PV:=.sl (List.map cB l)
abbrev wI (e:Nat) (l:List Int):HO:=.row e [] (List.map cI l)
abbrev wB (e:Nat) (l:List Bool):HO:=.row e [] (List.map cB l)
theorem osi {α:Type} {a b:α} (h:some a=some b):a=b:=Option.some.inj h
section
end
end Go.VI
namespace Go.VI
open Go.RowKit
def Oz (a b:ByteArray):Option ByteArray:=if a.size+b.size≤9223372036854775807 then some (a++b) else none
section
variable {G:Prg} {ops:Array Oper} {k:Nat} {σ:St}
theorem LA {a b x:ByteArray} (h:Ww G ops k σ=some (.add,.lit (.string a),.lit (.string b))) (hx:Oz a b=some x):eB G ops k σ=some (.val (.lit (.string x))):=by
 unfold Oz at hx
 split at hx
 case isFalse=>cases hx
 rename_i hs
 injection hx with hx;subst hx
 unfold Ww at h
 split at h
 case h_2=>cases h
 rename_i o ho
 split at h
 case h_2=>cases h
 rename_i op' t x y t' hop
 simp only [Option.some.injEq,Prod.mk.injEq] at h
 obtain ⟨rfl,h1,h2⟩:=h
 refine xK ho (by rw [hop];rfl) ?_
 rw [hop]
 simp only [jP,h1,h2,Yh,if_pos hs,Option.map_some]
end
def QJ (s:ByteArray) (lo hi:Int):Option ByteArray:=if 0≤lo∧lo≤hi∧hi≤s.size then some (s.extract lo.toNat hi.toNat) else none
section
variable {G:Prg} {ops:Array Oper} {k:Nat} {σ:St}
end
theorem MY {P:Program} {f:FuncId} {args:List Value} {v:Value} (he:enters P f=true) (b:Nat) (hb:IC P=some b)
  (h:∀ (m:Int) (w:World),w.cell? ⟨b,0,none⟩=some (.int .i64 m)→Calls P f args.toArray w fun e w'=>e=.returned v∧w'=w):PC P f (args.map .lit) [] (.lit v) []:=by
 refine ⟨he,fun w c vals heg hok hobj hlen hrep=>?_⟩
 obtain ⟨_,_,m,hm⟩:=heg b hb
 have hv:vals=args:=by
  refine List.ext_getElem? fun i=>?_
  rw [List.length_map] at hlen
  cases hi:args[i]? with
  | none=>rw [List.getElem?_eq_none_iff] at hi ⊢;omega
  | some x =>
    have:=hrep i (.lit x) (by simp [hi])
    rw [List.getD_eq_getElem?_getD] at this
    have hl:i<vals.length:=by have:=(List.getElem?_eq_some_iff.1 hi).1;omega
    rw [List.getElem?_eq_getElem hl] at this ⊢
    simp only [Option.getD_some] at this
    rw [this.gO]
 subst hv
 refine (h m w hm).mono ?_
 rintro e w' ⟨rfl,rfl⟩
 exact ⟨_,c,rfl,⟨rfl,rfl,rfl,Nat.le_refl _,fun _ _ _=>rfl⟩,fun _ h=>h,fun _ h=>.inl h,⟨hok.hS,fun k hk=>⟨.inr ⟨k,hk,rfl⟩,(hok.hD k hk).2⟩,hok.inj⟩,fun g _=>Agree.refl c _,.free _ _ (.lit _),fun _ _ h=>nomatch h⟩
end Go.VI
namespace Go.VI
open Go.RowKit
def ifT (tI tN:Nat):Option Int→Nat
 | some _=>tI
 | none=>tN
def ifV:Option Int→Value
 | some n=>.int .i64 n
 | none=>.agg #[]
def ifA:Option Int→PV
 | some n=>vI n
 | none=>.agg []
abbrev vF (tI tN:Nat) (x:Option Int):PV:=.lit (.iface (ifT tI tN x) (ifV x))
structure IfC (P:Program) (t tI tN f g:Nat) (nm:String):Prop where
 cI:(P.underlying tI).map (fun d=>match d with | .interface _=>false | _=>true)=some true
 cN:(P.underlying tN).map (fun d=>match d with | .interface _=>false | _=>true)=some true
 eII:∀ a b w,(Op.equal t (.iface tI (.int .i64 a)) (.iface tI (.int .i64 b))).run P w=.ok (a==b) w
 eNN:∀ w,(Op.equal t (.iface tN (.agg #[])) (.iface tN (.agg #[]))).run P w=.ok true w
 eIN:∀ a w,(Op.equal t (.iface tI (.int .i64 a)) (.iface tN (.agg #[]))).run P w=.ok false w
 eNI:∀ a w,(Op.equal t (.iface tN (.agg #[])) (.iface tI (.int .i64 a))).run P w=.ok false w
 aI:∀ a w,(Instr.typeAssert (.iface tI (.int .i64 a)) t tI true).run P w=.ok (.tuple #[.int .i64 a,.bool true]) w
 aN:∀ w,(Instr.typeAssert (.iface tN (.agg #[])) t tI true).run P w=.ok (.tuple #[.int .i64 0,.bool false]) w
 mI:∀ a w,(method (P.types.size+Made.depth) tI (.int .i64 a) nm).run P w=.ok (f,.int .i64 a) w
 mN:∀ w,(method (P.types.size+Made.depth) tN (.agg #[]) nm).run P w=.ok (g,.agg #[]) w
section
variable {G:Prg} {ops:Array Oper} {k:Nat} {σ:St} {t tI tN f g:Nat} {nm:String}
theorem RV.LI {P:Program} {w:World} {c:Ctx} {v:Value} (h:RV P w c (.agg []) v):v=.agg #[]:=by
 cases h with
 | free pv v hf=>cases hf with | agg cs vs hn hr=>simp at hn;simp [hn]
 | agg cs vs hn hr=>simp at hn;simp [hn]
theorem PM {P:Program} {w:World} {c:Ctx} {x:Option Int} {X:Value} (r:RV P w c (ifA x) X):X=ifV x:=by
 cases x with
 | some n=>exact r.gO
 | none=>exact r.LI
def JG (ops:Array Oper) (k:Nat) (σ:St):Option (Nat×PV):=match vV ops k σ with
 | some o=>(match o.op with
   | .makeInterface t x=>some (t,pev σ x)
   | _=>none)
 | none=>none
theorem wW {x:Option Int} (F:IfC G.P t tI tN f g nm) (h:JG ops k σ=some (ifT tI tN x,ifA x)):rG G ops k σ (.val (vF tI tN x)):=by
 unfold JG at h
 split at h
 case h_2=>cases h
 rename_i o ho
 split at h
 case h_2=>cases h
 rename_i t0 y hop
 simp only [Option.some.injEq,Prod.mk.injEq] at h
 obtain ⟨h1,h2⟩:=h
 obtain ⟨q1,q2⟩:=fY ho
 refine ⟨o,q1,q2,fun hI hd=>?_⟩
 have r1:=hI.ev y
 rw [h2] at r1
 refine bK hI hd ?_ (.free _ _ (.lit _))
 have hc:(G.P.underlying (ifT tI tN x)).map (fun d=>match d with | .interface _=>false | _=>true)=some true:=by
  cases x with
  | some n=>exact F.cI
  | none=>exact F.cN
 obtain ⟨d,hd1,hd2⟩:=Option.map_eq_some_iff.1 hc
 have hx:=PM r1
 unfold execOp
 rw [hop]
 simp only [hx,h1,Instr.makeInterface,Sem.run_bind,run_underlying hd1,Result.andThen_ok]
 cases d <;> first | (simp at hd2;done) | rfl
def OU (ops:Array Oper) (k:Nat) (σ:St):Option (PV×Nat×Nat×Bool):=match vV ops k σ with
 | some o=>(match o.op with
   | .typeAssert x t a ok=>some (pev σ x,t,a,ok)
   | _=>none)
 | none=>none
theorem PD {x:Option Int} (F:IfC G.P t tI tN f g nm) (h:OU ops k σ=some (vF tI tN x,t,tI,true)):rG G ops k σ (.val (.tup [vI (x.getD 0),vB x.isSome])):=by
 unfold OU at h
 split at h
 case h_2=>cases h
 rename_i o ho
 split at h
 case h_2=>cases h
 rename_i y t0 a0 ok hop
 simp only [Option.some.injEq,Prod.mk.injEq] at h
 obtain ⟨h1,rfl,rfl,rfl⟩:=h
 obtain ⟨q1,q2⟩:=fY ho
 refine ⟨o,q1,q2,fun hI hd=>?_⟩
 have r1:=hI.ev y
 rw [h1] at r1
 refine bK (v:=.tuple #[.int .i64 (x.getD 0),.bool x.isSome]) hI hd ?_ (.tup _ _ rfl fun i pv hg=>?_)
 ·unfold execOp
  rw [hop]
  simp only [r1.gO]
  cases x with
  | some n=>simp only [ifT,ifV,Sem.run_bind,F.aI,Result.andThen_ok,Sem.run_pure,Option.getD_some,Option.isSome_some]
  | none=>simp only [ifT,ifV,Sem.run_bind,F.aN,Result.andThen_ok,Sem.run_pure,Option.getD_none,Option.isSome_none]
 ·match i,hg with
  | 0,hg=>obtain rfl:=Option.some.inj hg;exact .free _ _ (.lit _)
  | 1,hg=>obtain rfl:=Option.some.inj hg;exact .free _ _ (.lit _)
  | n+2,hg=>simp at hg
def Vm (ops:Array Oper) (k:Nat) (σ:St):Option (BinOp×Nat×PV×PV):=match vV ops k σ with
 | some o=>(match o.op with
   | .binOp op t x y _=>some (op,t,pev σ x,pev σ y)
   | _=>none)
 | none=>none
theorem IJ {P:Program} (F:IfC P t tI tN f g nm) (x y:Option Int) (w:World):(Op.equal t (.iface (ifT tI tN x) (ifV x)) (.iface (ifT tI tN y) (ifV y))).run P w=.ok (x==y) w:=by
 cases x <;> cases y
 ·exact F.eNN w
 ·rename_i b;exact F.eNI b w
 ·rename_i b;exact F.eIN b w
 ·rename_i a b
  have:((some a:Option Int)==some b)=(a==b):=rfl
  rw [this]
  exact F.eII a b w
theorem BP {x y:Option Int} {op:BinOp} (hop':op=.eql∨op=.neq) (F:IfC G.P t tI tN f g nm) (h:Vm ops k σ=some (op,t,vF tI tN x,vF tI tN y)):rG G ops k σ (.val (vB (if op=.eql then x==y else !(x==y)))):=by
 unfold Vm at h
 split at h
 case h_2=>cases h
 rename_i o ho
 split at h
 case h_2=>cases h
 rename_i op0 t0 u v t1 hop
 simp only [Option.some.injEq,Prod.mk.injEq] at h
 obtain ⟨rfl,rfl,h1,h2⟩:=h
 obtain ⟨q1,q2⟩:=fY ho
 refine ⟨o,q1,q2,fun hI hd=>?_⟩
 have r1:=hI.ev u
 rw [h1] at r1
 have r2:=hI.ev v
 rw [h2] at r2
 refine bK hI hd ?_ (.free _ _ (.lit _))
 unfold execOp
 rw [hop]
 simp only [r1.gO,r2.gO]
 rcases hop' with rfl | rfl <;> simp [eqGuard,binOp,IJ F]
theorem Ut {x y:Option Int} (F:IfC G.P t tI tN f g nm) (h:Vm ops k σ=some (.eql,t,vF tI tN x,vF tI tN y)):rG G ops k σ (.val (vB (x==y))):=BP (.inl rfl) F h
theorem GL {x y:Option Int} (F:IfC G.P t tI tN f g nm) (h:Vm ops k σ=some (.neq,t,vF tI tN x,vF tI tN y)):rG G ops k σ (.val (vB !(x==y))):=BP (.inr rfl) F h
def OH (ops:Array Oper) (k:Nat) (σ:St):Option (PV×String×Nat):=match vV ops k σ with
 | some o=>(match o.op with
   | .call c=>(match c.callee with
     | .invoke x nm=>some (pev σ x,nm,c.args.size)
     | _=>none)
   | _=>none)
 | none=>none
def ifm (f g:Nat):Option Int→Nat
 | some _=>f
 | none=>g
theorem Vp {P:Program} {x:Option Int} {A:Int→Option Bool} {B:Option Bool} {r:Bool} (hr:(match x with | some n=>A n | none=>B)=some r) (h1:∀ n,A n=some r→PC P f [vI n] [] (vB r) []) (h2:B=some r→PC P g [.agg []] [] (vB r) []):PC P (ifm f g x) [ifA x] [] (vB r) []:=by
 cases x with
 | some n=>exact h1 n hr
 | none=>exact h2 hr
theorem Ph {x:Option Int} {r:Bool} {Q:St→Prop} (F:IfC G.P t tI tN f g nm) (h:OH ops k σ=some (vF tI tN x,nm,0)) (pc:PC G.P (ifm f g x) [ifA x] [] (vB r) [])
  (next:EVS G ops (k+1) (mA σ (fP ops k) (vB r)) Q):EVS G ops k σ Q:=by
 unfold OH at h
 split at h
 case h_2=>cases h
 rename_i o ho
 split at h
 case h_2=>cases h
 rename_i c hop
 split at h
 case h_2=>cases h
 rename_i y nm0 hcal
 simp only [Option.some.injEq,Prod.mk.injEq] at h
 obtain ⟨h1,rfl,h3⟩:=h
 obtain ⟨q1,q2⟩:=fY ho
 rw [sK q1] at next
 refine Ht q1 q2 (fun _ E S0 N a w c' hi hd nx Q' hn=>?_) fun e=>nomatch e
 have r1:=hi.ev y
 rw [h1] at r1
 have hargs:c.args=#[]:=by simpa using h3
 have hfu:∀ f':Nat,enters G.P f'=true→∀ v,(callFunc f' v).run G.P w=.ok (.enter f' v) w:=fun f' hent v=>by
  unfold enters at hent
  cases hfu:G.P.funcs[f']? with
  | none=>simp [hfu] at hent
  | some fn =>
    simp only [hfu,Bool.and_eq_true,Bool.not_eq_true'] at hent
    have hb:fn.body.isNone=false:=by
     cases hbo:fn.body <;> simp [hbo] at hent ⊢
    simp only [callFunc,Sem.run_bind,program,Sem.run,Result.andThen_ok,hfu,hent.2,hb,Bool.false_eq_true,if_false,Sem.run_pure]
 have hrun:(execOp a.eval o).run G.P w=.ok (.enter (ifm f g x) #[ifV x]) w:=by
  unfold execOp
  simp only [hop,resolve,hcal,r1.gO,Sem.run_bind,Sem.run_pure,Result.andThen_ok,invoke,hargs]
  cases x with
  | some n =>
    have:=hfu f pc.1 #[.int .i64 n]
    simpa [ifT,ifV,ifm,callMethod,program,Sem.run,F.mI] using this
  | none =>
    have:=hfu g pc.1 #[.agg #[]]
    simpa [ifT,ifV,ifm,callMethod,program,Sem.run,F.mN] using this
 refine Qh (K:=fun σ'=>EVS G ops (k+1) σ' Q) (R:=[]) (R1:=[]) (vis:=[]) (qs:=[ifA x]) (H0:=[]) (r:=vB r) (H1:=[]) (args:=[ifA x]) hrun (fun i pv hg=>?_) rfl
  ⟨pc,rfl,rfl,(fun _ _ h=>nomatch h),(fun _ _ h=>nomatch h),rfl,by cases x <;> rfl,rfl,.inl rfl, ?_⟩ hi hd nx Q' fun σ' a' w' c'' hk hi'=>hn _ _ _ _ hk hi'
 ·match i,hg with
  | 0,hg =>
    obtain rfl:=Option.some.inj hg
    cases x with
    | some n=>exact .free _ _ (.lit _)
    | none=>exact .free _ _ (.agg _ _ rfl fun i pv hg=>nomatch hg)
  | n+1,hg=>simp at hg
 ·show EVS G ops (k+1) (mA (after ([]++[]) (([].filter fun (x:Nat×Nat)=>Nat.ble PIN x.1).map (·.2)) σ []) o.dst (vB r)) Q
  rw [Mf]
  exact next
end
end Go.VI
namespace Go.VI
open Go.RowKit
section
variable {P:Program} {E:Ent} {S0:Nat→Prop} {N:Nat} {σ:St} {a:Act} {w:World} {c:Ctx}
theorem Inv.SA (h:Inv P E S0 N σ a w c) {g e:Nat} {l:List Int} (hg:σ.hget g=some (.row e [] (l.map cI))) (hl:l≠[]) (he:aE P e=1):Inv P E S0 N (σ.put g (.tl e l)) a w c:=by
 refine ⟨h.below,h.ok,h.sub,h.sup,h.slots,fun g' o hg'=>?_,h.pin,h.small,h.size,h.defers⟩
 rw [dA] at hg'
 split at hg'
 case isFalse=>exact h.eZ g' o hg'
 rename_i q;subst q
 injection hg' with hg';subst hg'
 obtain ⟨xs,r⟩:=h.eZ _ _ hg
 rcases r.own.2 with ⟨h0,hn⟩ | ⟨b,cap,cur,h0,hb2,hg2,hnc,hcm,hcs,htake⟩
 ·simp at hn;exact absurd hn hl
 ·obtain ⟨q1,q2⟩:=r.blk b (by rw [h0];rfl)
  refine ⟨r.ty,he,q1,0,cap,cur,by rw [h0,q2,List.length_map],by rw [q2];exact hg2,by simpa using hnc,hcm,by rw [hcs,he];omega,fun i n hi=>?_⟩
  have hgE:cP (l.map cI) i 0=some (vI n):=by unfold cP;simp [hi,cI]
  have hr:=r.rep i 0 _ hgE
  simp only [cX,Jat] at hr
  rw [he] at hr htake
  have hv:xs.getD (i*1+0) undef=.int .i64 n:=(RV.free (P:=P) (c:=c) _ _ hr).gO
  rw [← htake] at hv
  have hi':=bS hi
  rw [tJ _ _ _ (by simp;omega),List.getD_eq_getElem?_getD,Array.getElem?_toList] at hv
  have hlt:i<cur.size:=by rw [hcs,he];simp at hnc;omega
  simp only [Nat.mul_one,Nat.add_zero] at hv
  rw [Nat.zero_add]
  rw [Array.getElem?_eq_getElem hlt] at hv ⊢
  simpa using hv
theorem Pv {g e:Nat} {v:Value} (r:RV P w c (.row (.top g) e) v):v=c.hd (.top g):=by
 cases r with
 | free _ _ hf=>cases hf
 | row=>rfl
theorem Be.one {g e:Nat} {l:List Int} (r:Be P w c g e l):(c.hd (.top g)).oneCell'=true:=by
 obtain ⟨_,_,_,o,cap,cur,h0,_⟩:=r
 rw [h0];rfl
theorem Be.rv {g e:Nat} {l:List Int} (r:Be P w c g e l):RV P w c (.row (.top g) e) (c.hd (.top g)):=.row (.top g) e r.ty r.one
theorem HJ {o:Oper} {t e g n:Nat} {x y:Operand} {l:List Int} (ho:o.op=.slice t x (some y) none none) (ht:jQ P t=some e) (hinfo:(P.info? e).isSome=true) (hg:g<PIN)
  (hx:pev σ x=.row (.top g) e) (hy:Fk (pev σ y)=some n) (hr:σ.hget g=some (.tl e l)) (hn:n≤l.length) (h:Inv P E S0 N σ a w c) (hd:∀ k,o.dst=some k→k<N) :
  tR P E S0 N o a w (Res.put σ o.dst ⟨[cO g],[(g,.tl e (l.drop n))],.row (.top g) e⟩):=by
 have rx:=h.ev x
 rw [hx] at rx
 obtain ⟨k,ey⟩:=nQ (h.ev y) hy
 have hX:=Pv rx
 obtain ⟨hty,hsz,hD,of,cap,cur,h0,hb,hlc,hcm,hcs,hcell⟩:=h.eZ g _ hr
 have hu:=lN ht
 have run:(Instr.sliceAt t (.slice (some ⟨c.τ (.top g),of,none⟩) l.length cap) (some (.int k n)) none none).run P w=.ok (.slice (some (if cap=n then ⟨c.τ (.top g),of,none⟩ else (⟨c.τ (.top g),of,none⟩:Addr).add (n*aE P e))) (l.length-n) (cap-n)) w:=by
  have bnd:(Instr.sliceBounds true l.length cap (some (.int k n)) none none).run P w=.ok (n,l.length,cap) w:=by
   have:=run_sliceBound (P:=P) (w:=w) k (n:Int) l.length .sliceB (by omega) (by omega)
   simp [Instr.sliceBounds,this]
  simp only [Instr.sliceAt,Instr.slice,Sem.run_bind,run_underlying hu,Result.andThen_ok,bnd,run_sizeOf (Option.isSome_iff_exists.1 hinfo),Sem.run_pure,Option.map_some]
  split <;> rfl
 have hexec:(execOp a.eval o).run P w=.ok (.value (.slice (some (if cap=n then ⟨c.τ (.top g),of,none⟩ else (⟨c.τ (.top g),of,none⟩:Addr).add (n*aE P e))) (l.length-n) (cap-n))) w:=by
  unfold execOp
  simp only [ho,Option.map_none,Option.map_some,ey,hX,h0,Sem.run_bind,run,Result.andThen_ok,Sem.run_pure]
 -- where it begins
 obtain ⟨o',ho',hcs',hcell'⟩:∃ o',(if cap=n then (⟨c.τ (.top g),of,none⟩:Addr) else (⟨c.τ (.top g),of,none⟩:Addr).add (n*aE P e))=⟨c.τ (.top g),o',none⟩∧o'+(cap-n)≤cur.size∧∀ (i:Nat) m,(l.drop n)[i]?=some m→cur[o'+i]?=some (.int .i64 m):=by
  by_cases e1:cap=n
  ·refine ⟨of,by rw [if_pos e1],by omega,fun i m hi=>?_⟩
   have:=bS hi
   rw [List.length_drop] at this
   omega
  ·refine ⟨of+n,by rw [if_neg e1,hsz,Nat.mul_one,add_lit],by omega,fun i m hi=>?_⟩
   rw [List.getElem?_drop] at hi
   rw [Nat.add_assoc]
   exact hcell _ _ hi
 rw [ho'] at hexec
 let v':Value:=.slice (some ⟨c.τ (.top g),o',none⟩) (l.length-n) (cap-n)
 let c':Ctx:=⟨c.S,c.τ,fun k=>if k=.top g then v' else c.hd k,c.ty,c.D⟩
 have hhd:c'.hd (.top g)=v':=by simp [c']
 have hag:∀ k,k≠.top g→Agree c c' k:=fun k hk=>⟨rfl,by simp [c',hk],rfl⟩
 have hrep:Be P w c' g e (l.drop n):=⟨hty,hsz,hD,o',cap-n,cur,by rw [hhd,List.length_drop],hb,by rw [List.length_drop];omega,by omega,hcs',hcell'⟩
 have hrv:RV P w c' (.row (.top g) e) v':=by have:=hrep.rv;rwa [hhd] at this
 refine lO hd (.inl hexec) (c':=c') ?_ hrv
 refine h.step (c':=c') (cO g) (·=g) h.below ⟨h.ok.hS,h.ok.hD,h.ok.inj⟩ (fun _ _=>rfl) (fun _ h=>h) h.sup (fun k hk hp=>?_) (fun k hk=>hag k (by rintro rfl;rw [kC] at hk;exact hk rfl)) (fun k hD _=>⟨rfl,hD⟩) (fun k hk=>fN.1 hk) rfl (fun g' o' hx hg'=>?_) (fun g' o' hx hg'=>?_)
 ·rw [fN.1 hp] at hk;omega
 ·simp only [Res.base,List.foldl_cons,List.foldl_nil,dA] at hg'
  rwa [if_neg hx] at hg'
 ·simp only [Res.base,List.foldl_cons,List.foldl_nil,dA] at hg'
  rw [if_pos hx] at hg'
  injection hg' with hg'
  subst hg' hx
  exact hrep
theorem Ox (t ty e:TypeId) (i:TypeInfo) (z:Value) (ht:P.underlying t=some (.slice e)) (hi:P.info? e=some i) (hz:i.zero=some z) (hsize:i.size=1) (hby:i.bytes≤65536) (hzs:z.cells.size=i.size)
  (b o n cap:Nat) (cur:Array Value) (hg:w.heap[b]?=some (.cells cur e (0,0))) (hlc:n≤cap) (hcm:cap≤maxLen) (hcs:o+cap≤cur.size)
  (ad:Addr) (cc:Nat) (u:Value) (hu:w.cell? ad=some u) (h1:u.oneCell'=true) (hlim:n+1≤LIM) :
  ∃ w' b' o' cap',∃ cur':Array Value,(Builtin.append_ #[t,t] ty #[.slice (some ⟨b,o,none⟩) n cap,.slice (some ad) 1 cc]).run P w=.ok (.slice (some ⟨b',o',none⟩) (n+1) cap') w'∧w'.heap[b']?=some (.cells cur' e (0,0))∧n+1≤cap'∧cap'≤maxLen∧o'+cap'≤cur'.size ∧
    (∀ j,j<n→cur'[o'+j]?=cur[o+j]?)∧cur'[o'+n]?=some u∧w.grownBy w' (some b)∧(b'=b∨b'=w.heap.size):=by
 have hnews:∀ (j:Nat) v,[u][j]?=some v→w.cell? (ad.add j)=some v:=fun j v hj=>by
  match j,hj with
  | 0,hj =>
    simp at hj
    subst hj
    simpa [Addr.add] using hu
  | j+1,hj=>simp at hj
 by_cases hroom:n+1≤cap
 ·have hf:=run_firstCells_some (P:=P) w i.size 1 ad 1 cc [u] (by simp [hsize]) hnews
  have hst:=run_storeCells_at P b (o+n*i.size) e [u] 0 cur w hg (by rw [hsize];simp;omega) (by simpa using h1)
  simp only [Nat.add_zero,hsize,Nat.mul_one,List.length_cons,List.length_nil,Nat.zero_add] at hst
  generalize harr:(cur.toList.take (o+n)++[u]++cur.toList.drop (o+n+1)).toArray=arr at hst
  have hsz:arr.size=cur.size:=by rw [← harr];simp;omega
  refine ⟨w.setRow b arr,b,o,cap,arr, ?_,setRow_heap w b cur arr e _ hg,hroom,hcm,by omega,fun j hj=>?_, ?_,⟨rfl,rfl,rfl,by simp,fun k _ hk=>setRow_other w b k _ (fun q=>hk (by simp [q]))⟩,.inl rfl⟩
  ·rw [hsize] at hf
   simp [Builtin.append_,run_underlying ht,sizeOf,typeInfo,hi,Builtin.lenOf,hroom,hf,Addr.add_lit,hst,hsize]
  ·rw [← harr,List.getElem?_toArray,List.getElem?_append_left (by simp;omega),List.getElem?_append_left (by simp;omega),List.getElem?_take,if_pos (by omega),Array.getElem?_toList]
  ·have:(cur.toList.take (o+n)).length=o+n:=by simp;omega
   rw [← harr,List.getElem?_toArray,List.getElem?_append_left (by simp;omega),List.getElem?_append_right (by omega),this,Nat.sub_self]
   rfl
 ·obtain ⟨olds,hol,hoc⟩:∃ olds:List Value,olds.length=n*i.size∧∀ (j:Nat) v,olds[j]?=some v→w.cell? ((⟨b,o,none⟩:Addr).add j)=some v∧cur[o+j]?=some v:=by
   refine ⟨(cur.toList.drop o).take n,by simp [hsize];omega,fun j v hj=>?_⟩
   have hj':=bS hj
   rw [List.getElem?_take,if_pos (by simp at hj';omega),List.getElem?_drop,Array.getElem?_toList] at hj
   refine ⟨?_,hj⟩
   rw [add_lit]
   simp [World.cell?,hg,hj]
  have hr:=run_append_grow (P:=P) (w:=w) t ty e i z ht hi hz ⟨b,o,none⟩ n cap olds hol (fun j v hj=>(hoc j v hj).1) ad 1 cc [u] (by simp [hsize]) hnews (by omega) (by unfold LIM at hlim;omega) (growslice_fits (by omega) (by
   have:=Nat.mul_le_mul hlim hby
   unfold LIM at this
   omega))
  have hge:=grownCap_ge w (n+1) cap e
  have hcm':grownCap w (n+1) cap e≤maxLen:=grownCap_le_maxLen w (n+1) cap e (by unfold LIM at hlim;unfold maxLen;omega)
  refine ⟨_,w.heap.size,0,_,_,hr,heap_alloc_new w.drew _,hge,hcm', ?_,fun j hj=>?_, ?_,⟨rfl,rfl,rfl,by simp,fun k hk _=>heap_alloc_old w.drew _ (r:=k) hk⟩,.inr rfl⟩
  ·simp [size_zeroCells,hzs,hsize,hol];omega
  ·rw [Nat.zero_add]
   have hlt:j<olds.length:=by rw [hol,hsize];omega
   have:=(hoc j _ (List.getElem?_eq_getElem hlt)).2
   rw [this]
   rw [Array.getElem?_append_left (by simp;omega),Array.getElem?_append_left (by simpa using hlt)]
   simp [hlt]
  ·rw [Nat.zero_add]
   rw [Array.getElem?_append_left (by simp [hol,hsize])]
   rw [Array.getElem?_append_right (by simp [hol,hsize])]
   simp [hol,hsize]
theorem LK {o:Oper} {t e g:Nat} {s x:Operand} {l:List Int} {y:Int} (ho:o.op=.call { callee:=.builtin .append,args:=#[s,x],argTypes:=#[t,t] }) (ht:jQ P t=some e) (hrow:yZ P e=true) (hg:g<PIN)
  (hs:pev σ s=.row (.top g) e) (hx:(pev σ x).elems σ.h=some [[vI y]]) (hf:(pev σ x).flat σ.h=true) (hr:σ.hget g=some (.tl e l)) (hlim:l.length+1≤LIM) (h:Inv P E S0 N σ a w c) (hd:∀ k,o.dst=some k→k<N) :
  tR P E S0 N o a w (Res.put σ o.dst ⟨[cO g],[(g,.tl e (l++[y]))],.row (.top g) e⟩):=by
 have rs:=h.ev s
 rw [hs] at rs
 have hX:=Pv rs
 have rx:=h.ev x
 obtain ⟨i,z,hi,hz,hsz,hby,hzs,hsize⟩:=rF hrow
 have hu:=lN ht
 obtain ⟨hty,hs1,hD,of,cap,cur,h0,hb,hlc,hcm,hcs,hcell⟩:=h.eZ g _ hr
 have hi1:i.size=1:=by rw [hsize,hs1]
 obtain ⟨A,cc,news,hXx,hnl,hA,hnc,h1,hrf⟩:=Tu h.eZ rx hx hf (k:=1) (by simp) (by omega)
 obtain ⟨ad,rfl⟩:=hA (by simp)
 have hu0:news[0]?=some (news.getD 0 undef):=by
  rw [List.getD_eq_getElem?_getD,List.getElem?_eq_getElem (by simp at hnl;omega)];rfl
 have hy:news.getD 0 undef=.int .i64 y:=by
  have:=hrf 0 0 (vI y) rfl
  exact (RV.free (P:=P) (c:=c) _ _ this).gO
 rw [hy] at hu0
 have hcu:w.cell? ad=some (.int .i64 y):=by simpa [Addr.add] using hnc ad rfl 0 _ hu0
 obtain ⟨w',b',o',cap',cur',hrun,hb',hlc',hcm',hcs',hold,hnew,hgrow,hblk⟩:=Ox (P:=P) (w:=w) t o.type e i z hu hi hz hi1 hby hzs (c.τ (.top g)) of l.length cap cur hb hlc hcm hcs ad cc _ hcu rfl hlim
 have hexec:(execOp a.eval o).run P w=.ok (.value (.slice (some ⟨b',o',none⟩) (l.length+1) cap')) w':=by
  unfold execOp
  simp only [ho,resolve,invoke,builtin,Sem.run_bind,Sem.run_pure,Result.andThen_ok,List.map_toArray,List.map_cons,List.map_nil,hX,h0,hXx,List.length_cons,List.length_nil,hrun]
 obtain ⟨hM,hlt,hnS⟩:=h.ok.hD _ hD
 have hsame:∀ b,b<w.heap.size→b≠c.τ (.top g)→w'.heap[b]?=w.heap[b]?:=fun b hb' hne=>hgrow.block b hb' (fun q=>hne (Option.some.inj q))
 have hS:Cj c.S w w':=fun b hS=>hsame b (h.ok.hS b hS) fun e=>hnS (e ▸ hS)
 have below:E.Fr w':=⟨hgrow.os.trans h.below.os,hgrow.tape.trans h.below.tape,hgrow.output.trans h.below.output,Nat.le_trans h.below.size hgrow.size,fun k hk' hm=>(hsame k (Nat.lt_of_lt_of_le hk' h.below.size) fun e=>hm (e ▸ hM)).trans (h.below.block k hk' hm)⟩
 let v':Value:=.slice (some ⟨b',o',none⟩) (l.length+1) cap'
 let c':=c.lay g b' v' e True
 have hltb:b'<w'.heap.size:=by
  rcases Nat.lt_or_ge b' w'.heap.size with q | q
  ·exact q
  ·rw [Array.getElem?_eq_none q] at hb';cases hb'
 have hok:c'.Ok E.M w':=Fh h.ok hgrow.size (fun _=>by
  rcases hblk with rfl | rfl
  ·exact ⟨hM,hltb,hnS⟩
  ·exact ⟨h.below.mine (Nat.le_refl _),hltb,fun q=>by have:=h.ok.hS _ q;omega⟩) fun _ k' hne hDk e=>by
  rcases hblk with rfl | rfl
  ·exact hne (by rw [h.ok.inj _ _ hDk hD e];rfl)
  ·have:=(h.ok.hD k' hDk).2.1;omega
 have hrep:Be P w' c' g e (l++[y]):=by
  refine ⟨dG.2.2.1,hs1,dG.2.2.2.2 trivial,o',cap',cur',by rw [dG.2.1,dG.1,List.length_append];rfl,by rw [dG.1];exact hb',by rw [List.length_append];exact hlc',hcm',hcs',fun i n hi=>?_⟩
  by_cases hil:i<l.length
  ·rw [List.getElem?_append_left hil] at hi
   rw [hold i hil];exact hcell i n hi
  ·have hi':=bS hi
   simp only [List.length_append,List.length_cons,List.length_nil] at hi'
   obtain rfl:i=l.length:=by omega
   simp only [List.getElem?_concat_length,Option.some.injEq] at hi
   subst hi
   exact hnew
 have hrv:RV P w' c' (.row (.top g) e) v':=by have:=hrep.rv;rwa [show c'.hd (.top g)=v' from dG.2.1] at this
 refine lO hd (.inl hexec) (c':=c') ?_ hrv
 refine h.step (cO g) (·=g) below hok hS (fun _ h=>h) h.sup (fun k hk hp=>?_) (fun k hk=>kF (kC.1 hk)) (fun k hDk hx=>⟨hsame _ (h.ok.hD k hDk).2.1 fun e=>hx (by rw [h.ok.inj _ _ hDk hD e];rfl),(Cb hx).2 hDk⟩)
  (fun k hk=>fN.1 hk) rfl (fun g' o hx hg=>?_) (fun g' o hx hg=>?_)
 ·rw [fN.1 hp] at hk;omega
 ·simp only [Res.base,List.foldl_cons,List.foldl_nil,dA] at hg
  rwa [if_neg hx] at hg
 ·simp only [Res.base,List.foldl_cons,List.foldl_nil,dA] at hg
  rw [if_pos hx] at hg
  injection hg with hg
  subst hg hx
  exact hrep
end
section
variable {G:Prg} {ops:Array Oper} {k:Nat} {σ:St} {K:St→Prop}
theorem HY {g e:Nat} {l:List Int} (hg:σ.hget g=some (.row e [] (l.map cI))) (hl:l.isEmpty=false) (he:aE G.P e=1) (next:EVS G ops k (σ.put g (.tl e l)) K):EVS G ops k σ K:=
 Xj (fun hi=>⟨_,hi.SA hg (by rintro rfl;cases hl) he⟩) next
theorem LO {g e:Nat} {l:List Int} (h:Iw G ops k σ=some (.row (.top g) e)) (hg:σ.hget g=some (.tl e l)):rG G ops k σ (.val (vI (l.length:Int))):=by
 unfold Iw at h
 split at h
 case h_2=>cases h
 rename_i o ho
 split at h
 case h_2=>cases h
 rename_i c hop
 split at h
 case h_2=>cases h
 rename_i hcal
 split at h
 case h_2=>cases h
 rename_i x t hargs htys
 split at h
 case h_2=>cases h
 rename_i e' hu
 simp only [Option.some.injEq] at h
 obtain ⟨q1,q2⟩:=fY ho
 refine ⟨o,q1,q2,fun hI hd=>?_⟩
 have r1:=hI.ev x
 rw [h] at r1
 have hX:=Pv r1
 obtain ⟨_,_,_,of,cap,cur,h0,_⟩:=hI.eZ g _ hg
 refine bK (v:=.int .i64 l.length) hI hd ?_ (.free _ _ (.lit _))
 have ha:c.args=#[x]:=by rw [← Array.toList_inj];exact hargs
 have hty:c.argTypes=#[t]:=by rw [← Array.toList_inj];exact htys
 unfold execOp
 simp only [hop,resolve,hcal,ha,hty,invoke,builtin,Sem.run_bind,Sem.run_pure,Result.andThen_ok,List.map_toArray,List.map_cons,List.map_nil,hX,h0]
 simp [Builtin.len_,run_underlying hu,goInt]
def OQ (G:Prg) (ops:Array Oper) (k:Nat) (σ:St):Option (PV×PV×Nat×Bool):=match vV ops k σ with
 | some o=>(match o.op with
   | .slice t x (some y) none none=>(match jQ G.P t with
     | some e=>some (pev σ x,pev σ y,e,(G.P.info? e).isSome)
     | none=>none)
   | _=>none)
 | none=>none
theorem GK {g e n:Nat} {l:List Int} {kd:IntKind} (h:OQ G ops k σ=some (.row (.top g) e,.lit (.int kd n),e,true)) (hp:Nat.blt g PIN=true) (hg:σ.hget g=some (.tl e l)) (hn:decide (n≤l.length)=true):rG G ops k σ ⟨[cO g],[(g,.tl e (l.drop n))],.row (.top g) e⟩:=by
 unfold OQ at h
 split at h
 case h_2=>cases h
 rename_i o ho
 split at h
 case h_2=>cases h
 rename_i t x y hop
 split at h
 case h_2=>cases h
 rename_i e' he
 simp only [Option.some.injEq,Prod.mk.injEq] at h
 obtain ⟨h1,h2,rfl,h4⟩:=h
 obtain ⟨q1,q2⟩:=fY ho
 exact ⟨o,q1,q2,fun hI hd=>HJ hop he h4 (by simpa using hp) h1 (by rw [h2];simp [Fk]) hg (of_decide_eq_true hn) hI hd⟩
def GH (G:Prg) (ops:Array Oper) (k:Nat) (σ:St):Option (PV×PV×Nat×Bool):=match vV ops k σ with
 | some o=>(match o.op with
   | .call c=>(match c.callee with
     | .builtin .append=>(match c.args.toList,c.argTypes.toList with
       | [s,x],[t,t']=>if t=t' then (match jQ G.P t with
         | some e=>some (pev σ s,pev σ x,e,yZ G.P e)
         | none=>none) else none
       | _,_=>none)
     | _=>none)
   | _=>none)
 | none=>none
theorem LN {g e:Nat} {l l':List Int} {y:Int} {x:PV} (h:GH G ops k σ=some (.row (.top g) e,x,e,true)) (hp:Nat.blt g PIN=true) (hg:σ.hget g=some (.tl e l)) (hx:x.elems σ.h=some [[vI y]]) (hf:x.flat σ.h=true) (hl:app l [y]=some l'):rG G ops k σ ⟨[cO g],[(g,.tl e l')],.row (.top g) e⟩:=by
 obtain ⟨hlim,rfl⟩:=LJ hl
 unfold GH at h
 split at h
 case h_2=>cases h
 rename_i o ho
 split at h
 case h_2=>cases h
 rename_i c hop
 split at h
 case h_2=>cases h
 rename_i hcal
 split at h
 case h_2=>cases h
 rename_i s x0 t t' hargs htys
 split at h
 case isFalse=>cases h
 rename_i htt;subst htt
 split at h
 case h_2=>cases h
 rename_i e' he
 simp only [Option.some.injEq,Prod.mk.injEq] at h
 obtain ⟨h1,h2,rfl,h4⟩:=h
 obtain ⟨q1,q2⟩:=fY ho
 have ha:c.args=#[s,x0]:=by rw [← Array.toList_inj];exact hargs
 have hty:c.argTypes=#[t,t]:=by rw [← Array.toList_inj];exact htys
 have hop':o.op=.call { callee:=.builtin .append,args:=#[s,x0],argTypes:=#[t,t] }:=by
  rw [hop,← ha,← hty,← hcal]
 exact ⟨o,q1,q2,fun hI hd=>LK hop' he h4 (by simpa using hp) h1 (by rw [h2];exact hx) (by rw [h2];exact hf) hg (by simpa using hlim) hI hd⟩
def IB (G:Prg) (ops:Array Oper) (k:Nat) (σ:St):Option (PV×PV×Nat×Nat×Nat):=match vV ops k σ,xR ops (k+1) with
 | some o,some o2=>(match o.op,o.dst,o2.op,o2.dst,o2.guard with
   | .indexAddr t x ix,some d1,.load t2 (.tmp d),some d2,none=>if Nat.beq d d1=true then (match jQ G.P t,FY G.P t2 with
     | some e,some .i64=>some (pev σ x,pev σ ix,e,d1,d2)
     | _,_=>none) else none
   | _,_,_,_,_=>none)
 | _,_=>none
theorem HW {g e d1 d2:Nat} {l:List Int} {i x:Int} {kd:IntKind} (h:IB G ops k σ=some (.row (.top g) e,.lit (.int kd i),e,d1,d2)) (hinfo:(G.P.info? e).isSome=true) (hg:σ.hget g=some (.tl e l)) (hx:idx l i=some x)
  (next:EVS G ops (k+2) ((σ.set d1 .undef).set d2 (vI x)) K):EVS G ops k σ K:=by
 obtain ⟨hi0,hix⟩:=Dw hx
 unfold IB at h
 split at h
 case h_2=>cases h
 rename_i o o2 ho ho2
 split at h
 case h_2=>cases h
 rename_i t y ix d1' t2 d d2' hop hdst hop2 hdst2 hgd2
 split at h
 case isFalse=>cases h
 rename_i hdd
 have hdd:=Nat.eq_of_beq_eq_true hdd
 split at h
 case h_2=>cases h
 rename_i e' he hti
 simp only [Option.some.injEq,Prod.mk.injEq] at h
 obtain ⟨h1,h2,rfl,rfl,rfl⟩:=h
 subst hdd
 obtain ⟨q1,q2⟩:=fY ho
 intro E S0 N a w c hd hi Q hn
 have hlt:k<ops.size:=by
  unfold xR at q1
  obtain ⟨q,_⟩:=List.getElem?_eq_some_iff.1 q1
  simpa using q
 have hlt2:k+1<ops.size:=by
  unfold xR at ho2
  obtain ⟨q,_⟩:=List.getElem?_eq_some_iff.1 ho2
  simpa using q
 have hmA:ops[k]?=some o:=by rw [← Array.getElem?_toList];exact q1
 have hmB:ops[k+1]?=some o2:=by rw [← Array.getElem?_toList];exact ho2
 have es:ops.size-k=(ops.size-(k+2))+1+1:=by omega
 rw [es,List.range'_succ]
 simp only [wpOps,hmA]
 rw [if_pos (wR hi q2)]
 refine .inl ?_
 have hd1:∀ j,o.dst=some j→j<N:=hd o (List.mem_of_getElem? q1)
 have hd2:∀ j,o2.dst=some j→j<N:=hd o2 (List.mem_of_getElem? ho2)
 have r1:=hi.ev y
 rw [h1] at r1
 have hX:=Pv r1
 have r2:=hi.ev ix
 rw [h2] at r2
 have hI:=r2.gO
 obtain ⟨hty,hs1,hD,of,cap,cur,h0,hb,hlc,hcm,hcs,hcell⟩:=hi.eZ g _ hg
 have hil:=bS hix
 have hu:=lN he
 have hb1:0≤i∧i<(l.length:Int):=⟨hi0,by omega⟩
 have hrun1:(execOp a.eval o).run G.P w=.ok (.value (.pointer (some ⟨c.τ (.top g),of+i.toNat,none⟩))) w:=by
  unfold execOp
  simp only [hop,hX,h0,hI,Instr.indexAt,asIntOf,Sem.run_bind,Sem.run_pure,Result.andThen_ok,run_underlying hu,if_pos hb1,run_sizeOf (Option.isSome_iff_exists.1 hinfo),hs1,Nat.mul_one,add_lit]
 have hti':G.P.underlying t2=some (.int .i64):=by
  unfold FY at hti
  split at hti
  ·rename_i k' hk;injection hti with hti;subst hti;exact hk
  ·cases hti
 unfold Oper.wp
 rw [hrun1,Oper.upon_value,hdst]
 -- the second
 have inv1:Inv G.P E S0 N (mA σ (some d) .undef) (a.put (some d) (.pointer (some ⟨c.τ (.top g),of+i.toNat,none⟩))) w c:=hi.put (some d) (fun j hj=>hd1 j (hdst.trans hj)) (.free _ _ (.undef _))
 rw [show k+1=k+1 from rfl,List.range'_succ]
 simp only [wpOps,hmB]
 rw [if_pos (by unfold Region.wanted;rw [hgd2])]
 refine .inl ?_
 have hev:(a.put (some d) (.pointer (some ⟨c.τ (.top g),of+i.toNat,none⟩))).eval (.tmp d)=.pointer (some ⟨c.τ (.top g),of+i.toNat,none⟩):=by
  have:=CW a d (.pointer (some ⟨c.τ (.top g),of+i.toNat,none⟩)) d (by rw [hi.size];exact hd1 d hdst)
  rw [if_pos rfl] at this
  exact this
 have hcell1:w.cell? ⟨c.τ (.top g),of+i.toNat,none⟩=some (.int .i64 x):=by
  simp [World.cell?,hb,hcell _ _ hix]
 have hrun2:(execOp (a.put (some d) (.pointer (some ⟨c.τ (.top g),of+i.toNat,none⟩))).eval o2).run G.P w=.ok (.value (.int .i64 x)) w:=by
  unfold execOp
  rw [hop2]
  simp only [hev,Instr.loadAt,Instr.sureAddr,Sem.run_bind,Sem.run_pure,Result.andThen_ok]
  have:=Po (P:=G.P) (w:=w) (c:=c) (agg:=false) (t:=t2) (by unfold uH;rw [hti']) ⟨c.τ (.top g),of+i.toNat,none⟩ (cs:=[vI x]) (off:=0) (pv:=vI x) (fun _=>.int .i64 x) (fun j q hq=>by
   match j,hq with
   | 0,hq=>obtain rfl:=Option.some.inj hq;exact ⟨by simpa [Addr.add] using hcell1,.free _ _ (.lit _)⟩
   | j+1,hq=>simp at hq) rfl
  obtain ⟨u,q1,q2⟩:=this
  have hu1:=q2.gO
  subst hu1
  have q3:(loadVar t2 ⟨c.τ (.top g),of+i.toNat,none⟩).run G.P w=.ok (.int .i64 x) w:=by simpa [Addr.add] using q1
  rw [q3];rfl
 unfold Oper.wp
 rw [hrun2,Oper.upon_value,hdst2]
 have inv2:=inv1.put (some d2') (fun j hj=>hd2 j (hdst2.trans hj)) (pv:=vI x) (v:=.int .i64 x) (.free _ _ (.lit _))
 exact next E S0 N _ w c hd inv2 Q hn
end
end Go.VI
namespace Go.VI
open Go.RowKit
mutual
theorem Xm {g:Nat} {u:PV}:∀ v:PV,v.has (cO g)=false→PV.frz g u v=v
 | .undef,_=>rfl
 | .lit _,_=>rfl
 | .nl,_=>rfl
 | .sl _,_=>rfl
 | .fmap _,_=>rfl
 | .vptr _ _,_=>rfl
 | .agg cs,h=>by rw [PV.has] at h;rw [PV.frz,Dq cs h]
 | .tup cs,h=>by rw [PV.has] at h;rw [PV.frz,Dq cs h]
 | .fn f cs,h=>by rw [PV.has] at h;rw [PV.frz,Dq cs h]
 | .row (.top g') e,h=>by
   have h:Nat.beq g' g=false:=by simpa [PV.has,cO,Key.tag] using h
   simp [PV.frz,h]
 | .row (.sub g' i j) e,h=>by
   have h:Nat.beq g' g=false:=by simpa [PV.has,cO,Key.tag] using h
   simp [PV.frz,h]
 | .part k e lo n,h=>by
   have h:Nat.beq k.tag g=false:=by simpa [PV.has,cO] using h
   simp [PV.frz,h]
 | .rptr k e i o,h=>by
   have h:Nat.beq k.tag g=false:=by simpa [PV.has,cO] using h
   simp [PV.frz,h]
 | .ptr g' o,h=>by
   have h:Nat.beq g' g=false:=by simpa [PV.has,cO,Key.tag] using h
   simp [PV.frz,h]
 | .mp g',h=>by
   have h:Nat.beq g' g=false:=by simpa [PV.has,cO,Key.tag] using h
   simp [PV.frz,h]
theorem Dq {g:Nat} {u:PV}:∀ l:List PV,PV.vT (cO g) l=false→PV.Le g u l=l
 | [],_=>rfl
 | c::cs,h=>by
   simp only [PV.vT,Bool.or_eq_false_iff] at h
   simp only [PV.Le,Xm c h.1,Dq cs h.2]
end
theorem Zw {g:Nat} {u:PV} (h:HP) (g':Nat):(h.frz g u).get g'=if g'=g then none else (h.get g').map (HO.frz g u):=by
 induction h with
 | nil=>simp [HP.frz,HP.get]
 | cons x h ih =>
   obtain ⟨g0,o⟩:=x
   simp only [HP.frz]
   by_cases e:g0=g
   ·subst e
    simp only [Nat.beq_refl,if_true,ih]
    split
    ·rfl
    ·rename_i hne;simp [HP.get,oF hne]
   ·simp only [oF e,Bool.false_eq_true,if_false,HP.get]
    by_cases e2:g'=g0
    ·subst e2;simp [e]
    ·simp only [oF e2,Bool.false_eq_true,if_false,ih]
theorem Mg {F:List Nat} {v:PV} {d:Nat} (hd:d ∈ F) (h:eK F v=true):v.has (cO d)=false:=by
 have:=List.all_eq_true.1 h d hd
 simpa using this
theorem Qc {F:List Nat} {d:Nat} (hd:d ∈ F):∀ {l:List PV},l.all (eK F)=true→PV.vT (cO d) l=false
 | [],_=>rfl
 | c::cs,h=>by
   simp only [List.all_cons,Bool.and_eq_true] at h
   simp only [PV.vT,Mg hd h.1,Qc hd h.2,Bool.or_false]
section
variable {G:Prg} {ops:Array Oper} {k:Nat} {σ:St} {K:St→Prop}
theorem MC {D:DD} {m d:Nat} {e:Nat} {es:List (List PV)} (hm:Nat.ble m k=false) (h:eB G ops k σ=some (.new d (.row e [] es) (.row (.top d) e))) (hdd:fP ops k=some d) (hlt:Nat.blt d PIN=true) (hF:inL [d] (D.F k)=true) (hav:avB ops k (D.av k) σ=true)
  (next:EVD G ops D m (k+1) (mA σ (fP ops k) (.sl es)) K):EVD G ops D m k σ K:=by
 obtain ⟨o,ho,hh⟩:=yY h
 rw [sK ho] at next hdd
 rcases hh with ⟨h1,h2,h3⟩ | ⟨_,h2⟩
 case inr =>
  have:=congrArg (fun r=>r.sets.length) h2
  simp [Res.new,Res.val] at this
 have hdF:=vH hF d (by simp)
 have hs:DStep G.P ops o (D.rd k) (D.F k) σ ⟨[],[],.sl es⟩:=fun T τ l=>by
  obtain ⟨l1,l2⟩:=Ib l
  refine .inr ⟨by rw [xQ l];exact h1,fun E S0 N a w c hi hcl hd next Q hn=>?_⟩
  have hp':jP G.P G.eqn τ (o.dst.getD 0) o.type o.op=some (.new d (.row e [] es) (.row (.top d) e)):=by
   cases hsh:shallow o.op with
   | false=>rw [Rv G.P G.eqn (Xp l.heap) _ _ _ l1 (l2 hsh)];exact h3
   | true=>rw [Lx G.P G.eqn _ _ _ hsh l1];exact h3
  refine Pr G.hE hi hd hp' next Q fun a' w' c' hi'=>?_
  rw [hdd] at hi' hn
  have hget:(Res.put τ (some d) (.new d (.row e [] es) (.row (.top d) e))).hget d=some (.row e [] es):=by
   simp only [Res.put,Res.new,Res.base,List.foldl_cons,List.foldl_nil,Rb,dA,if_true]
  obtain ⟨c2,hi2⟩:=hi'.freeze (g:=d) (by simpa using hlt) (.inl ⟨e,[],es,hget,rfl⟩)
  refine hn a' w' c2 (hi2.weak (fun i=>.inr ?_) fun g o' hg=>?_)
  ·rw [uI]
   have e1:((Res.put τ (some d) (.new d (.row e [] es) (.row (.top d) e))).frz d (.sl es)).get i=PV.frz d (.sl es) ((Res.put τ (some d) (.new d (.row e [] es) (.row (.top d) e))).get i):=get_map (PV.frz d (.sl es)) rfl _ _
   rw [e1]
   simp only [Res.put,Res.new,Res.base,List.foldl_cons,List.foldl_nil,yN,Option.some.injEq]
   by_cases q:d=i
   ·subst q;simp [PV.frz,PV.OA]
   ·rw [if_neg q,if_neg q,Vk]
    rw [(Ex (p:=cO d) (fun k hk=>by rw [fN.1 hk];exact hdF) hcl).1 i,Xm _ (Mg hdF (hcl.1 i))]
  ·rw [qF] at hg
   simp only [zW.touch,List.append_nil,List.map_nil,List.not_mem_nil,if_false] at hg
   obtain ⟨q1,q2⟩:=hcl.2 g o' hg
   have hne:g≠d:=by rintro rfl;exact q1 hdF
   show ((Res.put τ (some d) (.new d (.row e [] es) (.row (.top d) e))).h.frz d (.sl es)).get g=some o'
   rw [Zw,if_neg hne]
   have e2:(Res.put τ (some d) (.new d (.row e [] es) (.row (.top d) e))).h.get g=some o':=by
    have:(Res.put τ (some d) (.new d (.row e [] es) (.row (.top d) e))).hget g=((τ.kill (cO d)).put d (.row e [] es)).hget g:=rfl
    show (Res.put τ (some d) (.new d (.row e [] es) (.row (.top d) e))).hget g=some o'
    rw [this,dA,if_neg hne,(Ex (p:=cO d) (fun k hk=>by rw [fN.1 hk];exact hdF) hcl).2 g]
    exact hg
   rw [e2]
   simp only [Option.map_some,Option.some.injEq]
   cases o' with
   | box cs =>
     simp only [HO.frz]
     rw [Dq cs (Qc hdF q2)]
   | _=>rfl
 refine Hs hm ho ⟨[],[],.sl es⟩ hs (Cz ho hav) rfl (by simp [show eK (D.fv k) (PV.sl es)=true from Ev rfl]) ?_
 have e:σ.act o.dst ⟨[],[],.sl es⟩=mA σ o.dst (.sl es):=by
  have:∀ h:HP,h.Cn []=h:=by
   intro h
   induction h with
   | nil=>rfl
   | cons x h ih=>obtain ⟨g,o⟩:=x;simp [HP.Cn,ih]
  simp only [St.act,this,List.nil_append]
 rw [e];exact next
end
end Go.VI
namespace Go.VI
open Go.RowKit
section
variable {P:Program} {E:Ent} {S0:Nat→Prop} {N:Nat} {σ:St} {a:Act} {w:World} {c:Ctx}
theorem Yv {es:List (List PV)} {i:Nat} {q:List PV} {x y:Nat} {pv:PV} (h:cP (es.set i q) x y=some pv):(x=i∧q[y]?=some pv)∨(x≠i∧cP es x y=some pv):=by
 unfold cP at h ⊢
 by_cases e:i=x
 ·subst e
  rw [List.getElem?_set] at h
  rw [if_pos rfl] at h
  split at h
  ·exact .inl ⟨rfl,h⟩
  ·simp at h
 ·rw [List.getElem?_set_ne e] at h
  exact .inr ⟨fun q=>e q.symm,h⟩
theorem Inv.take (h:Inv P E S0 N σ a w c) {g T e e2 i:Nat} {es es':List (List PV)} (hT:T<PIN) (hne:T≠g) (hcl:Clean [T] σ) (hg:σ.hget g=some (.row e [(0,e2)] es)) (hi:es[i]?=some [.sl es']) :
  ∃ c',Inv P E S0 N ⟨σ.s,(g,.row e [(0,e2)] (es.set i [.undef]))::(T,.row e2 [] es')::σ.h⟩ a w c'∧RV P w c' (.row (.top T) e2) (c.hd (.sub g i 0)):=by
 obtain ⟨xs,r⟩:=h.eZ g _ hg
 have hc0:=r.rep i 0 (.sl es') (by unfold cP;rw [hi];rfl)
 simp only [cX,Jat,Nat.beq_refl,if_true] at hc0
 rcases hc0 with hc0 | ⟨hv,es2,xs2,hes,r2⟩
 ·cases hc0
 injection hes with hes;subst hes
 let c':Ctx:=⟨c.S,fun k=>if k=.top T then c.τ (.sub g i 0) else c.τ k,fun k=>if k=.top T then c.hd (.sub g i 0) else c.hd k,fun k=>if k=.top T then c.ty (.sub g i 0) else c.ty k,
  fun k=>if k=.top T then c.D (.sub g i 0) else k≠.sub g i 0∧k.tag≠T∧c.D k⟩
 have ctop:c'.τ (.top T)=c.τ (.sub g i 0)∧c'.hd (.top T)=c.hd (.sub g i 0)∧c'.ty (.top T)=c.ty (.sub g i 0)∧(c'.D (.top T)↔c.D (.sub g i 0)):=by simp [c']
 have off:∀ k,k.tag≠T→Agree c c' k:=fun k hk=>by
  have:k≠.top T:=by rintro rfl;exact hk rfl
  simp [Agree,c',this]
 have hDo:∀ k,k≠.top T→(c'.D k↔k≠.sub g i 0∧k.tag≠T∧c.D k):=fun k hk=>by simp [c',hk]
 have old:∀ k,c'.D k→∃ k0,c.D k0∧c'.τ k=c.τ k0∧((k=.top T∧k0=.sub g i 0)∨(k=k0∧k≠.sub g i 0)):=fun k hk=>by
  by_cases q1:k=.top T
  ·subst q1;exact ⟨_,ctop.2.2.2.1 hk,ctop.1,.inl ⟨rfl,rfl⟩⟩
  ·have:=(hDo k q1).1 hk
   exact ⟨k,this.2.2,(off k this.2.1).1,.inr ⟨rfl,this.1⟩⟩
 have hok:c'.Ok E.M w:=by
  refine ⟨h.ok.hS,fun k hk=>?_,fun k k' hk hk' he=>?_⟩
  ·obtain ⟨k0,q1,q2,_⟩:=old k hk
   rw [q2];exact h.ok.hD k0 q1
  ·obtain ⟨k0,q1,q2,q3⟩:=old k hk
   obtain ⟨k1,p1,p2,p3⟩:=old k' hk'
   have:=h.ok.inj k0 k1 q1 p1 (by rw [← q2,← p2];exact he)
   subst this
   rcases q3 with ⟨rfl,rfl⟩ | ⟨rfl,q4⟩ <;> rcases p3 with ⟨rfl,p4⟩ | ⟨rfl,p4⟩
   ·rfl
   ·exact absurd rfl p4
   ·exact absurd p4 q4
   ·rfl
 have av:∀ v:PV,eK [T] v=true→v.has (cO T)=false:=fun v hv=>Mg (by simp) hv
 have hSm:Cj c.S w w:=fun _ _=>rfl
 have hSS:∀ b,c.S b→c'.S b:=fun _ h=>h
 have hrT:mX P w c' T (.row e2 [] es'):=by
  refine ⟨xs2,r2.cC (k':=.top T) ctop.1 ctop.2.1 ctop.2.2.1 ctop.2.2.2.2 fun a b pv v _ hc=>?_⟩
  exact RF.same (fun _ _=>rfl) (fun _ h=>h) hc
 have hrg:mX P w c' g (.row e [(0,e2)] (es.set i [.undef])):=by
  have ag:=off (.top g) (show g≠T from fun q=>hne q.symm)
  have hlen1:aE P e=1:=by have:=r.len _ (List.mem_of_getElem? hi);simpa using this.symm
  refine ⟨xs,ag.2.2.trans r.ty,r.pos,fun l hl=>?_,by rw [ag.2.1,List.length_set];exact r.own,fun b hb=>?_,fun x y pv hgE=>?_,fun x y pv hgE=>?_⟩
  ·rcases List.mem_or_eq_of_mem_set hl with q | q
   ·exact r.len l q
   ·rw [q,hlen1];rfl
  ·rw [ag.2.1] at hb
   obtain ⟨q1,q2⟩:=r.blk b hb
   exact ⟨(hDo (.top g) (by simp;exact fun q=>hne q.symm)).2 ⟨by simp,fun q=>hne q.symm,q1⟩,ag.1.trans q2⟩
  ·rcases Yv hgE with ⟨rfl,q⟩ | ⟨_,q⟩
   ·obtain rfl:y=0:=by have:=bS q;simp at this;exact this
    exact r.one _ 0 (.sl es') (by unfold cP;rw [hi];rfl)
   ·exact r.one x y pv q
  ·rcases Yv hgE with ⟨rfl,q⟩ | ⟨hx,q⟩
   ·obtain rfl:y=0:=by have:=bS q;simp at this;exact this
    simp only [List.getElem?_cons_zero,Option.some.injEq] at q
    subst q
    show cX P w c' g [(0,e2)] _ 0 .undef _
    unfold cX
    simp only [Jat,Nat.beq_refl,if_true]
    exact .inl trivial
   ·have hc:=r.rep x y pv q
    unfold cX at hc ⊢
    split at hc
    ·exact hc.same (fun _ _=>rfl) fun _ h=>h
    ·rcases hc with hc | ⟨h1,es3,xs3,h2,r3⟩
     ·exact .inl hc
     have hk:(Key.sub g x y)≠.sub g i 0:=by intro q;injection q with _ q1;exact hx q1
     have ag':=off (.sub g x y) (show g≠T from fun q=>hne q.symm)
     exact .inr ⟨h1.trans ag'.2.1.symm,es3,xs3,h2,iP.cC (c:=c) (c':=c') ag'.1 ag'.2.1 ag'.2.2 (fun q=>(hDo _ (by simp)).2 ⟨hk,fun q=>hne q.symm,q⟩) (fun _ _ _ _ _ q=>q) r3⟩
 refine ⟨c',⟨h.below,hok,h.sub,h.sup,fun k=>?_,fun g' o hg'=>?_,fun k hk=>?_,h.small,h.size,h.defers⟩, ?_⟩
 ·exact (h.slots k).keep (p:=cO T) hSm hSS (fun k hk=>off k (kC.1 hk)) (av _ (hcl.1 k))
 ·have e1 : (⟨σ.s,(g,.row e [(0,e2)] (es.set i [.undef]))::(T,.row e2 [] es')::σ.h⟩:St).hget g'=HP.get ((g,.row e [(0,e2)] (es.set i [.undef]))::(T,.row e2 [] es')::σ.h) g':=rfl
  rw [e1] at hg'
  simp only [HP.get] at hg'
  split at hg'
  ·rename_i q
   obtain rfl:=Nat.eq_of_beq_eq_true q
   injection hg' with hg';subst hg';exact hrg
  ·rename_i q1
   split at hg'
   ·rename_i q
    obtain rfl:=Nat.eq_of_beq_eq_true q
    injection hg' with hg';subst hg';exact hrT
   ·rename_i q2
    have n1:g'≠g:=fun q=>q1 (by rw [q];exact Nat.beq_refl g)
    have n2:g'≠T:=fun q=>q2 (by rw [q];exact Nat.beq_refl T)
    have r':=h.eZ g' o hg'
    have hk:∀ k:Key,k.tag=g'→cO T k=false:=fun k hk=>kC.2 (by rw [hk];exact n2)
    have hD:∀ k:Key,k.tag=g'→c.D k→w.heap[c.τ k]?=w.heap[c.τ k]?∧c'.D k:=fun k hk hDk=>by
     refine ⟨rfl,(hDo k (by rintro rfl;exact n2 hk.symm)).2 ⟨by rintro rfl;exact n1 hk.symm,by rw [hk];exact n2,hDk⟩⟩
    have:=r'.vJ (c':=c') (p:=cO T) hSm hSS (fun k hk=>off k (kC.1 hk)) hk hD
    have e2:o.kill (cO T)=o:=by
     have:=(hcl.2 g' o hg').2
     cases o with
     | box cs =>
       simp only [HO.kill]
       congr 1
       have hh:∀ l:List PV,l.all (eK [T])=true→PV.pS (cO T) l=l:=by
        intro l
        induction l with
        | nil=>intro _;rfl
        | cons x l ih=>intro hl;simp only [List.all_cons,Bool.and_eq_true] at hl;simp only [PV.pS,wM _ x (av x hl.1),ih hl.2]
       exact hh cs this
     | _=>rfl
    rwa [e2] at this
 ·obtain ⟨q1,q2,q3⟩:=h.pin k hk
  obtain ⟨p1,p2,p3⟩:=off (.top k) (show k≠T by omega)
  exact ⟨p1.trans q1,p2.trans q2,p3.trans q3⟩
 ·have:=RV.row (P:=P) (w:=w) (c:=c') (.top T) e2 (ctop.2.2.1.trans r2.ty) (by rw [ctop.2.1];exact r2.wL)
  rwa [ctop.2.1] at this
end
section
variable {G:Prg} {ops:Array Oper} {k:Nat} {σ:St} {K:St→Prop}
end
end Go.VI
namespace Go.VI
open Go.ChangeShapes Go.WideShapes Go.ChangeAt Go.RowKit
structure OV (b:{H:Type}→DataW H→Nat):Prop where
 sl:∀ {H:Type} (l r:List (DataW H)),l.length≤b (.slice l r)∧∀ d ∈ l,b d≤b (.slice l r)
 ag:∀ {H:Type} (l:List (DataW H)),∀ d ∈ l,b d≤b (.agg l)
def RLN {α:Type} (N:Nat) (R:α→Prop) (l:List α):Prop:=l.length≤N∧∀ x ∈ l,R x
def RdN {α:Type} (b:{H:Type}→DataW H→Nat) (N:Nat) (P:Program) (t:TypeId) (c:α→List PV) (R:α→Prop):Prop:=
 ∀ {H:Type} {enc:TypeId×Value→H} {W:World} {sp:Nat→Bool} {fuel:Nat} {cs:List Value} {x:DataW H×List MemPlace},DataW.trod enc P W 0 sp true fuel t cs=some x→b x.1≤N→∃ a:α,R a∧RFl W (fun b=>b<W.heap.size) (c a) cs
section
variable {P:Program} {t:TypeId} {b:{H:Type}→DataW H→Nat} {N:Nat}
theorem KE {α:Type} {c:α→List PV} {R:α→Prop} (h:Rd P t c R):RdN b N P t c R:=fun hx _=>h hx
theorem fO {fs:Array Field} (hB:OV b) (hu:P.underlying t=some (.struct fs)) {H:Type} {enc:TypeId×Value→H} {W:World} {sp:Nat→Bool} {fuel:Nat} {cs:List Value} {x:DataW H×List MemPlace} (h:DataW.trod enc P W 0 sp true fuel t cs=some x) (hN:b x.1≤N)
  (i ty off n:Nat) (hi:(fs.toList[i]?).map (fun f=>(f.type,f.offset,P.cellsOf f.type))=some (ty,off,n)):∃ fu y,DataW.trod enc P W 0 sp true fu ty ((cs.drop off).take n)=some y∧b y.1≤N:=by
 obtain ⟨f,h1,h2⟩:=Option.map_eq_some_iff.1 hi
 simp only [Prod.mk.injEq] at h2
 obtain ⟨rfl,rfl,rfl⟩:=h2
 cases fuel with
 | zero=>simp [DataW.trod] at h
 | succ fuel =>
   unfold DataW.trod at h
   rw [hu] at h
   split at h <;> first | (rename_i he;simp at he;done) | skip
   ·rename_i fs' he
    simp only [Option.some.injEq,TypeDesc.struct.injEq] at he
    subst he
    split at h
    case isFalse=>cases h
    obtain ⟨ys,hm,rfl⟩:=Option.map_eq_some_iff.1 h
    have:=(mapM_some hm).2 i
    rw [h1] at this
    simp only [Option.bind_some] at this
    have hlt:i<ys.length:=by rw [(mapM_some hm).1];exact (List.getElem?_eq_some_iff.1 h1).1
    rw [List.getElem?_eq_getElem hlt] at this
    exact ⟨fuel,_,this,Nat.le_trans (hB.ag _ _ (List.mem_map_of_mem (List.getElem_mem hlt))) hN⟩
   ·exact (‹∀ fs_1:Array Field,some (TypeDesc.struct fs)=some (TypeDesc.struct fs_1)→False› fs rfl).elim
theorem Ui {α:Type} {e:TypeId} {c:α→List PV} {R:α→Prop} (hB:OV b) (hu:P.underlying t=some (.slice e)) (he:RdN b N P e c R) (hs:∀ x,(c x).length=P.cellsOf e) (h0:0<P.cellsOf e):RdN b N P t (cS c) (RLN N R):=by
 intro H enc W sp fuel cs x h hN
 cases fuel with
 | zero=>simp [DataW.trod] at h
 | succ fuel =>
   unfold DataW.trod at h
   rw [hu] at h
   split at h <;> first | (rename_i he;simp at he;done) | skip
   ·exact ⟨[],⟨Nat.zero_le _,by simp⟩,Pq (RF.Jx W _) rfl⟩
   ·rename_i e' a len cap hh
    simp only [Option.some.injEq,TypeDesc.slice.injEq] at hh
    subst hh
    simp only at h
    split at h
    case isFalse=>cases h
    rename_i hc
    simp only [Option.bind_eq_some_iff] at h
    obtain ⟨elems,hm,hx⟩:=h
    obtain ⟨rest,_,rfl⟩:=Option.map_eq_some_iff.1 hx
    obtain ⟨hB1,hB2⟩:=hB.sl (elems.map (·.1)) (rest.map (·.1))
    obtain ⟨m1,m2⟩:=mapM_some hm
    obtain ⟨l,hl,hr⟩:=CZ (c:=c) (R:=R) (a:=a) (W:=W) (size:=P.cellsOf e) len fun i hi=>by
     have:=m2 i
     rw [List.getElem?_range hi] at this
     have hlt:i<elems.length:=by rw [m1];simpa using hi
     rw [List.getElem?_eq_getElem hlt] at this
     simp only [Option.bind_some,Option.bind_eq_some_iff] at this
     obtain ⟨cs,h1,h2⟩:=this
     obtain ⟨y,hR,hy⟩:=he h2 (Nat.le_trans (hB2 _ (List.mem_map_of_mem (List.getElem_mem hlt))) hN)
     exact ⟨y,cs,hR,h1,hy⟩
    refine ⟨l,⟨?_,fun y hy=>?_⟩,Pq ?_ rfl⟩
    ·rw [List.length_map,m1,List.length_range] at hB1;simp only at hN;omega
    ·obtain ⟨i,hi⟩:=List.mem_iff_getElem?.1 hy
     obtain ⟨_,hR,_⟩:=hr i y hi
     exact hR
    have hg:∀ i j pv,cP (l.map c) i j=some pv→∃ x cs,l[i]?=some x∧W.cells? 0 (a.add (i*P.cellsOf e)) (P.cellsOf e)=some cs∧RFl W (fun b=>b<W.heap.size) (c x) cs∧(c x)[j]?=some pv:=by
     intro i j pv h
     unfold cP at h
     rw [List.getElem?_map] at h
     cases hi:l[i]? with
     | none=>rw [hi] at h;simp at h
     | some x =>
       rw [hi] at h
       obtain ⟨cs,_,q1,q2⟩:=hr i x hi
       exact ⟨x,cs,rfl,q1,q2,by simpa using h⟩
    have key:∀ i j pv,cP (l.map c) i j=some pv→W.cell? (a.add (i*P.cellsOf e+j))=some ((((W.cells? 0 (a.add (i*P.cellsOf e)) (P.cellsOf e)).getD []).getD j undef))∧RF W (fun b=>b<W.heap.size) pv (((W.cells? 0 (a.add (i*P.cellsOf e)) (P.cellsOf e)).getD []).getD j undef)∧(((W.cells? 0 (a.add (i*P.cellsOf e)) (P.cellsOf e)).getD []).getD j undef).oneCell'=true:=by
     intro i j pv h
     obtain ⟨x,cs,q1,q2,q3,q4⟩:=hg i j pv h
     obtain ⟨s1,s2⟩:=Wz q2
     have hj:j<P.cellsOf e:=by rw [← hs x];exact (List.getElem?_eq_some_iff.1 q4).1
     rw [q2]
     simp only [Option.getD_some]
     refine ⟨?_,q3.2 j pv q4⟩
     rw [← add_add,s2 j hj,List.getD_eq_getElem?_getD,List.getElem?_eq_getElem (by omega)]
     rfl
    refine .sl (l.map c) (P.cellsOf e) (some a) len cap (fun i j=>(((W.cells? 0 (a.add (i*P.cellsOf e)) (P.cellsOf e)).getD []).getD j undef)) (by simp [hl]) (fun r hr=>?_) h0 hc.2.1 (fun hne=>⟨a,rfl, ?_⟩) (fun ad had i j pv h=>?_) (fun i j pv h=>(key i j pv h).2.2) (fun i j pv h=>(key i j pv h).2.1)
    ·obtain ⟨y,_,rfl⟩:=List.mem_map.1 hr;exact hs y
    ·have:0<l.length:=by
      cases l with
      | nil=>simp at hne
      | cons y l=>simp
     have hx:=key 0 0 ((c l[0]).getD 0 .undef) (by
      unfold cP
      rw [List.getElem?_map,List.getElem?_eq_getElem this]
      simp only [Option.map_some,Option.bind_some]
      rw [List.getD_eq_getElem?_getD,List.getElem?_eq_getElem (by rw [hs];exact h0)]
      rfl)
     have:=World.block_lt_of_cell? W _ hx.1
     rwa [Cx] at this
    ·injection had with had;subst had;exact (key i j pv h).1
   ·cases h
section
variable {H:Type} {enc:TypeId×Value→H} {W:World} {base:Nat} {sp:Nat→Bool} {v:Value} {d:DataW H} {ps:List MemPlace} {α:Type} {c:α→List PV} {R:α→Prop}
theorem GI {fs:Array Field} (hu:P.underlying t=some (.struct fs)) (hr:RdN b N P t c R) (hv:Value.okWide P W .any base t v) (h:DataW.Trod enc P W 0 sp true t v d ps) (hd:b d≤N):∃ a,R a∧RF W (fun b=>b<W.heap.size) (.agg (c a)) v:=by
 unfold Value.okWide at hv
 rw [hu] at hv
 obtain ⟨cs,rfl,_⟩:=hv
 obtain ⟨fuel,hf⟩:=h
 obtain ⟨a,hR,h1,h2⟩:=hr hf hd
 simp only [Value.cells] at h1 h2
 refine ⟨a,hR,.agg _ cs (by simpa using h1.symm) fun i pv hg=>?_⟩
 have:=(h2 i pv hg).1
 simpa [Array.getD_eq_getD_getElem?,List.getD_eq_getElem?_getD] using this
theorem Wu (hn:∀ cs,v≠.agg cs) (hr:RdN b N P t c R) (g:α→PV) (hg:∀ a,c a=[g a]) (h:DataW.Trod enc P W 0 sp true t v d ps) (hd:b d≤N):∃ a,R a∧RF W (fun b=>b<W.heap.size) (g a) v:=by
 obtain ⟨fuel,hf⟩:=h
 obtain ⟨a,hR,h1,h2⟩:=hr hf hd
 have hc:v.cells.toList=[v]:=by cases v <;> first | rfl | exact absurd rfl (hn _)
 rw [hc,hg] at h2
 refine ⟨a,hR, ?_⟩
 have:=(h2 0 (g a) rfl).1
 simpa using this
end
theorem Xb {H:Type} {enc:TypeId×Value→H} {a:Assume} {C:Checked} {os:Os} {f:FuncId} {fn:Func} {s:OpenSpec} {k:(H:Type)→List (DataW H)→Bool} (hk:s.cond=some k) {F:Stop.Interp} {conds:List PathCond} {apart fresh handsOn again:Bool}
  (own:ownKnob C.prog.godebug=none) (started:os.Started) (noInit:C.prog.inits.idxOf? f=none) (hfn:C.prog.funcs[f]?=some fn)
  (witness:∃ (w:World) (tape:Tape) (i:Input),w.os=os∧(w.forCall tape i).Shaped C.prog∧i.vars=[]∧Input.okWide C.prog (w.forCall tape i) .any w.heap.size f i ∧
   s.pre6 enc C.prog fn conds apart (w.forCall tape i).memory i.args∧a.holds C.prog (lone (Frame.enter C.prog f i.args .normal) [] (w.forCall tape i)))
  (contract:∀ (W:World) (base:Nat) (args:Array Value) (ds gs:List (DataW H)) (before:List MemPlace),
   (∀ (j:Nat) t v,fn.params[j]?=some t→args[j]?=some v→Value.okWide C.prog W .any base t v) →
   DataW.Whole enc C.prog fn.params.toList s.vars apart W args.toList ds gs before→k H (ds++gs)=true→W.ShapedOpen C.prog →
   Calls C.prog f args W fun e W'=>∃ v,e=.returned v∧(s.at F).post enc C.prog fn apart fresh handsOn again W args v W') :
  ReturnsInHanded a C os f .any (s.pre6 enc C.prog fn conds apart) ((s.at F).post enc C.prog fn apart fresh handsOn again):=by
 refine returnsInHanded_of_calls own started noInit witness ?_
 intro w tape i _ hsh _ hok hpre hholds
 obtain ⟨_,_,_,fn',hfn',_,_,_,_,hval⟩:=hok
 have e:fn'=fn:=Option.some.inj (hfn'.symm.trans hfn)
 subst e
 obtain ⟨ds,gs,before,hw,_,hkk⟩:=(OpenSpec.pre_some hk conds apart _ _).1 hpre.1
 refine (contract (w.forCall tape i) w.heap.size i.args ds gs before hval (DataW.Whole.of_heap (w':=w.forCall tape i) (by rfl) hw) hkk hsh).mono fun e W' ⟨v,he,hp⟩=>?_
 subst he
 exact ChangeSpec.post_blind hp
end
end Go.VI
namespace Go.VI
def sel (ks gs:List Nat) (σ:St):St:=⟨ks.map fun k=>(k,σ.get k),gs.filterMap fun g=>(σ.hget g).map fun o=>(g,o)⟩
theorem Wb {σ:St}:∀ (ks:List Nat) (i:Nat),SL.get (ks.map fun k=>(k,σ.get k)) i=.undef∨SL.get (ks.map fun k=>(k,σ.get k)) i=σ.get i
 | [],i=>.inl rfl
 | k::ks,i=>by
   simp only [List.map_cons,SL.get]
   split
   ·rename_i h
    subst h
    exact .inr rfl
   ·exact Wb ks i
theorem Mb {σ:St}:∀ (gs:List Nat) (g:Nat) (o:HO),HP.get (gs.filterMap fun g=>(σ.hget g).map fun o=>(g,o)) g=some o→σ.hget g=some o
 | [],g,o,h=>by cases h
 | a::gs,g,o,h=>by
   simp only [List.filterMap_cons] at h
   cases e:σ.hget a with
   | none=>rw [e] at h;exact Mb gs g o h
   | some o' =>
     rw [e] at h
     simp only [Option.map_some,HP.get] at h
     split at h
     ·rename_i hb
      have hb':=Nat.eq_of_beq_eq_true hb
      subst hb'
      rw [e];exact h
     ·exact Mb gs g o h
theorem DA (ks gs:List Nat) (σ:St):Sub (sel ks gs σ) σ:=⟨fun i=>Wb ks i,fun g o hg=>Mb gs g o hg⟩
section
variable {G:Prg} {P:Program} {cd b:Code} {σ:St} {K:PX→St→Prop}
theorem QI (ks gs:List Nat) (X:St):fW P (sel ks gs X) X:=Zb (DA ks gs X)
theorem y1 {ops:Array Oper} {k:Nat} (n:Nat) (ks gs:List Nat) (next:SEM G b (sel ks gs (Ow G ops k n σ)) K) (h:(Nat.ble ops.size (k+n),(runK G ops k n σ).isSome)=(true,true):=by kernel_rfl):EVS G ops k σ (En G b K .normal):=by
 injection h with h1 h2
 exact Pj n h2 (Kz h1 fun τ hτ=>Az hτ _ (QI ks gs _) next)
theorem y2 (n:Nat) (ks gs:List Nat) (next:SEM G b (sel ks gs (Ow G (rH cd) 0 n σ)) K) (h:(knd cd,Nat.ble (rH cd).size (0+n),(runK G (rH cd) 0 n σ).isSome)=(1,true,true):=by kernel_rfl):SEM G cd σ (En G b K):=by
 injection h with h1 h2
 exact wT h1 (y1 n ks gs next h2)
theorem y3 (n:Nat) (ks gs:List Nat) (next:SEM G (cR cd) (sel ks gs (Ow G (rH (cL cd)) 0 n σ)) K) (h:(knd cd,knd (cL cd),Nat.ble (rH (cL cd)).size (0+n),(runK G (rH (cL cd)) 0 n σ).isSome)=(3,1,true,true):=by kernel_rfl):SEM G cd σ K:=by
 injection h with h1 h2
 exact Im h1 (y2 n ks gs next h2)
theorem y4 (ks gs:List Nat) (next:SEM G b (sel ks gs σ) K) (h:knd cd=0:=by kernel_rfl):SEM G cd σ (En G b K):=Nf h fun τ hτ=>Az hτ _ (QI ks gs _) next
theorem yE {X τ:St} (hτ:fW G.P X τ) (ks gs:List Nat) (next:SEM G b (sel ks gs X) K):En G b K .normal τ:=Az hτ _ (QI ks gs _) next
theorem yK (ks gs:List Nat) (s:SEM G cd (sel ks gs σ) K):SEM G cd σ K:=NM (DA ks gs σ) s
end
end Go.VI
namespace Go.VI
open Go.RowKit
section
variable {P:Program} {E:Ent} {S0:Nat→Prop} {N:Nat} {σ:St} {a:Act} {w:World} {c:Ctx}
theorem DS {o:Oper} {t e e' d:Nat} {x:Operand} {es':List (List PV)} (ho:o.op=.buildSlice t 1 #[(0,x)]) (ht:jQ P t=some e) (hrow:yZ P e=true) (h1:aE P e=1) (hd1:d<PIN)
  (hx:pev σ x=.row (.top d) e') (hrd:σ.hget d=some (.row e' [] es')) (h:Inv P E S0 N σ a w c):NW P E o a w c d e (.row e [(0,e')] [[.sl es']]):=by
 have rx:=h.ev x
 rw [hx] at rx
 have hX:a.eval x=c.hd (.top d):=by
  generalize a.eval x=X at rx
  cases rx with
  | free _ _ hf=>cases hf
  | row=>rfl
 obtain ⟨xsd,rd⟩:=h.eZ d _ hrd
 have hone:=rd.wL
 have hcell1:(c.hd (.top d)).cells=#[c.hd (.top d)]:=Ew hone
 have hrun:=vP (P:=P) (a:=a) (w:=w) (parts:=#[(0,x)]) (len:=1) ht rfl (by omega) (by omega) hrow (fun p hp=>by simp at hp;subst hp;simp only;rw [hX,hcell1,h1];rfl)
 have hcells:(List.flatMap (fun (p:Nat×Operand)=>(a.eval p.2).cells.toList) #[(0,x)].toList)=[c.hd (.top d)]:=by simp [hX,hcell1]
 rw [hcells] at hrun
 have hexec:(execOp a.eval o).run P w=.ok (.value (.slice (some ⟨w.heap.size,0,none⟩) 1 1)) (w.alloc (.cells #[c.hd (.top d)] e)):=by
  unfold execOp
  simp only [ho,Sem.run_bind,hrun,Result.andThen_ok,Sem.run_pure]
 have hb:Below w.heap.size w (w.alloc (.cells #[c.hd (.top d)] e)):=(Below.refl _ _).alloc (Nat.le_refl _) _
 have hnew:(w.alloc (.cells #[c.hd (.top d)] e)).heap[w.heap.size]?=some (.cells #[c.hd (.top d)] e (0,0)):=heap_alloc_new w _
 generalize hw':w.alloc (.cells #[c.hd (.top d)] e)=w' at hexec hb hnew
 have hbn:w.heap.size<w'.heap.size:=by rw [← hw'];simp
 let c':Ctx:=⟨c.S,fun k=>if k=.top d then w.heap.size else if k=.sub d 0 0 then c.τ (.top d) else c.τ k,fun k=>if k=.top d then .slice (some ⟨w.heap.size,0,none⟩) 1 1 else if k=.sub d 0 0 then c.hd (.top d) else c.hd k,
  fun k=>if k=.top d then e else if k=.sub d 0 0 then c.ty (.top d) else c.ty k,fun k=>if k=.top d then True else if k=.sub d 0 0 then c.D (.top d) else k.tag≠d∧c.D k⟩
 have ctop:c'.τ (.top d)=w.heap.size∧c'.hd (.top d)=.slice (some ⟨w.heap.size,0,none⟩) 1 1∧c'.ty (.top d)=e∧c'.D (.top d):=by simp [c']
 have csub:c'.τ (.sub d 0 0)=c.τ (.top d)∧c'.hd (.sub d 0 0)=c.hd (.top d)∧c'.ty (.sub d 0 0)=c.ty (.top d)∧(c'.D (.sub d 0 0)↔c.D (.top d)):=by simp [c']
 have hag:∀ k,k.tag≠d→Agree c c' k:=fun k hk=>by
  have q1:k≠.top d:=by rintro rfl;exact hk rfl
  have q2:k≠.sub d 0 0:=by rintro rfl;exact hk rfl
  simp [Agree,c',q1,q2]
 have hDo:∀ k,k≠.top d→k≠.sub d 0 0→(c'.D k↔k.tag≠d∧c.D k):=fun k q1 q2=>by simp [c',q1,q2]
 -- what a key in use means
 have old:∀ k,c'.D k→k=.top d∨∃ k0,c.D k0∧c'.τ k=c.τ k0∧((k=.sub d 0 0∧k0=.top d)∨(k=k0∧k.tag≠d)):=fun k hk=>by
  by_cases q1:k=.top d
  ·exact .inl q1
  ·by_cases q2:k=.sub d 0 0
   ·subst q2;exact .inr ⟨.top d,csub.2.2.2.1 hk,csub.1,.inl ⟨rfl,rfl⟩⟩
   ·have:=(hDo k q1 q2).1 hk
    exact .inr ⟨k,this.2,(hag k this.1).1,.inr ⟨rfl,this.1⟩⟩
 have hok:c'.Ok E.M w':=by
  refine ⟨fun b hb'=>Nat.lt_of_lt_of_le (h.ok.hS b hb') hb.size,fun k hk=>?_,fun k k' hk hk' he=>?_⟩
  ·rcases old k hk with rfl | ⟨k0,q1,q2,_⟩
   ·rw [ctop.1];exact ⟨h.below.mine (Nat.le_refl _),hbn,fun hS=>by have:=h.ok.hS _ hS;omega⟩
   ·rw [q2];exact ⟨(h.ok.hD _ q1).1,Nat.lt_of_lt_of_le (h.ok.hD _ q1).2.1 hb.size,(h.ok.hD _ q1).2.2⟩
  ·rcases old k hk with rfl | ⟨k0,q1,q2,q3⟩ <;> rcases old k' hk' with rfl | ⟨k1,p1,p2,p3⟩
   ·rfl
   ·rw [ctop.1,p2] at he;have:=(h.ok.hD _ p1).2.1;omega
   ·rw [ctop.1,q2] at he;have:=(h.ok.hD _ q1).2.1;omega
   ·rw [q2,p2] at he
    have e0:=h.ok.inj _ _ q1 p1 he
    rcases q3 with ⟨r1,r2⟩ | ⟨r1,r2⟩ <;> rcases p3 with ⟨s1,s2⟩ | ⟨s1,s2⟩
    ·rw [r1,s1]
    ·exact absurd (by rw [s1,← e0,r2];rfl) s2
    ·exact absurd (by rw [r1,e0,s2];rfl) r2
    ·rw [r1,s1,e0]
 have hSm:Cj c.S w w':=fun b hS=>hb.block b (h.ok.hS b hS)
 have hrep:mX P w' c' d (.row e [(0,e')] [[.sl es']]):=by
  refine ⟨[c.hd (.top d)],ctop.2.2.1,by omega,by simp [h1], ?_,fun b hb'=>?_,fun i j pv hg=>?_,fun i j pv hg=>?_⟩
  ·rw [ctop.2.1]
   refine ⟨by simp [h1],.inr ⟨w.heap.size,1,#[c.hd (.top d)],rfl,Nat.zero_le _,hnew,Nat.le_refl _,by unfold maxLen;omega,by simp [h1],by simp [h1]⟩⟩
  ·rw [ctop.2.1] at hb'
   simp [Value.ownBlock] at hb';subst hb'
   exact ⟨ctop.2.2.2,ctop.1⟩
  all_goals
   have hij:i=0∧j=0:=by
    have:=lB (k:=1) (by simp) hg
    simp at this;omega
   obtain ⟨rfl,rfl⟩:=hij
   simp [cP] at hg
   subst hg
  ·simpa [h1] using hone
  ·simp only [Nat.zero_mul,Nat.add_zero,List.getD_cons_zero]
   show cX P w' c' d [(0,e')] 0 0 (.sl es') (c.hd (.top d))
   unfold cX
   simp only [Jat,Nat.beq_refl,if_true]
   refine .inr ⟨csub.2.1.symm,es',xsd,rfl, ?_⟩
   have k1:iP P w' c (.top d) e' es' (fun _ _ pv v=>RF w' c.S pv v) xsd:=iP.keep (c:=c) (c':=c) (Agree.refl c _) (fun q=>⟨hb.block _ (h.ok.hD _ q).2.1,q⟩) (fun _ _ _ _ q=>RF.same hSm (fun _ h=>h) q) rd
   exact iP.cC (c:=c) (c':=c') csub.1 csub.2.1 csub.2.2.1 csub.2.2.2.2 (fun _ _ _ _ _ q=>q) k1
 have hrv:RV P w' c' (.row (.top d) e) (.slice (some ⟨w.heap.size,0,none⟩) 1 1):=by
  obtain ⟨xs',r'⟩:=hrep
  have:=RV.row (P:=P) (w:=w') (c:=c') (.top d) e r'.ty r'.wL
  rwa [ctop.2.1] at this
 exact ⟨_,w',c',hexec,h.below.below hb,hok,hSm,fun _=>Iff.rfl,hag,fun k hDk hx=>⟨hb.block _ (h.ok.hD k hDk).2.1,(hDo k (by rintro rfl;exact hx rfl) (by rintro rfl;exact hx rfl)).2 ⟨hx,hDk⟩⟩,hrep,hrv⟩
end
section
variable {G:Prg} {ops:Array Oper} {k:Nat} {σ:St} {K:St→Prop}
theorem Zs {α β:Type} {c:α→List PV} {c2:β→List PV} {D:DD} {m:Nat} {e e' d T:Nat} {l:List β} {x:α} (hm:Nat.ble m k=false) (h:GN G ops k σ=some (e,.row (.top d) e',T)) (hg:σ.h.get d=some (.row e' [] (l.map c2))) (hd:(Nat.blt d PIN&&Nat.blt T PIN&&!Nat.beq T d)=true) (hx:c x=[.sl (l.map c2)])
  (hF:inL [T] (D.F k)=true) (hT:inL [d,T] (D.T k)=true) (hav:avB ops k (D.av k) σ=true)
  (hfv:(eK (D.fv k) (.row (.top T) e)&&!((D.fv k).any fun y=>Nat.beq y T)&&(HO.row e [(0,e')] ([x].map c)).Bh (D.fv k))=true)
  (next:EVD G ops D m (k+1) (mA ⟨σ.s,(T,.row e [(0,e')] ([x].map c))::σ.h.Cn [d]⟩ (fP ops k) (.row (.top T) e)) K):EVD G ops D m k σ K:=by
 simp only [Bool.and_eq_true,Bool.not_eq_true'] at hd
 obtain ⟨⟨hgp,hg2p⟩,hne⟩:=hd
 have hne':T≠d:=fun q=>by rw [q,Nat.beq_refl] at hne;cases hne
 unfold GN at h
 split at h
 case h_2=>cases h
 rename_i o ho
 split at h
 case h_2=>cases h
 rename_i t n parts hop
 split at h
 case h_2=>cases h
 rename_i x' hparts
 split at h
 case h_2=>cases h
 rename_i e0 he
 split at h
 case isFalse=>cases h
 rename_i hc
 simp only [Bool.and_eq_true] at hc
 simp only [Option.some.injEq,Prod.mk.injEq] at h
 obtain ⟨rfl,hx',rfl⟩:=h
 obtain ⟨q1,q2⟩:=fY ho
 obtain rfl:parts=#[(0,x')]:=Array.toList_inj.1 hparts
 rw [sK q1] at next
 have hds:DStep G.P ops o (D.rd k) (D.F k) σ ⟨[d],[(o.dst.getD 0,.row e0 [(0,e')] ([x].map c))],.row (.top (o.dst.getD 0)) e0⟩:=fun TT τ lc=>by
  obtain ⟨h1',h2'⟩:=Ib lc
  have h2':=h2' (by rw [hop];rfl)
  have mx:(x':Operand) ∈ o.op.operands.toList:=by rw [hop];simp [Op.operands]
  have hgT:d ∉ TT:=fun hm=>by
   have:=List.all_eq_true.1 (h2' _ mx) d hm
   rw [hx'] at this
   simp [PV.has,cO,Key.tag] at this
  have hgτ:τ.hget d=some (.row e' [] (l.map c2)):=(lc.heap d hgT).symm.trans hg
  refine .inr ⟨by rw [xQ lc];exact q2,fun E S0 N a w cx hi hcl hdd next Q hn=>?_⟩
  have hcl2:Clean [o.dst.getD 0] τ:=by
   have hgF:=vH hF (o.dst.getD 0) (by simp)
   have sub:∀ v:PV,eK (D.F k) v=true→eK [o.dst.getD 0] v=true:=fun v hv=>by
    have:=List.all_eq_true.1 hv _ hgF
    simp [eK] at this ⊢
    exact this
   refine ⟨fun i=>sub _ (hcl.1 i),fun g' o' hg'=>?_⟩
   obtain ⟨p1,p2⟩:=hcl.2 g' o' hg'
   refine ⟨fun hm=>p1 (by simp at hm;subst hm;exact hgF), ?_⟩
   cases o' with
   | box cs =>
     simp only [HO.Bh] at p2 ⊢
     exact List.all_eq_true.2 fun v hv=>sub v (List.all_eq_true.1 p2 v hv)
   | _=>rfl
  have hdo:=DS (E:=E) (S0:=S0) (N:=N) (a:=a) (w:=w) (c:=cx) hop he hc.1 (Nat.eq_of_beq_eq_true hc.2) (by simpa using hgp) (by rw [h1' _ mx];exact hx') hgτ hi
  have e1:[[PV.sl (l.map c2)]]=[x].map c:=by rw [List.map_cons,List.map_nil,hx]
  rw [e1] at hdo
  exact renamed hne' (by simpa using hg2p) (by simpa using hgp) hi hcl2 hdd rfl hdo next Q hn
 simp only [Bool.and_eq_true] at hfv
 refine Hs hm q1 ⟨[d],[(o.dst.getD 0,_)],_⟩ hds (Cz q1 hav) hT (by simp only [List.all_cons,List.all_nil,Bool.and_true,Bool.and_eq_true];exact ⟨hfv.1.1,hfv.1.2,hfv.2⟩) ?_
 exact next
end
end Go.VI
namespace Go.VI
section
variable {G:Prg} {ops:Array Oper} {k:Nat} {σ:St} {α:Type} {c:α→List PV}
theorem OP {l:List α} (h:((Iw G ops k σ).bind fun x=>x.elems σ.h)=some (l.map c)):eB G ops k σ=some (.val (.lit (.int .i64 l.length))):=by
 cases hx:Iw G ops k σ with
 | none=>rw [hx] at h;cases h
 | some x=>rw [hx] at h;exact LB hx h
theorem KM {l:List α} {i:Int} {x:α} (hx:idx l i=some x) (h:Gw G ops k σ=some (.sl (l.map c),.lit (.int .i64 i),(c x).length)):eB G ops k σ=some (.val (.vptr (c x) 0)):=QK h hx rfl
def iV (G:Prg) (ops:Array Oper) (k:Nat) (σ:St) (i:Nat):PV:=match Gw G ops k σ with
 | some (.row kk e,_)=>.rptr kk e i 0
 | _=>.undef
def iC (G:Prg) (ops:Array Oper) (k:Nat) (σ:St):Option (List (List PV)×PV×Nat):=match Gw G ops k σ with
 | some (.row kk _,q)=>(σ.h.rowAt kk).map fun es=>(es,q)
 | _=>none
theorem BA {l:List α} {i:Int} {x:α} (hx:idx l i=some x) (h:iC G ops k σ=some (l.map c,.lit (.int .i64 i),(c x).length)):eB G ops k σ=some (.val (iV G ops k σ i.toNat)):=by
 unfold iC at h
 split at h
 case h_2=>cases h
 rename_i kk e q hq
 cases hr:σ.h.rowAt kk with
 | none=>rw [hr] at h;cases h
 | some es =>
   rw [hr] at h
   simp only [Option.map_some,Option.some.injEq,Prod.mk.injEq] at h
   obtain ⟨rfl,h2⟩:=h
   have e1:iV G ops k σ i.toNat=.rptr kk e i.toNat 0:=by unfold iV;rw [hq]
   rw [e1]
   exact Wf (by rw [hq,h2]) hr hx rfl
def rC (G:Prg) (ops:Array Oper) (k:Nat) (σ:St):Option (List (List PV)×Nat×List (Nat×Nat)):=match JC G ops k σ with
 | some (_,_,.rptr kk _ i _)=>(σ.h.rowAt kk).map fun es=>(es,i,σ.h.Ba kk)
 | _=>none
def rV (G:Prg) (ops:Array Oper) (k:Nat) (σ:St) (cs:List PV):Option PV:=match JC G ops k σ with
 | some (agg,sz,.rptr kk _ i off)=>Ec agg sz [] (.vptr (owned kk.tag i [] cs) off)
 | _=>none
def rW (G:Prg) (ops:Array Oper) (k:Nat) (σ:St) (cs:List PV):PV:=(rV G ops k σ cs).getD .undef
theorem OO {l:List α} {i:Int} {x:α} (hx:idx l i=some x) (h:rC G ops k σ=some (l.map c,i.toNat,[])) (hv:(rV G ops k σ (c x)).isSome=true):eB G ops k σ=some (.val (rW G ops k σ (c x))):=by
 unfold rC at h
 split at h
 case h_2=>cases h
 rename_i agg sz kk e i' off hq
 cases hr:σ.h.rowAt kk with
 | none=>rw [hr] at h;cases h
 | some es =>
   rw [hr] at h
   simp only [Option.map_some,Option.some.injEq,Prod.mk.injEq] at h
   obtain ⟨rfl,rfl,hJ⟩:=h
   have e1:rV G ops k σ (c x)=Ec agg sz [] (.vptr (owned kk.tag i.toNat [] (c x)) off):=by unfold rV;rw [hq]
   unfold rW
   rw [e1] at hv ⊢
   obtain ⟨v,hv⟩:=Option.isSome_iff_exists.1 hv
   rw [hv]
   exact Fv hq hr hJ (Dw hx).2 hv
def wG (G:Prg) (ops:Array Oper) (k:Nat) (σ:St):Nat×Nat:=match KZ G ops k σ with
 | some (_,_,.rptr (.top g) e _ _,_)=>(g,e)
 | _=>(0,0)
def wC (G:Prg) (ops:Array Oper) (k:Nat) (σ:St) (cs:List PV):Option (HO×Nat×Bool×List PV):=match KZ G ops k σ with
 | some (agg,sz,.rptr (.top g) _ i off,v)=>(σ.h.get g).map fun o=>(o,i,BF agg sz off cs.length [] v,setAt cs off v.cells)
 | _=>none
theorem KN {l:List α} {i:Int} {x x':α} (hx:idx l i=some x) (h:wC G ops k σ (c x)=some (.row (wG G ops k σ).2 [] (l.map c),i.toNat,true,c x')):eB G ops k σ=some ⟨[],[((wG G ops k σ).1,.row (wG G ops k σ).2 [] ((l.set i.toNat x').map c))],.lit undef⟩:=by
 unfold wC at h
 split at h
 case h_2=>cases h
 rename_i agg sz g e i' off v hq
 cases hr:σ.h.get g with
 | none=>rw [hr] at h;cases h
 | some o =>
   rw [hr] at h
   have ew:wG G ops k σ=(g,e):=by unfold wG;rw [hq]
   rw [ew] at h ⊢
   simp only [Option.map_some,Option.some.injEq,Prod.mk.injEq] at h ⊢
   obtain ⟨rfl,rfl,h1,h2⟩:=h
   refine Ni (kk:=.top g) (J:=[]) hq (by simp only [HP.rowAt,hr]) (by simp only [HP.Ba,hr]) (Dw hx).2 h1 h2 ?_
   simp only [HP.yC,hr]
def aG (G:Prg) (ops:Array Oper) (k:Nat) (σ:St):Nat×Nat:=match Nl G ops k σ with
 | some (.row (.top g) e,_)=>(g,e)
 | _=>(0,0)
def aC (G:Prg) (ops:Array Oper) (k:Nat) (σ:St):Option (HO×Option (List (List PV))×Bool×Nat×Nat):=match Nl G ops k σ with
 | some (.row (.top g) e,x,e',sz,_)=>(σ.h.get g).map fun o=>(o,x.elems σ.h,x.flat σ.h&&Nat.blt g PIN,sz,if Nat.beq e e' then 0 else 1)
 | _=>none
theorem OM {l l2 l':List α} (sz:Nat) (hl:app l l2=some l') (hs:∀ y,(c y).length=sz) (h:aC G ops k σ=some (.row (aG G ops k σ).2 [] (l.map c),some (l2.map c),true,sz,0)):eB G ops k σ=some ⟨[cO (aG G ops k σ).1],[((aG G ops k σ).1,.row (aG G ops k σ).2 [] (l'.map c))],.row (.top (aG G ops k σ).1) (aG G ops k σ).2⟩:=by
 unfold aC at h
 split at h
 case h_2=>cases h
 rename_i g e x e' sz' d hq
 cases hr:σ.h.get g with
 | none=>rw [hr] at h;cases h
 | some o =>
   rw [hr] at h
   have ew:aG G ops k σ=(g,e):=by unfold aG;rw [hq]
   rw [ew] at h ⊢
   simp only [Option.map_some,Option.some.injEq,Prod.mk.injEq,Bool.and_eq_true] at h ⊢
   obtain ⟨rfl,h1,⟨h2,h3⟩,rfl,h4⟩:=h
   have he:e=e':=by
    split at h4
    ·rename_i hb;exact Nat.eq_of_beq_eq_true hb
    ·cases h4
   subst he
   exact We hq hr h1 h2 hs h3 hl
end
section
variable {G:Prg} {ops:Array Oper} {k:Nat} {σ:St} {K:St→Prop} {α:Type}
theorem qL (c:α→List PV) (l:List α) (next:EVS G ops (k+1) ((Res.val (.lit (.int .i64 l.length))).put σ (fP ops k)) K) (h:((Iw G ops k σ).bind fun x=>x.elems σ.h)=some (l.map c):=by kernel_rfl):EVS G ops k σ K:=gN (OP h) next
theorem qX (c:α→List PV) {l:List α} {i:Int} {x:α} (hx:idx l i=some x) (next:EVS G ops (k+1) ((Res.val (.vptr (c x) 0)).put σ (fP ops k)) K) (h:Gw G ops k σ=some (.sl (l.map c),.lit (.int .i64 i),(c x).length):=by kernel_rfl):EVS G ops k σ K:=gN (KM hx h) next
theorem qI (c:α→List PV) {l:List α} {i:Int} {x:α} (hx:idx l i=some x) (next:EVS G ops (k+1) ((Res.val (iV G ops k σ i.toNat)).put σ (fP ops k)) K) (h:iC G ops k σ=some (l.map c,.lit (.int .i64 i),(c x).length):=by kernel_rfl):EVS G ops k σ K:=gN (BA hx h) next
theorem qR (c:α→List PV) {l:List α} {i:Int} {x:α} (hx:idx l i=some x) (next:EVS G ops (k+1) ((Res.val (rW G ops k σ (c x))).put σ (fP ops k)) K) (h:rC G ops k σ=some (l.map c,i.toNat,[]):=by kernel_rfl) (hv:(rV G ops k σ (c x)).isSome=true:=by kernel_rfl):EVS G ops k σ K:=gN (OO hx h hv) next
theorem qS (c:α→List PV) (x':α) {l:List α} {i:Int} {x:α} (hx:idx l i=some x) (next:EVS G ops (k+1) (Res.put σ (fP ops k) ⟨[],[((wG G ops k σ).1,.row (wG G ops k σ).2 [] ((l.set i.toNat x').map c))],.lit undef⟩) K) (h:wC G ops k σ (c x)=some (.row (wG G ops k σ).2 [] (l.map c),i.toNat,true,c x'):=by kernel_rfl):EVS G ops k σ K:=gN (KN hx h) next
theorem qA (c:α→List PV) (sz:Nat) {l l2 l':List α} (hl:app l l2=some l') (next:EVS G ops (k+1) (Res.put σ (fP ops k) ⟨[cO (aG G ops k σ).1],[((aG G ops k σ).1,.row (aG G ops k σ).2 [] (l'.map c))],.row (.top (aG G ops k σ).1) (aG G ops k σ).2⟩) K) (hs:∀ y,(c y).length=sz:=by exact fun _=>rfl) (h:aC G ops k σ=some (.row (aG G ops k σ).2 [] (l.map c),some (l2.map c),true,sz,0):=by kernel_rfl):EVS G ops k σ K:=gN (OM sz hl hs h) next
theorem oX (c:α→List PV) {l:List α} {i:Int} {x:α} (hx:idx l i=some x) (next:EVO G ops (k+1) ((Res.val (.vptr (c x) 0)).put σ (fP ops k)) K) (h:Gw G ops k σ=some (.sl (l.map c),.lit (.int .i64 i),(c x).length):=by kernel_rfl):EVO G ops k σ K:=Jm (KM hx h) next
theorem oI (c:α→List PV) {l:List α} {i:Int} {x:α} (hx:idx l i=some x) (next:EVO G ops (k+1) ((Res.val (iV G ops k σ i.toNat)).put σ (fP ops k)) K) (h:iC G ops k σ=some (l.map c,.lit (.int .i64 i),(c x).length):=by kernel_rfl):EVO G ops k σ K:=Jm (BA hx h) next
theorem oS (c:α→List PV) (x':α) {l:List α} {i:Int} {x:α} (hx:idx l i=some x) (next:EVO G ops (k+1) (Res.put σ (fP ops k) ⟨[],[((wG G ops k σ).1,.row (wG G ops k σ).2 [] ((l.set i.toNat x').map c))],.lit undef⟩) K) (h:wC G ops k σ (c x)=some (.row (wG G ops k σ).2 [] (l.map c),i.toNat,true,c x'):=by kernel_rfl):EVO G ops k σ K:=Jm (KN hx h) next
theorem oA (c:α→List PV) (sz:Nat) {l l2 l':List α} (hl:app l l2=some l') (next:EVO G ops (k+1) (Res.put σ (fP ops k) ⟨[cO (aG G ops k σ).1],[((aG G ops k σ).1,.row (aG G ops k σ).2 [] (l'.map c))],.row (.top (aG G ops k σ).1) (aG G ops k σ).2⟩) K) (hs:∀ y,(c y).length=sz:=by exact fun _=>rfl) (h:aC G ops k σ=some (.row (aG G ops k σ).2 [] (l.map c),some (l2.map c),true,sz,0):=by kernel_rfl):EVO G ops k σ K:=Jm (OM sz hl hs h) next
theorem oN (n:Nat) (next:EVO G ops (k+n) (Ow G ops k n σ) K) (h:(runK G ops k n σ).isSome=true:=by kernel_rfl):EVO G ops k σ K:=MF n h next
variable {D:DD} {m:Nat}
theorem dN (n:Nat) (next:EVD G ops D m (k+n) (KI G ops D m k n σ) K) (h:(Uj G ops D m k n σ).isSome=true:=by kernel_rfl):EVD G ops D m k σ K:=MD n h next
theorem dE (hk:K σ) (h:Nat.ble m k=true:=by kernel_rfl):EVD G ops D m k σ K:=MB h hk
theorem dL (c:α→List PV) (l:List α) (next:EVD G ops D m (k+1) (mA σ (fP ops k) (.lit (.int .i64 l.length))) K) (h:((Iw G ops k σ).bind fun x=>x.elems σ.h)=some (l.map c):=by kernel_rfl) (hq:(Nat.ble m k,avB ops k (D.av k) σ)=(false,true):=by kernel_rfl):EVD G ops D m k σ K:=by
 injection hq with h1 h2
 exact wZ h1 (OP h) h2 (List.all_eq_true.2 fun _ _=>rfl) next
theorem dX (c:α→List PV) {l:List α} {i:Int} {x:α} (hx:idx l i=some x) (next:EVD G ops D m (k+1) (mA σ (fP ops k) (.vptr (c x) 0)) K) (h:Gw G ops k σ=some (.sl (l.map c),.lit (.int .i64 i),(c x).length):=by kernel_rfl) (hq:(Nat.ble m k,avB ops k (D.av k) σ,eK (D.fv k) (.vptr (c x) 0))=(false,true,true):=by kernel_rfl):EVD G ops D m k σ K:=by
 injection hq with h1 h2
 injection h2 with h2 h3
 exact wZ h1 (KM hx h) h2 h3 next
theorem dI (c:α→List PV) {l:List α} {i:Int} {x:α} (hx:idx l i=some x) (next:EVD G ops D m (k+1) (mA σ (fP ops k) (iV G ops k σ i.toNat)) K) (h:iC G ops k σ=some (l.map c,.lit (.int .i64 i),(c x).length):=by kernel_rfl) (hq:(Nat.ble m k,avB ops k (D.av k) σ,eK (D.fv k) (iV G ops k σ i.toNat))=(false,true,true):=by kernel_rfl):EVD G ops D m k σ K:=by
 injection hq with h1 h2
 injection h2 with h2 h3
 exact wZ h1 (BA hx h) h2 h3 next
theorem dR (c:α→List PV) {l:List α} {i:Int} {x:α} (hx:idx l i=some x) (next:EVD G ops D m (k+1) (mA σ (fP ops k) (rW G ops k σ (c x))) K) (h:rC G ops k σ=some (l.map c,i.toNat,[]):=by kernel_rfl) (hq:((rV G ops k σ (c x)).isSome,Nat.ble m k,avB ops k (D.av k) σ,eK (D.fv k) (rW G ops k σ (c x)))=(true,false,true,true):=by kernel_rfl):EVD G ops D m k σ K:=by
 injection hq with h0 hq
 injection hq with h1 h2
 injection h2 with h2 h3
 exact wZ h1 (OO hx h h0) h2 h3 next
theorem dS (c:α→List PV) (x':α) {l:List α} {i:Int} {x:α} (hx:idx l i=some x) (next:EVD G ops D m (k+1) (mA ⟨σ.s,((wG G ops k σ).1,.row (wG G ops k σ).2 [] ((l.set i.toNat x').map c))::σ.h⟩ (fP ops k) (.lit undef)) K) (h:wC G ops k σ (c x)=some (.row (wG G ops k σ).2 [] (l.map c),i.toNat,true,c x'):=by kernel_rfl)
  (hq:(Nat.ble m k,inL [(wG G ops k σ).1] (D.T k),avB ops k (D.av k) σ,(D.fv k).any fun y=>Nat.beq y (wG G ops k σ).1)=(false,true,true,false):=by kernel_rfl):EVD G ops D m k σ K:=by
 injection hq with h1 h2
 injection h2 with h2 h3
 injection h3 with h3 h4
 refine BX h1 (KN hx h) h2 h3 ?_ next
 rw [h4]
 have:eK (D.fv k) (.lit undef)=true:=List.all_eq_true.2 fun _ _=>rfl
 rw [this];rfl
end
section
variable {G:Prg} {cd:Code} {σ:St}
theorem qc {α:Type} {K:PX→St→Prop} {b:Bool} {x y:Option α} {r:α} (h:(if b then x else y)=some r) (h1:x=some r→SEM G (cL cd) σ K) (h2:y=some r→SEM G (cR cd) σ K) (hk:knd cd=4:=by kernel_rfl) (hb:pev σ (GV cd)=.lit (.bool b):=by kernel_rfl):SEM G cd σ K:=
 Sb b hk hb (fun e=>h1 (tQ e h)) fun e=>h2 (tP e h)
def FT (D:List Nat) (v:Bool) (σ:St):St:=⟨(D.map fun d=>(d,vB v))++σ.s,σ.h⟩
theorem Yt {σ:St} {v:Bool}:∀ (D:List Nat) (i:Nat),(∀ d ∈ D,σ.get d=vB v)→SL.get ((D.map fun d=>(d,vB v))++σ.s) i=σ.get i
 | [],i,_=>rfl
 | d::D,i,h=>by
   simp only [List.map_cons,List.cons_append,SL.get]
   split
   ·rename_i e;subst e;exact (h _ List.mem_cons_self).symm
   ·exact Yt D i fun x hx=>h x (List.mem_cons_of_mem _ hx)
theorem Yu {b:Bool} {ks gs D:List Nat} (hc:(D.map fun d=>(sel ks gs σ).get d)=D.map fun _=>vB b):Sub (FT D b (sel ks gs σ)) σ:=by
 have hD:∀ d ∈ D,(sel ks gs σ).get d=vB b:=fun d hd=>by
  have:=List.map_inj_left.1 hc d hd;exact this
 refine ⟨fun i=>?_,fun g o hg=>Mb gs g o hg⟩
 have e1:(FT D b (sel ks gs σ)).get i=(sel ks gs σ).get i:=Yt D i hD
 rw [e1]
 exact Wb ks i
theorem qB {α:Type} {ops:Array Oper} {k:Nat} {K:St→Prop} {b:Bool} {x y:Option α} {r:α} (h:(if b then x else y)=some r) (ks gs D:List Nat) (h1:x=some r→EVS G ops k (FT D true (sel ks gs σ)) K) (h2:y=some r→EVS G ops k (FT D false (sel ks gs σ)) K) (hc:(D.map fun d=>(sel ks gs σ).get d)=D.map (fun _=>vB b):=by kernel_rfl):EVS G ops k σ K:=by
 refine BZ (Yu hc) ?_
 cases b
 ·exact h2 (tP rfl h)
 ·exact h1 (tQ rfl h)
theorem oB {α:Type} {ops:Array Oper} {k:Nat} {K:St→Prop} {b:Bool} {x y:Option α} {r:α} (h:(if b then x else y)=some r) (ks gs D:List Nat) (h1:x=some r→EVO G ops k (FT D true (sel ks gs σ)) K) (h2:y=some r→EVO G ops k (FT D false (sel ks gs σ)) K) (hc:(D.map fun d=>(sel ks gs σ).get d)=D.map (fun _=>vB b):=by kernel_rfl):EVO G ops k σ K:=by
 refine MG (Yu hc) ?_
 cases b
 ·exact h2 (tP rfl h)
 ·exact h1 (tQ rfl h)
theorem sp {P:Program} {X σe:St} (l:List Wo) (R:TL) (hq:((X.AQ P l).isSome,R.okB,CV R)=(true,true,true):=by kernel_rfl) (h:atS σe ((X.Ym P l).ren R)=asS σe:=by kernel_rfl):fW P σe X:=by
 injection hq with h1 h2
 injection h2 with h2 h3
 exact Un l R h1 h2 h3 h
theorem ql {K:PX→St→Prop} {S R:Type} {body:S→Option (S ⊕ R)} {s:S} {r:R} (h:aH body s=some r) (emb:S→St) (out:R→PX×St) (h0:fW G.P (emb s) σ) (hbody:∀ s t,body s=some t→SEM G (cL cd) (emb s) (LKR G.P emb out t)) (hK:∀ τ,fW G.P (out r).2 τ→K (out r).1 τ) (hk:knd cd=6:=by kernel_rfl) (hout:∀ r,isN (out r).1=false:=by intro x;rfl):SEM G cd σ K:=
 FR emb out body s r hk h0 h hbody hout hK
theorem qH {P:Program} {X σe:St} (h:atS σe X=asS σe:=by kernel_rfl):fW P σe X:=here h
theorem qC {ops:Array Oper} {k:Nat} {Q:St→Prop} (R N:TL) {f:Nat} {qs:List PV} {H0:HP} {r:PV} {H1:HP} (pc:PC G.P f qs H0 r H1) (next:EVS G ops (k+1) (mA (after (R++N) ((R.filter fun x=>Nat.ble PIN x.1).map (·.2)) σ H1) (fP ops k) (r.ren (R++N))) Q)
 (hc:Da ops k σ R []=some (f,qs):=by kernel_rfl) (ht:Fy R N []=true:=by kernel_rfl) (hH:handed R (σ.h.only []) σ.h R=H0:=by kernel_rfl):EVS G ops k σ Q:=rD R N [] hc pc ht hH (.inl rfl) next
theorem oC {ops:Array Oper} {k:Nat} {Q:St→Prop} (R N:TL) {f:Nat} {qs:List PV} {H0:HP} {r:PV} {H1:HP} (pc:PC G.P f qs H0 r H1) (next:EVO G ops (k+1) (mA (after (R++N) ((R.filter fun x=>Nat.ble PIN x.1).map (·.2)) σ H1) (fP ops k) (r.ren (R++N))) Q)
 (hc:Da ops k σ R []=some (f,qs):=by kernel_rfl) (ht:Fy R N []=true:=by kernel_rfl) (hH:handed R (σ.h.only []) σ.h R=H0:=by kernel_rfl):EVO G ops k σ Q:=Tv R N [] hc pc ht hH (.inl rfl) next
theorem qP {ops:Array Oper} {k:Nat} {Q:St→Prop} {f:Nat} {qs:List PV} {r:PV} (pc:PC G.P f qs [] r []) (next:EVS G ops (k+1) (mA σ (fP ops k) r) Q) (hc:Da ops k σ [] []=some (f,qs):=by kernel_rfl) (hr:r.ren []=r:=by kernel_rfl):EVS G ops k σ Q:=Tw [] hc pc rfl (.inl rfl) hr next
theorem qV {ops:Array Oper} {k:Nat} {Q:St→Prop} (vis:List Nat) {f:Nat} {qs:List PV} {r:PV} (pc:PC G.P f qs [] r []) (next:EVS G ops (k+1) (mA σ (fP ops k) r) Q) (hc:Da ops k σ [] vis=some (f,qs):=by kernel_rfl) (ht:(Fy [] [] vis,r.ind)=(true,true):=by kernel_rfl) (hr:r.ren []=r:=by kernel_rfl):EVS G ops k σ Q:=by
 injection ht with h1 h2
 exact Tw vis hc pc h1 (.inr h2) hr next
theorem oP {ops:Array Oper} {k:Nat} {Q:St→Prop} {f:Nat} {qs:List PV} {r:PV} (pc:PC G.P f qs [] r []) (next:EVO G ops (k+1) (mA σ (fP ops k) r) Q) (hc:Da ops k σ [] []=some (f,qs):=by kernel_rfl) (hr:r.ren []=r:=by kernel_rfl):EVO G ops k σ Q:=EL [] hc pc rfl (.inl rfl) hr next
theorem dC {D:DD} {m:Nat} {ops:Array Oper} {k:Nat} {Q:St→Prop} (N:TL) {f:Nat} {qs:List PV} {r:PV} {H1:HP} (pc:PC G.P f qs [] r H1) (next:EVD G ops D m (k+1) (mA ⟨σ.s,H1.ren N++σ.h⟩ (fP ops k) (r.ren N)) Q)
  (hc:Da ops k σ [] []=some (f,qs):=by kernel_rfl) (hq:(Nat.ble m k,Vi N [] (D.F k) (D.rd k),avB ops k (D.av k) σ,(inL ((H1.ren N).map (·.1)) (D.T k)&&eK (D.fv k) (r.ren N)&&(H1.ren N).all fun x=>!((D.fv k).any fun y=>Nat.beq y x.1)&&x.2.Bh (D.fv k)))=(false,true,true,true):=by kernel_rfl):EVD G ops D m k σ Q:=by
 injection hq with h1 h2
 injection h2 with h2 h3
 injection h3 with h3 h4
 exact EJ N [] h1 hc pc h2 (.inl rfl) h3 h4 next
theorem qM {K:PX→St→Prop} (m:Nat) (h:EVD G (rH cd) ⟨lst [],lst [],lst [],lst [],lst []⟩ m 0 σ fun σ'=>EVO G (rH cd) m σ' (K .normal)) (hq:(knd cd,Gq (rH cd) [] [] [] [] [] m)=(2,true):=by kernel_rfl):SEM G cd σ K:=by
 injection hq with h1 h2
 exact Um [] [] [] [] [] m h1 h2 rfl h
theorem qN {K:PX→St→Prop} (T F rd av fv:List (Nat×List Nat)) (m:Nat) (h:EVD G (rH cd) ⟨lst T,lst F,lst rd,lst av,lst fv⟩ m 0 σ fun σ'=>EVO G (rH cd) m σ' (K .normal)) (hq:(knd cd,Gq (rH cd) T F rd av fv m,F.all fun x=>inL x.2 [])=(2,true,true):=by kernel_rfl):SEM G cd σ K:=by
 injection hq with h1 h2
 injection h2 with h2 h3
 exact Um T F rd av fv m h1 h2 h3 h
theorem qW {X τ:St} {l:List ResultVar} {r:PV} {H1:HP} (hτ:fW G.P X τ) (s:SL) (hs:fW G.P ⟨s,H1⟩ X) (h:AR G.P ⟨s,H1⟩ l=some r:=by kernel_rfl):RK G.P l r H1 .ret τ:=Hc hτ s hs h
end
end Go.VI
