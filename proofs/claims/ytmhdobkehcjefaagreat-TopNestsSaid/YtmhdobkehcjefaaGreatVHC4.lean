/- The evaluator, part 4. -/
import Derived.Test.YtmhdobkehcjefaaGreatVHC3
import Derived.Maps.RangeRun
import Derived.Laws.CopyRow
set_option linter.unusedVariables false
set_option linter.unusedSimpArgs false
set_option linter.unusedSectionVars false
namespace Go.VI
open Go.RowKit
section
variable {P:Program} {E:Ent} {S0:Nat→Prop} {N:Nat} {σ:St} {a:Act} {w:World} {c:Ctx}
end
end Go.VI
namespace Go.VI
open Go.RowKit
section
variable {P:Program} {E:Ent} {S0:Nat→Prop} {N:Nat} {σ:St} {a:Act} {w:World} {c:Ctx}
end
section
variable {G:Prg} {ops:Array Oper} {k:Nat} {σ:St} {K:St→Prop}
theorem LQ {o:Oper} (ho:Fg ops k=some o) (hg:nI ops σ o=some true) {σ':St} (h:∀ {E:Ent} {S0:Nat→Prop} {N:Nat} {a:Act} {w:World} {c:Ctx},Inv G.P E S0 N σ a w c→(∀ k,o.dst=some k→k<N)→Ew G.P E S0 N o a w σ') (next:EVS G ops (k+1) σ' K):EVS G ops k σ K:=
 Qh ho hg (fun _ E S0 N a w c hi hd nx Q hn=>h hi hd nx Q fun a' w' c' hi'=>hn _ _ _ _ next hi') fun e=>nomatch e
end
section
variable {G:Prg} {cd:Code} {σ:St} {K:PX→St→Prop}
end
end Go.VI
namespace Go.VI
def TD (m:List (Int×Int)):Prop:=(m.map (·.1)).Nodup∧∀ p ∈ m,0≤p.1
def SE (m left:List (Int×Int)) (out:Int):Prop:=
 TD m∧left.Sublist m∧((left=m∧out=-1)∨∃ v,(out,v) ∈ m∧(out,v) ∉ left∧∀ p ∈ m,p ∉ left→v<p.2∨(v=p.2∧out≤p.1))
theorem Qa {m:List (Int×Int)} {a b:Int} (h1:SE m [] a) (h2:SE m [] b):a=b:=by
 obtain ⟨hok,_,h1⟩:=h1
 obtain ⟨_,_,h2⟩:=h2
 rcases h1 with ⟨rfl,rfl⟩ | ⟨v,a1,_,a3⟩ <;> rcases h2 with ⟨e,rfl⟩ | ⟨u,b1,_,b3⟩
 ·rfl
 ·cases b1
 ·rw [← e] at a1;cases a1
 ·have p:=a3 _ b1 (by simp)
  have q:=b3 _ a1 (by simp)
  simp only at p q
  omega
end Go.VI
namespace Go.VI
def Gj (k:IntKind) (a b:Int):Int:=k.wrap (BitVec.ofInt k.bits a &&& BitVec.ofInt k.bits b).toNat
def eT (k:IntKind) (a b:Int):Int:=k.wrap (BitVec.ofInt k.bits a ^^^ BitVec.ofInt k.bits b).toNat
def cpy {α:Type} (es:List α) (lo:Nat) (ys:List α):List α:=es.take lo++ys++es.drop (lo+ys.length)
def Mu (s:ByteArray) (i:Int):Option Int:=if 0≤i then (s[i.toNat]?).map (fun b=>(b.toNat:Int)) else none
end Go.VI
namespace Go.VI
open Go.RowKit
section
variable {P:Program} {E:Ent} {S0:Nat→Prop} {N:Nat} {σ:St} {a:Act} {w:World} {c:Ctx}
theorem JQ {t:TypeId} {A:Option Addr} {n cc:Nat} {e:TypeId} (ht:nV P t=some e):(binOp .eql t (.slice A n cc) (.slice none 0 0)).run P w=.ok (.bool A.isNone) w:=by
 have hu:=nU ht
 have:(Op.equal t (.slice A n cc) (.slice none 0 0)).run P w=.ok A.isNone w:=by
  unfold Op.equal
  show (Op.equalIn (9999+1) t _ _).run P w=_
  unfold Op.equalIn
  cases A <;> simp only [Sem.run_bind,run_underlying hu,Result.andThen_ok,Sem.run_pure] <;> rfl
 simp only [binOp,Sem.run_bind,this,Result.andThen_ok,Sem.run_pure]
theorem MN {o:Oper} {t t':TypeId} {x:Operand} {e:TypeId} {es:List (List PV)} (ho:o.op=.binOp .eql t x (.const (.slice none 0 0)) t') (ht:nV P t=some e) (hx:pev σ x=.sl es) (h:Inv P E S0 N σ a w c) (hd:∀ k,o.dst=some k→k<N) :
  ∃ b:Bool,(b=true→es=[])∧Ew P E S0 N o a w (Res.put σ o.dst (.val (.lit (.bool b)))):=by
 have rx:=h.ev x
 rw [hx] at rx
 obtain ⟨A,n,cc,hX,hA⟩:∃ A n cc,a.eval x=.slice A n cc∧(A.isNone=true→es=[]):=by
  generalize a.eval x=X at rx
  cases rx with
  | free _ _ hf=>cases hf with
    | sl _ k A n cc vf hn hk hk0 hc ha =>
      refine ⟨A,n,cc,rfl,fun hq=>?_⟩
      rcases es with _ | ⟨y,ys⟩
      ·rfl
      ·obtain ⟨ad,h1,_⟩:=ha (by simp)
       rw [h1] at hq;cases hq
 refine ⟨A.isNone,hA,bY h hd ?_ (.free _ _ (.lit _))⟩
 unfold execOp
 have hg:(eqGuard .eql t x (.const (.slice none 0 0)) (.slice A n cc) (.slice none 0 0)).run P w=.ok () w:=by
  unfold eqGuard;rfl
 have hY:a.eval (.const (.slice none 0 0))=.slice none 0 0:=rfl
 simp only [ho,hX,hY,Sem.run_bind,hg,JQ ht,Result.andThen_ok,Sem.run_pure]
theorem IB {o:Oper} {t e:TypeId} {len:Nat} {parts:Array (Nat×Operand)} (ho:o.op=.buildSlice t len parts) (ht:nV P t=some e) (hidx:parts.toList.map (·.1)=List.range len) (hk:0<aM P e) (hlim:len*aM P e≤16777216)
  (hrow:Kh P e=true) (hall:(parts.toList.all fun p=>(pev σ p.2).cells.length==aM P e&&(pev σ p.2).cells.all PV.still)=true) (h:Inv P E S0 N σ a w c) (hd:∀ k,o.dst=some k→k<N) :
  Ew P E S0 N o a w (Res.put σ o.dst (.new (o.dst.getD 0) (.row e [] (parts.toList.map fun p=>(pev σ p.2).cells)) (.row (.top (o.dst.getD 0)) e))):=by
 obtain ⟨i,z,hi,hz,hsz,hby,hzs,hsize⟩:=yZ hrow
 have hlen:parts.toList.length=len:=by have:=congrArg List.length hidx;simpa using this
 let cells:List Value:=parts.toList.flatMap fun p=>(a.eval p.2).cells.toList
 have each:∀ p ∈ parts.toList,(pev σ p.2).cells.length=aM P e∧(pev σ p.2).cells.all PV.still=true:=fun p hp=>by
  have:=List.all_eq_true.1 hall p hp
  simpa using this
 have rep:∀ p ∈ parts.toList,(a.eval p.2).cells.size=aM P e∧∀ (j:Nat) pv,(pev σ p.2).cells[j]?=some pv→RF w c.S pv ((a.eval p.2).cells.getD j undef)∧((a.eval p.2).cells.getD j undef).oneCell'=true:=fun p hp=>by
  obtain ⟨q1,q2⟩:=each p hp
  obtain ⟨q3,q4⟩:=(h.ev p.2).cells (Gu q2)
  exact ⟨by omega,fun j pv hg=>⟨(q4 j pv hg).1.UX (Ps (List.all_eq_true.1 q2 pv (List.mem_of_getElem? hg))),(q4 j pv hg).2⟩⟩
 have hrun:(Instr.buildSlice t len (parts.map fun p=>(p.1,a.eval p.2))).run P w=.ok (.slice (some ⟨w.heap.size,0,none⟩) len len) (w.alloc (.cells cells.toArray e)):=Ms ht hidx hk hlim hrow fun p hp=>(rep p hp).1
 have hexec:(execOp a.eval o).run P w=.ok (.value (.slice (some ⟨w.heap.size,0,none⟩) len len)) (w.alloc (.cells cells.toArray e)):=by
  unfold execOp
  simp only [ho,Sem.run_bind,hrun,Result.andThen_ok,Sem.run_pure]
 have hb:Below w.heap.size w (w.alloc (.cells cells.toArray e)):=(Below.refl _ _).alloc (Nat.le_refl _) _
 have hcsz:∀ p ∈ parts.toList,(a.eval p.2).cells.toList.length=aM P e:=fun p hp=>by simpa using (rep p hp).1
 have hcl:cells.length=len*aM P e:=by
  have:∀ l:List (Nat×Operand),(∀ p ∈ l,(a.eval p.2).cells.toList.length=aM P e)→(l.flatMap fun p=>(a.eval p.2).cells.toList).length=l.length*aM P e:=by
   intro l
   induction l with
   | nil=>intro _;simp
   | cons p l ih =>
     intro hl
     rw [List.flatMap_cons,List.length_append,hl p (by simp),ih fun q hq=>hl q (by simp [hq]),List.length_cons,Nat.add_mul];omega
  rw [← hlen];exact this _ hcsz
 have hg:∀ i j pv,dZ (parts.toList.map fun p=>(pev σ p.2).cells) i j=some pv→∃ p,p ∈ parts.toList∧(pev σ p.2).cells[j]?=some pv∧j<aM P e∧i<len∧cells[i*aM P e+j]?=some ((a.eval p.2).cells.getD j undef):=by
  intro i j pv hg
  unfold dZ at hg
  rw [List.getElem?_map] at hg
  cases hp:parts.toList[i]? with
  | none=>simp [hp] at hg
  | some p =>
    simp only [hp,Option.map_some,Option.bind_some] at hg
    have hmem:=List.mem_of_getElem? hp
    have hj:j<aM P e:=by
     rcases Nat.lt_or_ge j (pev σ p.2).cells.length with q | q
     ·rw [(each p hmem).1] at q;exact q
     ·rw [List.getElem?_eq_none q] at hg;cases hg
    have hi':i<len:=by
     rcases Nat.lt_or_ge i parts.toList.length with q | q
     ·omega
     ·rw [List.getElem?_eq_none q] at hp;cases hp
    refine ⟨p,hmem,hg,hj,hi', ?_⟩
    rw [Vi (aM P e) parts.toList (fun p=>(a.eval p.2).cells.toList) hcsz i j hj,hp]
    simp only [Option.bind_some]
    rw [Array.getElem?_toList]
    exact Ko (by have:=(rep p hmem).1;omega)
 let c':=c.lay (o.dst.getD 0) w.heap.size (.slice (some ⟨w.heap.size,0,none⟩) len len) e True
 have hok:c'.Ok E.M (w.alloc (.cells cells.toArray e)):=Jg h.ok hb.size (fun _=>⟨h.below.mine (Nat.le_refl _),by simp,fun hS=>by have:=h.ok.hS _ hS;omega⟩) fun _ k' _ hg' e=>by have:=(h.ok.hD k' hg').2.1;omega
 have hhd:c'.hd (.top (o.dst.getD 0))=.slice (some ⟨w.heap.size,0,none⟩) len len:=dO.2.1
 have hrep:sR P (w.alloc (.cells cells.toArray e)) c' (o.dst.getD 0) (.row e [] (parts.toList.map fun p=>(pev σ p.2).cells)):=by
  refine ⟨cells,dO.2.2.1,hk,fun l hl=>?_, ?_,fun b hb'=>?_,fun i j pv hgE=>?_,fun i j pv hgE=>?_⟩
  ·obtain ⟨p,hp,rfl⟩:=List.mem_map.1 hl
   exact (each p hp).1
  ·rw [hhd]
   refine ⟨by rw [hcl,List.length_map,hlen],.inr ⟨w.heap.size,len,cells.toArray,by rw [List.length_map,hlen],Nat.zero_le _,heap_alloc_new w _,by rw [List.length_map,hlen];exact Nat.le_refl _, ?_,by simp [hcl], ?_⟩⟩
   ·have:=Nat.le_mul_of_pos_right len hk
    unfold maxLen;omega
   ·rw [List.length_map,hlen,← hcl];simp
  ·rw [hhd] at hb'
   simp [Value.ownBlock] at hb';subst hb'
   exact ⟨dO.2.2.2.2 trivial,dO.1⟩
  ·obtain ⟨p,hp,q1,_,_,q⟩:=hg i j pv hgE
   rw [List.getD_eq_getElem?_getD,q]
   exact ((rep p hp).2 j pv q1).2
  ·obtain ⟨p,hp,q1,_,_,q⟩:=hg i j pv hgE
   rw [List.getD_eq_getElem?_getD,q]
   exact (((rep p hp).2 j pv q1).1).same (fun b hS=>hb.block b (h.ok.hS b hS)) fun b hb=>hb
 refine Jr (Js h hd) h hd hexec hb hok (fun _=>Iff.rfl) (fun k hk=>⟨mF hk,(Hl hk).2⟩) hrep ?_
 obtain ⟨xs',r'⟩:=hrep
 have:=RV.row (P:=P) (w:=w.alloc (.cells cells.toArray e)) (c:=c') (.top (o.dst.getD 0)) e r'.ty r'.Hf
 rwa [hhd] at this
end
section
variable {G:Prg} {ops:Array Oper} {k:Nat} {σ:St} {K:St→Prop}
theorem LM {o:Oper} (ho:Fg ops k=some o) (hg:nI ops σ o=some true) {σ':St} (h:∀ {E:Ent} {S0:Nat→Prop} {N:Nat} {a:Act} {w:World} {c:Ctx},Inv G.P E S0 N σ a w c→(∀ k,o.dst=some k→k<N)→Ew G.P E S0 N o a w σ') (next:EVO G ops (k+1) σ' K):EVO G ops k σ K:=
 Tx ho hg (fun _ E S0 N a w c hi hd nx Q hn=>h hi hd nx Q fun a' w' c' hi'=>hn _ _ _ _ next hi') fun e=>nomatch e
def Ch (G:Prg) (ops:Array Oper) (k:Nat) (σ:St) (r:Res):Prop:=∃ o,Fg ops k=some o∧nI ops σ o=some true∧∀ {E:Ent} {S0:Nat→Prop} {N:Nat} {a:Act} {w:World} {c:Ctx},Inv G.P E S0 N σ a w c→(∀ k,o.dst=some k→k<N)→Ew G.P E S0 N o a w (r.put σ o.dst)
theorem pY {r:Res} (h:Ch G ops k σ r) (next:EVS G ops (k+1) (r.put σ (iM ops k)) K):EVS G ops k σ K:=by
 obtain ⟨o,h1,h2,h3⟩:=h
 rw [Aa h1] at next
 exact LQ h1 h2 h3 next
theorem TZ {r:Res} (h:Ch G ops k σ r) (next:EVO G ops (k+1) (r.put σ (iM ops k)) K):EVO G ops k σ K:=by
 obtain ⟨o,h1,h2,h3⟩:=h
 rw [Aa h1] at next
 exact LM h1 h2 h3 next
def FZ (G:Prg) (ops:Array Oper) (k:Nat) (σ:St):Option PV:=match Gl ops k σ with
 | some o=>(match o.op with
   | .binOp .eql t x (.const (.slice none 0 0)) _=>(match nV G.P t with
     | some _=>some (pev σ x)
     | none=>none)
   | _=>none)
 | none=>none
theorem IP {es:List (List PV)} (h:FZ G ops k σ=some (.sl es)) (h1:es=[]→EVS G ops (k+1) (rE σ (iM ops k) (vB true)) K) (h2:EVS G ops (k+1) (rE σ (iM ops k) (vB false)) K):EVS G ops k σ K:=by
 unfold FZ at h
 split at h
 case h_2=>cases h
 rename_i o ho
 split at h
 case h_2=>cases h
 rename_i t x t' hop
 split at h
 case h_2=>cases h
 rename_i e he
 injection h with hx
 obtain ⟨q1,q2⟩:=jQ ho
 rw [Aa q1] at h1 h2
 refine Qh q1 q2 (fun _ E S0 N a w c hi hd nx Q hn=>?_) fun e=>nomatch e
 obtain ⟨b,hb,hdo⟩:=MN hop he hx hi hd
 refine hdo nx Q fun a' w' c' hi'=>?_
 rw [put_eq] at hi'
 cases b with
 | true=>exact hn _ _ _ _ (h1 (hb rfl)) hi'
 | false=>exact hn _ _ _ _ h2 hi'
def SH (G:Prg) (ops:Array Oper) (k:Nat) (σ:St):Option (Nat×List (List PV)×Nat):=match Gl ops k σ with
 | some o=>(match o.op with
   | .buildSlice t len parts=>(match nV G.P t with
     | some e=>if decide (parts.toList.map (·.1)=List.range len)&&Nat.blt 0 (aM G.P e)&&Nat.ble (len*aM G.P e) 16777216&&Kh G.P e&&(parts.toList.all fun p=>(pev σ p.2).cells.length==aM G.P e&&(pev σ p.2).cells.all PV.still) then some (e,parts.toList.map (fun p=>(pev σ p.2).cells),o.dst.getD 0) else none
     | none=>none)
   | _=>none)
 | none=>none
theorem Jn {e d:Nat} {es:List (List PV)} (h:SH G ops k σ=some (e,es,d)):Ch G ops k σ (.new d (.row e [] es) (.row (.top d) e)):=by
 unfold SH at h
 split at h
 case h_2=>cases h
 rename_i o ho
 split at h
 case h_2=>cases h
 rename_i t len parts hop
 split at h
 case h_2=>cases h
 rename_i e' he
 split at h
 case isFalse=>cases h
 rename_i hc
 simp only [Bool.and_eq_true,decide_eq_true_eq] at hc
 obtain ⟨⟨⟨⟨c1,c2⟩,c3⟩,c4⟩,c5⟩:=hc
 simp only [Option.some.injEq,Prod.mk.injEq] at h
 obtain ⟨rfl,rfl,rfl⟩:=h
 obtain ⟨q1,q2⟩:=jQ ho
 exact ⟨o,q1,q2,fun hi hd=>IB hop he c1 (by simpa using c2) (Nat.le_of_ble_eq_true c3) c4 c5 hi hd⟩
def OM (G:Prg) (ops:Array Oper) (k:Nat) (σ:St):Option (PV×PV):=match Gl ops k σ with
 | some o=>(match o.op with
   | .index t x ix=>(match G.P.underlying t with
     | some .string=>some (pev σ x,pev σ ix)
     | _=>none)
   | _=>none)
 | none=>none
theorem Tw {s:ByteArray} {i x:Int} {kd:IntKind} (h:OM G ops k σ=some (.lit (.string s),.lit (.int kd i))) (hx:Mu s i=some x):Ch G ops k σ (.val (.lit (.int .u8 x))):=by
 unfold OM at h
 split at h
 case h_2=>cases h
 rename_i o ho
 split at h
 case h_2=>cases h
 rename_i t y z hop
 split at h
 case h_2=>cases h
 rename_i hu
 simp only [Option.some.injEq,Prod.mk.injEq] at h
 obtain ⟨h1,h2⟩:=h
 obtain ⟨q1,q2⟩:=jQ ho
 refine ⟨o,q1,q2,fun hi hd=>?_⟩
 have r1:=hi.ev y
 rw [h1] at r1
 have r2:=hi.ev z
 rw [h2] at r2
 refine bY hi hd ?_ (.free _ _ (.lit _))
 unfold Mu at hx
 split at hx
 case isFalse=>cases hx
 rename_i h0
 obtain ⟨b,hb,rfl⟩:=Option.map_eq_some_iff.1 hx
 unfold execOp
 simp only [hop,r1.lL,r2.lL,Instr.index,asIntOf,Sem.run_bind,Sem.run_pure,Result.andThen_ok,run_underlying hu,h0,if_true,hb]
end
end Go.VI
namespace Go.VI
open Go.RowKit
theorem Vc {α:Type} {es ys:List α} {lo:Nat} (h:lo+ys.length≤es.length):(cpy es lo ys).length=es.length:=by unfold cpy;simp;omega
theorem FO {α:Type} {es ys:List α} {lo:Nat} (h:lo+ys.length≤es.length) (i:Nat):(cpy es lo ys)[i]?=if lo≤i∧i<lo+ys.length then ys[i-lo]? else es[i]?:=by
 have ht:(es.take lo).length=lo:=by simp;omega
 unfold cpy
 by_cases h1:i<lo
 ·rw [List.append_assoc,List.getElem?_append_left (by omega),List.getElem?_take,if_pos h1,if_neg (by omega)]
 ·by_cases h2:i<lo+ys.length
  ·rw [List.append_assoc,List.getElem?_append_right (by omega),ht,List.getElem?_append_left (by omega),if_pos ⟨by omega,h2⟩]
  ·rw [List.getElem?_append_right (by simp;omega),List.getElem?_drop,if_neg (by omega)]
   have:(List.take lo es++ys).length=lo+ys.length:=by simp;omega
   rw [this,show lo+ys.length+(i-(lo+ys.length))=i from by omega]
theorem FP {α β:Type} (f:α→β) (es ys:List α) (lo:Nat):(cpy es lo ys).map f=cpy (es.map f) lo (ys.map f):=by unfold cpy;simp
def Td (h:HP) (g:Nat):PV→Option (Nat×Nat)
 | .row (.top g') _=>if Nat.beq g' g=true then (match h.get g with
   | some (.row _ _ es)=>some (0,es.length)
   | _=>none) else none
 | .part (.top g') _ lo n=>if Nat.beq g' g=true then some (lo,n) else none
 | _=>none
def FK (m g:Nat):PV→Option (Nat×Nat)
 | .row (.top g') _=>if Nat.beq g' g=true then some (0,m) else none
 | .part (.top g') _ lo n=>if Nat.beq g' g=true then some (lo,n) else none
 | _=>none
theorem FL {h:HP} {g e m:Nat} {J:List (Nat×Nat)} {es:List (List PV)} (hg:h.get g=some (.row e J es)) (hm:es.length=m) (x:PV):Td h g x=FK m g x:=by
 cases x with
 | row k0 e0 =>
   cases k0 with
   | top g0 =>
     simp only [Td,FK]
     split
     ·rw [hg];simp [hm]
     ·rfl
   | sub=>rfl
 | part k0 e0 lo0 n0=>cases k0 <;> rfl
 | _=>rfl
theorem Lp (c:Array Value) (m:Nat):c.toList.getD m undef=c.getD m undef:=by simp [Array.getD_eq_getD_getElem?]
section
variable {P:Program} {E:Ent} {S0:Nat→Prop} {N:Nat} {σ:St} {a:Act} {w:World} {c:Ctx}
theorem AZ {e g lo n:Nat} {d:PV} {V:Value} {es:List (List PV)} {xs0:List Value} (r:pK P w c (.top g) e es (eZ P w c g []) xs0) (hg:σ.hget g=some (.row e [] es)) (hd0:Td σ.h g d=some (lo,n)) (rd:RV P w c d V) :
  ∃ B cc',V=.slice B n cc'∧(0<n→B=some ⟨c.τ (.top g),lo*aM P e,none⟩):=by
 cases rd with
 | free pv v hf=>cases hf <;> simp [Td] at hd0
 | row k e' he h1 =>
   cases k with
   | sub=>simp [Td] at hd0
   | top g' =>
     simp only [Td] at hd0
     split at hd0
     case isFalse=>cases hd0
     rename_i hb
     have:=Nat.eq_of_beq_eq_true hb
     subst this
     rw [show σ.h.get g'=some (.row e [] es) from hg] at hd0
     simp only [Option.some.injEq,Prod.mk.injEq] at hd0
     obtain ⟨rfl,rfl⟩:=hd0
     rcases r.own.2 with ⟨h0,hn⟩ | ⟨g2,cap,cur,h0,_⟩
     ·exact ⟨none,0,by rw [h0,hn],fun q=>by omega⟩
     ·have hob:(c.hd (.top g')).ownBlock=some g2:=by rw [h0];rfl
      obtain ⟨_,hτ⟩:=r.blk g2 hob
      exact ⟨_,cap,h0,fun _=>by rw [hτ,Nat.zero_mul]⟩
 | part k e' lo' n' B cc' he hn hB =>
   cases k with
   | sub=>simp [Td] at hd0
   | top g' =>
     simp only [Td] at hd0
     split at hd0
     case isFalse=>cases hd0
     rename_i hb
     have:=Nat.eq_of_beq_eq_true hb
     subst this
     simp only [Option.some.injEq,Prod.mk.injEq] at hd0
     obtain ⟨rfl,rfl⟩:=hd0
     have e1:e'=e:=he.symm.trans r.ty
     subst e1
     exact ⟨B,cc',rfl,hB⟩
 | _=>simp [Td] at hd0
theorem NX {e g lo m:Nat} {es xs:List (List PV)} {xs0 news:List Value} (r:pK P w c (.top g) e es (eZ P w c g []) xs0) (hlen:∀ l ∈ xs,l.length=aM P e) (hnl:news.length=xs.length*aM P e) (hone:∀ u ∈ news,u.oneCell'=true)
  (hrep:∀ i j pv,dZ xs i j=some pv→RF w c.S pv (news.getD (i*aM P e+j) undef)) (hm1:m≤xs.length) (hfit:lo+m≤es.length) (hmp:0<m) (h:Inv P E S0 N σ a w c) :
  ∃ (g':Nat) (cur:Array Value),c.τ (.top g)=g'∧(∃ cap',c.hd (.top g)=.slice (some ⟨g',0,none⟩) es.length cap')∧(storeCells ⟨g',lo*aM P e,none⟩ (news.take (m*aM P e))).run P w=.ok () (w.setRow g' (kH cur (lo*aM P e) (news.take (m*aM P e)))) ∧
    Inv P E S0 N (σ.put g (.row e [] (cpy es lo (xs.take m)))) a (w.setRow g' (kH cur (lo*aM P e) (news.take (m*aM P e)))) c:=by
 have hyl:(xs.take m).length=m:=by simp;omega
 obtain ⟨hl,⟨_,hn⟩ | ⟨g',cap',cur,hv,hb,hgc,hnc,hcm,hcs,htake⟩⟩:=r.own
 ·omega
 have hob:(c.hd (.top g)).ownBlock=some g':=by rw [hv];rfl
 obtain ⟨hDk,hτ⟩:=r.blk g' hob
 let ns:=news.take (m*aM P e)
 have hmul:m*aM P e≤news.length:=by rw [hnl];exact Nat.mul_le_mul_right _ hm1
 have hnsl:ns.length=m*aM P e:=by simp only [ns,List.length_take];omega
 have hns1:∀ v ∈ ns,v.oneCell'=true:=fun v hv'=>hone v (List.mem_of_mem_take hv')
 have hfit2:lo*aM P e+ns.length≤cur.size:=by
  rw [hnsl,hcs,← Nat.add_mul]
  exact Nat.mul_le_mul_right _ (by omega)
 have hst:=run_storeCells_at (P:=P) g' (lo*aM P e) e ns 0 cur w hgc (by simpa using hfit2) hns1
 simp only [Nat.add_zero] at hst
 let c1:=kH cur (lo*aM P e) ns
 have hst':(storeCells ⟨g',lo*aM P e,none⟩ ns).run P w=.ok () (w.setRow g' c1):=by simpa [c1,kH] using hst
 have hcl:=Vc (es:=es) (ys:=xs.take m) (lo:=lo) (by omega)
 have hkl:∀ l ∈ cpy es lo (xs.take m),l.length=aM P e:=fun l hl'=>by
  unfold cpy at hl'
  simp only [List.mem_append] at hl'
  rcases hl' with (q | q) | q
  ·exact r.len l (List.mem_of_mem_take q)
  ·exact hlen l (List.mem_of_mem_take q)
  ·exact r.len l (List.mem_of_mem_drop q)
 have hgE:∀ i j pv,dZ (cpy es lo (xs.take m)) i j=some pv→(lo≤i∧i<lo+m∧dZ xs (i-lo) j=some pv)∨(¬ (lo≤i∧i<lo+m)∧dZ es i j=some pv):=fun i j pv hg'=>by
  unfold dZ at hg' ⊢
  rw [FO (by omega),hyl] at hg'
  split at hg'
  ·rename_i q
   rw [List.getElem?_take,if_pos (by omega)] at hg'
   exact .inl ⟨q.1,q.2,hg'⟩
  ·rename_i q
   exact .inr ⟨q,hg'⟩
 have hval : ∀ i j,j<aM P e→i<es.length→c1.getD (i*aM P e+j) undef=if lo≤i∧i<lo+m then news.getD ((i-lo)*aM P e+j) undef else xs0.getD (i*aM P e+j) undef:=fun i j hj hi=>by
  have hlt:=mO hi hj
  rw [Bu hfit2,hnsl]
  have iff_:(lo*aM P e≤i*aM P e+j∧i*aM P e+j<lo*aM P e+m*aM P e)↔(lo≤i∧i<lo+m):=by
   rw [← Nat.add_mul]
   constructor
   ·rintro ⟨q1,q2⟩
    refine ⟨?_, ?_⟩
    ·rcases Nat.lt_or_ge i lo with q | q
     ·have:=Nat.mul_le_mul_right (aM P e) (show i+1≤lo from q)
      rw [Nat.add_mul] at this;omega
     ·exact q
    ·rcases Nat.lt_or_ge i (lo+m) with q | q
     ·exact q
     ·have:=Nat.mul_le_mul_right (aM P e) q;omega
   ·rintro ⟨q1,q2⟩
    have h1:=Nat.mul_le_mul_right (aM P e) q1
    have h2:=Nat.mul_le_mul_right (aM P e) (show i+1≤lo+m from q2)
    rw [Nat.add_mul] at h2
    omega
  by_cases q:lo≤i∧i<lo+m
  ·rw [if_pos (iff_.2 q),if_pos q]
   have e1:i*aM P e+j-lo*aM P e=(i-lo)*aM P e+j:=by rw [Nat.sub_mul];have:=Nat.mul_le_mul_right (aM P e) q.1;omega
   have hin:(i-lo)*aM P e+j<m*aM P e:=mO (by omega) hj
   rw [e1,rM _ _ _ hin]
  ·rw [if_neg (fun hh=>q (iff_.1 hh)),if_neg q,← htake,rM _ _ _ hlt]
   simp [Array.getD_eq_getD_getElem?]
 have hrow:sR P (w.setRow g' c1) c g (.row e [] (cpy es lo (xs.take m))):=by
  have hh':(w.setRow g' c1).heap[g']?=some (.cells c1 e (0,0)):=by
   unfold World.setRow
   rw [Array.getElem?_modify,if_pos rfl,hgc];rfl
  refine ⟨c1.toList.take (es.length*aM P e),r.ty,r.pos,hkl, ?_,r.blk,fun i j pv hg'=>?_,fun i j pv hg'=>?_⟩
  ·rw [hcl]
   have hc1:c1.size=cur.size:=Fp hfit2
   refine ⟨?_,.inr ⟨g',cap',c1,hv,hb,hh',hnc,hcm,by rw [hc1,hcs],rfl⟩⟩
   simp only [List.length_take,Array.length_toList,hc1,hcs]
   have:=Nat.mul_le_mul_right (aM P e) hnc
   omega
  ·have hlt:=mS hkl hg'
   rw [hcl] at hlt
   rw [rM _ _ _ (mO hlt.1 hlt.2),Lp,hval i j hlt.2 hlt.1]
   rcases hgE i j pv hg' with ⟨q1,q2,q3⟩ | ⟨q1,q3⟩
   ·rw [if_pos ⟨q1,q2⟩]
    have hlt2:=mS hlen q3
    have hin:=mO hlt2.1 hlt2.2
    rw [← hnl] at hin
    rw [List.getD_eq_getElem?_getD,List.getElem?_eq_getElem hin]
    exact hone _ (List.getElem_mem hin)
   ·rw [if_neg q1];exact r.one i j pv q3
  ·have hlt:=mS hkl hg'
   rw [hcl] at hlt
   rw [rM _ _ _ (mO hlt.1 hlt.2),Lp,hval i j hlt.2 hlt.1]
   have hsame:Iz c.S w (w.setRow g' c1):=fun b hS=>setRow_other w g' b c1 fun q=>(h.ok.hD _ hDk).2.2 (by rw [hτ];exact q ▸ hS)
   have lift:∀ {v:Value},RF w c.S pv v→RF (w.setRow g' c1) c.S pv v:=fun hr=>RF.same hsame (fun _ h=>h) hr
   have:RF (w.setRow g' c1) c.S pv (if lo≤i∧i<lo+m then news.getD ((i-lo)*aM P e+j) undef else xs0.getD (i*aM P e+j) undef):=by
    rcases hgE i j pv hg' with ⟨q1,q2,q3⟩ | ⟨q1,q3⟩
    ·rw [if_pos ⟨q1,q2⟩];exact lift (hrep _ _ pv q3)
    ·rw [if_neg q1];exact lift (r.rep i j pv q3)
   exact this
 have hinv:=h.write (k0:=.top g) hDk c1 (o:=.row e [] (cpy es lo (xs.take m))) (by rw [hτ];exact hrow)
 rw [hτ] at hinv
 exact ⟨g',cur,hτ,⟨cap',hv⟩,hst',hinv⟩
theorem QF {o : Oper} {t t' e g lo n:Nat} {d x:Operand} {es xs:List (List PV)} (ho:o.op=.call { callee:=.builtin .copy,args:=#[d,x],argTypes:=#[t,t'] }) (ht:nV P t=some e) (hinfo:∃ i,P.info? e=some i)
  (hg:σ.hget g=some (.row e [] es)) (hd0:Td σ.h g (pev σ d)=some (lo,n)) (hfit:lo+n≤es.length) (hxs:(pev σ x).elems σ.h=some xs) (hflat:(pev σ x).flat σ.h=true) (hlen:∀ l ∈ xs,l.length=aM P e)
  (h:Inv P E S0 N σ a w c) (hd:∀ k,o.dst=some k→k<N) :
  Ew P E S0 N o a w (Res.put σ o.dst ⟨[],[(g,.row e [] (cpy es lo (xs.take (min xs.length n))))],.lit (.int .i64 (min xs.length n:Nat))⟩):=by
 obtain ⟨xs0,r⟩:=h.fY g _ hg
 have hk0:=r.pos
 -- the source
 obtain ⟨A,cc,news,hX,hnl,hA,hcells,hone,hrep⟩:=Nc h.fY (h.ev x) hxs hflat hlen hk0
 have hD:=AZ r hg hd0 (h.ev d)
 obtain ⟨B,cc',hV,hB⟩:=hD
 have hu:=nU ht
 generalize hm:min xs.length n=m
 have hm1:m≤xs.length:=by omega
 have hm2:m≤n:=by omega
 have hmn:Nat.min xs.length n=m:=hm
 have hyl:(xs.take m).length=m:=by simp;omega
 -- nothing to be copied
 rcases Nat.eq_zero_or_pos m with hm0 | hmp
 ·have hrun:(Builtin.copy_ #[t,t'] o.type #[a.eval d,a.eval x]).run P w=.ok (goInt 0) w:=by
   rw [hV,hX]
   have hfc:(Builtin.firstCells (aM P e) 0 (.slice A xs.length cc)).run P w=.ok #[] w:=by
    cases A with
    | none=>exact run_firstCells_none (P:=P) (w:=w) (aM P e) 0 xs.length cc
    | some ad => have := run_firstCells_some (P := P) (w := w) (aM P e) 0 ad xs.length cc [] (by simp) (by simp)
                 simpa using this
   unfold Builtin.copy_
   simp only [List.getElem?_toArray,List.getElem?_cons_zero,List.getElem?_cons_succ,Sem.run_bind,run_underlying hu,Result.andThen_ok,Builtin.lenOf,Sem.run_pure,hmn,hm0,run_sizeOf hinfo,hfc]
   cases B <;> simp [storeCells,Sem.run_bind,Sem.run_pure]
  have hexec:(execOp a.eval o).run P w=.ok (.value (.int .i64 0)) w:=by
   unfold execOp
   simp only [ho,resolve,invoke,builtin,Sem.run_bind,Sem.run_pure,Result.andThen_ok,List.map_toArray,List.map_cons,List.map_nil,hrun]
   rfl
  have hes:cpy es lo (xs.take m)=es:=by rw [hm0];unfold cpy;simp
  rw [hes]
  have hinv:Inv P E S0 N (σ.put g (.row e [] es)) a w c:=by
   refine ⟨h.below,h.ok,h.sub,h.sup,h.slots,fun g' o' hg'=>?_,h.pin,h.small,h.size,h.defers⟩
   rw [fQ] at hg'
   split at hg'
   ·rename_i e';subst e';injection hg' with hg';subst hg';exact h.fY _ _ hg
   ·exact h.fY g' o' hg'
  have:=pS (σ:=σ) (r:=⟨[],[(g,.row e [] es)],.lit (.int .i64 (m:Nat))⟩) (c':=c) hd (.inl hexec) hinv (by rw [hm0];exact .free _ _ (.lit _))
  exact this
 ·-- the row's block
  obtain ⟨hl,⟨_,hn⟩ | ⟨g',cap',cur,hv,hb,hgc,hnc,hcm,hcs,htake⟩⟩:=r.own
  ·omega
  have hob:(c.hd (.top g)).ownBlock=some g':=by rw [hv];rfl
  obtain ⟨hDk,hτ⟩:=r.blk g' hob
  have hBs:=hB (by omega)
  obtain ⟨ad,had⟩:=hA (by intro q;rw [q] at hm1;simp at hm1;omega)
  let ns:=news.take (m*aM P e)
  have hmul:m*aM P e≤news.length:=by rw [hnl];exact Nat.mul_le_mul_right _ hm1
  have hnsl:ns.length=m*aM P e:=by simp only [ns,List.length_take];omega
  have hfc:(Builtin.firstCells (aM P e) m (.slice (some ad) xs.length cc)).run P w=.ok ns.toArray w:=by
   refine run_firstCells_some (P:=P) (w:=w) (aM P e) m ad xs.length cc ns hnsl fun j v hj=>?_
   have:news[j]?=some v:=by
    simp only [ns,List.getElem?_take] at hj
    split at hj
    ·exact hj
    ·cases hj
   exact hcells ad had j v this
  have hns1:∀ v ∈ ns,v.oneCell'=true:=fun v hv'=>hone v (List.mem_of_mem_take hv')
  have hfit2:lo*aM P e+ns.length≤cur.size:=by
   rw [hnsl,hcs,← Nat.add_mul]
   exact Nat.mul_le_mul_right _ (by omega)
  have hst:=run_storeCells_at (P:=P) g' (lo*aM P e) e ns 0 cur w hgc (by simpa using hfit2) hns1
  simp only [Nat.add_zero] at hst
  let c1:=kH cur (lo*aM P e) ns
  have hst':(storeCells ⟨g',lo*aM P e,none⟩ ns).run P w=.ok () (w.setRow g' c1):=by simpa [c1,kH] using hst
  have hrun:(Builtin.copy_ #[t,t'] o.type #[a.eval d,a.eval x]).run P w=.ok (goInt m) (w.setRow g' c1):=by
   rw [hV,hX,hBs,had,hτ]
   unfold Builtin.copy_
   simp only [List.getElem?_toArray,List.getElem?_cons_zero,List.getElem?_cons_succ,Sem.run_bind,run_underlying hu,Result.andThen_ok,Builtin.lenOf,Sem.run_pure,hmn,run_sizeOf hinfo,hfc,hst']
  have hexec:(execOp a.eval o).run P w=.ok (.value (.int .i64 (m:Nat))) (w.setRow g' c1):=by
   unfold execOp
   simp only [ho,resolve,invoke,builtin,Sem.run_bind,Sem.run_pure,Result.andThen_ok,List.map_toArray,List.map_cons,List.map_nil,hrun]
   rfl
  have hcl:=Vc (es:=es) (ys:=xs.take m) (lo:=lo) (by omega)
  have hkl:∀ l ∈ cpy es lo (xs.take m),l.length=aM P e:=fun l hl'=>by
   unfold cpy at hl'
   simp only [List.mem_append] at hl'
   rcases hl' with (q | q) | q
   ·exact r.len l (List.mem_of_mem_take q)
   ·exact hlen l (List.mem_of_mem_take q)
   ·exact r.len l (List.mem_of_mem_drop q)
  have hgE:∀ i j pv,dZ (cpy es lo (xs.take m)) i j=some pv→(lo≤i∧i<lo+m∧dZ xs (i-lo) j=some pv)∨(¬ (lo≤i∧i<lo+m)∧dZ es i j=some pv):=fun i j pv hg'=>by
   unfold dZ at hg' ⊢
   rw [FO (by omega),hyl] at hg'
   split at hg'
   ·rename_i q
    rw [List.getElem?_take,if_pos (by omega)] at hg'
    exact .inl ⟨q.1,q.2,hg'⟩
   ·rename_i q
    exact .inr ⟨q,hg'⟩
  have hval : ∀ i j,j<aM P e→i<es.length→c1.getD (i*aM P e+j) undef=if lo≤i∧i<lo+m then news.getD ((i-lo)*aM P e+j) undef else xs0.getD (i*aM P e+j) undef:=fun i j hj hi=>by
   have hlt:=mO hi hj
   rw [Bu hfit2,hnsl]
   have iff_:(lo*aM P e≤i*aM P e+j∧i*aM P e+j<lo*aM P e+m*aM P e)↔(lo≤i∧i<lo+m):=by
    rw [← Nat.add_mul]
    constructor
    ·rintro ⟨q1,q2⟩
     refine ⟨?_, ?_⟩
     ·rcases Nat.lt_or_ge i lo with q | q
      ·have:=Nat.mul_le_mul_right (aM P e) (show i+1≤lo from q)
       rw [Nat.add_mul] at this;omega
      ·exact q
     ·rcases Nat.lt_or_ge i (lo+m) with q | q
      ·exact q
      ·have:=Nat.mul_le_mul_right (aM P e) q;omega
    ·rintro ⟨q1,q2⟩
     have h1:=Nat.mul_le_mul_right (aM P e) q1
     have h2:=Nat.mul_le_mul_right (aM P e) (show i+1≤lo+m from q2)
     rw [Nat.add_mul] at h2
     omega
   by_cases q:lo≤i∧i<lo+m
   ·rw [if_pos (iff_.2 q),if_pos q]
    have e1:i*aM P e+j-lo*aM P e=(i-lo)*aM P e+j:=by rw [Nat.sub_mul];have:=Nat.mul_le_mul_right (aM P e) q.1;omega
    have hin:(i-lo)*aM P e+j<m*aM P e:=mO (by omega) hj
    rw [e1,rM _ _ _ hin]
   ·rw [if_neg (fun hh=>q (iff_.1 hh)),if_neg q,← htake,rM _ _ _ hlt]
    simp [Array.getD_eq_getD_getElem?]
  have hrow:sR P (w.setRow g' c1) c g (.row e [] (cpy es lo (xs.take m))):=by
   have hh':(w.setRow g' c1).heap[g']?=some (.cells c1 e (0,0)):=by
    unfold World.setRow
    rw [Array.getElem?_modify,if_pos rfl,hgc];rfl
   refine ⟨c1.toList.take (es.length*aM P e),r.ty,r.pos,hkl, ?_,r.blk,fun i j pv hg'=>?_,fun i j pv hg'=>?_⟩
   ·rw [hcl]
    have hc1:c1.size=cur.size:=Fp hfit2
    refine ⟨?_,.inr ⟨g',cap',c1,hv,hb,hh',hnc,hcm,by rw [hc1,hcs],rfl⟩⟩
    simp only [List.length_take,Array.length_toList,hc1,hcs]
    have:=Nat.mul_le_mul_right (aM P e) hnc
    omega
   ·have hlt:=mS hkl hg'
    rw [hcl] at hlt
    rw [rM _ _ _ (mO hlt.1 hlt.2),Lp,hval i j hlt.2 hlt.1]
    rcases hgE i j pv hg' with ⟨q1,q2,q3⟩ | ⟨q1,q3⟩
    ·rw [if_pos ⟨q1,q2⟩]
     have hlt2:=mS hlen q3
     have hin:=mO hlt2.1 hlt2.2
     rw [← hnl] at hin
     rw [List.getD_eq_getElem?_getD,List.getElem?_eq_getElem hin]
     exact hone _ (List.getElem_mem hin)
    ·rw [if_neg q1];exact r.one i j pv q3
   ·have hlt:=mS hkl hg'
    rw [hcl] at hlt
    rw [rM _ _ _ (mO hlt.1 hlt.2),Lp,hval i j hlt.2 hlt.1]
    have hsame:Iz c.S w (w.setRow g' c1):=fun b hS=>setRow_other w g' b c1 fun q=>(h.ok.hD _ hDk).2.2 (by rw [hτ];exact q ▸ hS)
    have lift:∀ {v:Value},RF w c.S pv v→RF (w.setRow g' c1) c.S pv v:=fun hr=>RF.same hsame (fun _ h=>h) hr
    have:RF (w.setRow g' c1) c.S pv (if lo≤i∧i<lo+m then news.getD ((i-lo)*aM P e+j) undef else xs0.getD (i*aM P e+j) undef):=by
     rcases hgE i j pv hg' with ⟨q1,q2,q3⟩ | ⟨q1,q3⟩
     ·rw [if_pos ⟨q1,q2⟩];exact lift (hrep _ _ pv q3)
     ·rw [if_neg q1];exact lift (r.rep i j pv q3)
    exact this
  have hinv:=h.write (k0:=.top g) hDk c1 (o:=.row e [] (cpy es lo (xs.take m))) (by rw [hτ];exact hrow)
  rw [hτ] at hinv
  exact pS (σ:=σ) (r:=⟨[],[(g,.row e [] (cpy es lo (xs.take m)))],.lit (.int .i64 (m:Nat))⟩) (c':=c) hd (.inl hexec) hinv (.free _ _ (.lit _))
theorem Ox (z:Array Value) (n:Nat):(Builtin.zeroCells z n).toList.length=n*z.size:=by simp [Builtin.zeroCells]
theorem Xu {z:Array Value} {n i j:Nat} (hi:i<n) (hj:j<z.size):(Builtin.zeroCells z n).toList.getD (i*z.size+j) undef=z.getD j undef:=by
 have hlt:i*z.size+j<n*z.size:=mO hi hj
 have hmod:(i*z.size+j)%z.size=j:=by rw [Nat.add_comm,Nat.add_mul_mod_self_right,Nat.mod_eq_of_lt hj]
 have hlt2:i*z.size+j<(Array.range (n*z.size)).size:=by simpa using hlt
 have hz:0<z.size:=by omega
 simp only [Builtin.zeroCells,Array.toList_map,Array.toList_range,List.getD_eq_getElem?_getD,List.getElem?_map,List.getElem?_range hlt,Option.map_some,Option.getD_some,hmod]
 rw [getElem!_pos z j hj]
 simp [Array.getD_eq_getD_getElem?,hj]
theorem LD {o:Oper} {t e g lo n:Nat} {d:Operand} {es:List (List PV)} {z:Value} (ho:o.op=.call { callee:=.builtin .clear,args:=#[d],argTypes:=#[t] }) (ht:nV P t=some e) (hz:Hz P e=some z) (hrow:Kh P e=true) (hz1:z.cells.toList.all Value.oneCell'=true)
  (hg:σ.hget g=some (.row e [] es)) (hd0:Td σ.h g (pev σ d)=some (lo,n)) (hfit:lo+n≤es.length) (h:Inv P E S0 N σ a w c) (hd:∀ k,o.dst=some k→k<N) :
  Ew P E S0 N o a w (Res.put σ o.dst ⟨[],[(g,.row e [] (cpy es lo (List.replicate n (z.cells.toList.map ofE))))],.tup []⟩):=by
 obtain ⟨i,z',hi,hz',hsz,hby,hzs,hsize⟩:=yZ hrow
 obtain rfl:z'=z:=by unfold Hz at hz;simp [hi,hz'] at hz;exact hz
 obtain ⟨xs0,r⟩:=h.fY g _ hg
 have hk0:=r.pos
 obtain ⟨B,cc',hV,hB⟩:=AZ r hg hd0 (h.ev d)
 have hu:=nU ht
 have hzv:(zeroValue e).run P w=.ok z' w:=by simp [zeroValue,typeInfo,hi,hz']
 have hval:∀ {w':World},(Builtin.clear_ #[t] o.type #[a.eval d]).run P w=.ok (.tuple #[]) w'→(execOp a.eval o).run P w=.ok (.value (.tuple #[])) w':=fun hrun=>by
  unfold execOp
  simp only [ho,resolve,invoke,builtin,Sem.run_bind,Sem.run_pure,Result.andThen_ok,List.map_toArray,List.map_cons,List.map_nil,hrun]
 rcases Nat.eq_zero_or_pos n with hn0 | hnp
 ·subst hn0
  have hrun:(Builtin.clear_ #[t] o.type #[a.eval d]).run P w=.ok (.tuple #[]) w:=by
   rw [hV]
   unfold Builtin.clear_
   cases B <;> simp only [List.getElem?_toArray,List.getElem?_cons_zero,Sem.run_bind,run_underlying hu,Result.andThen_ok,Sem.run_pure]
  have hes:cpy es lo (List.replicate 0 (z'.cells.toList.map ofE))=es:=by unfold cpy;simp
  rw [hes]
  have hinv:Inv P E S0 N (σ.put g (.row e [] es)) a w c:=by
   refine ⟨h.below,h.ok,h.sub,h.sup,h.slots,fun g' o' hg'=>?_,h.pin,h.small,h.size,h.defers⟩
   rw [fQ] at hg'
   split at hg'
   ·rename_i e';subst e';injection hg' with hg';subst hg';exact h.fY _ _ hg
   ·exact h.fY g' o' hg'
  exact pS (σ:=σ) (r:=⟨[],[(g,.row e [] es)],.tup []⟩) (c':=c) hd (.inl (hval hrun)) hinv (.free _ _ (.tup _ _ rfl (by simp)))
 ·have hzl:(z'.cells.toList.map ofE).length=aM P e:=by simp [hzs,hsize]
  have hzn:z'.cells.size=aM P e:=by rw [hzs,hsize]
  obtain ⟨g',cur,hτ,⟨cap',hhd⟩,hst,hinv⟩:=NX (m:=n) (lo:=lo) (xs:=List.replicate n (z'.cells.toList.map ofE)) (news:=(Builtin.zeroCells z'.cells n).toList) r (fun l hl=>by rw [List.eq_of_mem_replicate hl];exact hzl) (by rw [Ox,List.length_replicate,hzn])
   (fun u hu'=>by
    obtain ⟨q,hq⟩:=List.mem_iff_getElem?.1 hu'
    have hql:=cT hq
    simp only [Builtin.zeroCells,Array.toList_map,Array.toList_range] at hq
    rw [List.getElem?_map] at hq
    obtain ⟨v,hv,rfl⟩:=Option.map_eq_some_iff.1 hq
    have hpos:0<z'.cells.size:=by omega
    have hm:=Nat.mod_lt v hpos
    rw [getElem!_pos z'.cells _ hm]
    exact List.all_eq_true.1 hz1 _ (by simp))
   (fun i j pv hgE=>by
    unfold dZ at hgE
    rw [List.getElem?_replicate] at hgE
    split at hgE
    case isFalse=>cases hgE
    rename_i hi'
    simp only [Option.bind_some,List.getElem?_map] at hgE
    obtain ⟨u,hu',rfl⟩:=Option.map_eq_some_iff.1 hgE
    have hj:j<z'.cells.size:=by have:=cT hu';simpa using this
    rw [← hzn,Xu hi' hj]
    have:z'.cells.getD j undef=u:=by
     rw [Array.getElem?_toList] at hu'
     simp [Array.getD_eq_getD_getElem?,hu']
    rw [this]
    exact ND w c.S u) (by simp) hfit hnp h
  have htk:((Builtin.zeroCells z'.cells n).toList.take (n*aM P e))=(Builtin.zeroCells z'.cells n).toList:=List.take_of_length_le (by rw [Ox,hzn];exact Nat.le_refl _)
  have htr:(List.replicate n (z'.cells.toList.map ofE)).take n=List.replicate n (z'.cells.toList.map ofE):=List.take_of_length_le (by simp)
  rw [htk] at hst
  rw [htr] at hinv
  have hBs:=hB hnp
  have hrun:(Builtin.clear_ #[t] o.type #[a.eval d]).run P w=.ok (.tuple #[]) (w.setRow g' (kH cur (lo*aM P e) (Builtin.zeroCells z'.cells n).toList)):=by
   rw [hV,hBs,hτ]
   obtain ⟨n',rfl⟩:∃ n',n=n'+1:=⟨n-1,by omega⟩
   unfold Builtin.clear_
   simp only [List.getElem?_toArray,List.getElem?_cons_zero,Sem.run_bind,run_underlying hu,Result.andThen_ok,hzv,hst,Sem.run_pure]
  exact pS (σ:=σ) (r:=⟨[],[(g,.row e [] (cpy es lo (List.replicate n (z'.cells.toList.map ofE))))],.tup []⟩) (c':=c) hd (.inl (hval hrun)) (by rw [htk] at hinv;exact hinv) (.free _ _ (.tup _ _ rfl (by simp)))
end
section
variable {G:Prg} {ops:Array Oper} {k:Nat} {σ:St} {K:St→Prop}
def SJ (G:Prg) (ops:Array Oper) (k:Nat) (σ:St):Option (PV×PV×Nat×Nat):=match Gl ops k σ with
 | some o=>(match o.op with
   | .call { callee:=.builtin .copy,args:=args,argTypes:=tys }=>(match args.toList,tys.toList with
     | [d,x],[t,_]=>(match nV G.P t with
       | some e=>if (G.P.info? e).isSome=true then some (pev σ d,pev σ x,e,aM G.P e) else none
       | none=>none)
     | _,_=>none)
   | _=>none)
 | none=>none
theorem QA {α:Type} {c:α→List PV} {l l2:List α} {d x:PV} {e sz g lo n:Nat} (h:SJ G ops k σ=some (d,x,e,sz)) (hg:σ.h.get g=some (.row e [] (l.map c))) (hd:FK l.length g d=some (lo,n)) (hfit:lo+n≤l.length)
  (hx:x.elems σ.h=some (l2.map c)) (hf:x.flat σ.h=true) (hs:∀ y,(c y).length=sz):Ch G ops k σ ⟨[],[(g,.row e [] ((cpy l lo (l2.take (min l2.length n))).map c))],vI (min l2.length n:Nat)⟩:=by
 unfold SJ at h
 split at h
 case h_2=>cases h
 rename_i o ho
 split at h
 case h_2=>cases h
 rename_i args tys hop
 split at h
 case h_2=>cases h
 rename_i d' x' t t' hargs htys
 split at h
 case h_2=>cases h
 rename_i e' he
 split at h
 case isFalse=>cases h
 rename_i hinf
 simp only [Option.some.injEq,Prod.mk.injEq] at h
 obtain ⟨rfl,rfl,rfl,rfl⟩:=h
 obtain ⟨q1,q2⟩:=jQ ho
 obtain rfl:args=#[d',x']:=Array.toList_inj.1 hargs
 obtain rfl:tys=#[t,t']:=Array.toList_inj.1 htys
 refine ⟨o,q1,q2,fun hi hdd=>?_⟩
 have hd2:Td σ.h g (pev σ d')=some (lo,n):=by rw [FL hg (List.length_map _)];exact hd
 have:=QF (n:=n) hop he (Option.isSome_iff_exists.1 hinf) hg hd2 (by simpa using hfit) hx hf (fun r hr=>by
  obtain ⟨y,_,rfl⟩:=List.mem_map.1 hr
  exact hs y) hi hdd
 rw [List.length_map,← List.map_take,← FP] at this
 exact this
theorem Wk {α:Type} {l:List α} {lo hi:Int} (h:(decide (0≤lo)&&(decide (lo≤hi)&&decide (hi≤(l.length:Int))))=true):lo.toNat+(hi.toNat-lo.toNat)≤l.length:=by
 simp only [Bool.and_eq_true,decide_eq_true_eq] at h
 omega
theorem Uj {α:Type} {c:α→List PV} {l:List α} {kk:Key} {e sz:Nat} {k1:IntKind} {lo:Int} (h:KC G ops k σ=some (.row kk e,sz,some (.lit (.int k1 lo)),none)) (hr:σ.h.rowAt kk=some (l.map c)) (hs:∀ y,(c y).length=sz)
  (hb:(decide (0≤lo)&&(decide (lo≤(l.length:Int))&&decide ((l.length:Int)≤(l.length:Int))))=true):fK G ops k σ=some (.val (.part kk e lo.toNat ((l.length:Int).toNat-lo.toNat))):=by
 simp only [Bool.and_eq_true,decide_eq_true_eq] at hb
 exact UU h hr hs (by simp only [loN,Cz hb.1]) (by simp only [hiN];congr 1) ⟨by omega,by omega⟩
def SI (G:Prg) (ops:Array Oper) (k:Nat) (σ:St):Option (PV×Nat×List PV):=match Gl ops k σ with
 | some o=>(match o.op with
   | .call { callee:=.builtin .clear,args:=args,argTypes:=tys }=>(match args.toList,tys.toList with
     | [d],[t]=>(match nV G.P t with
       | some e=>(match Hz G.P e with
         | some z=>if (Kh G.P e&&z.cells.toList.all Value.oneCell')=true then some (pev σ d,e,z.cells.toList.map ofE) else none
         | none=>none)
       | none=>none)
     | _,_=>none)
   | _=>none)
 | none=>none
theorem Uu {α:Type} {c:α→List PV} {l:List α} {z:α} {d:PV} {e g lo n:Nat} {zs:List PV} (h:SI G ops k σ=some (d,e,zs)) (hg:σ.h.get g=some (.row e [] (l.map c))) (hd:FK l.length g d=some (lo,n)) (hfit:lo+n≤l.length) (hz:zs=c z) :
  Ch G ops k σ ⟨[],[(g,.row e [] ((cpy l lo (List.replicate n z)).map c))],.tup []⟩:=by
 unfold SI at h
 split at h
 case h_2=>cases h
 rename_i o ho
 split at h
 case h_2=>cases h
 rename_i args tys hop
 split at h
 case h_2=>cases h
 rename_i d' t hargs htys
 split at h
 case h_2=>cases h
 rename_i e' he
 split at h
 case h_2=>cases h
 rename_i z' hz'
 split at h
 case isFalse=>cases h
 rename_i hc
 simp only [Bool.and_eq_true] at hc
 simp only [Option.some.injEq,Prod.mk.injEq] at h
 obtain ⟨rfl,rfl,h3⟩:=h
 obtain ⟨q1,q2⟩:=jQ ho
 obtain rfl:args=#[d']:=Array.toList_inj.1 hargs
 obtain rfl:tys=#[t]:=Array.toList_inj.1 htys
 refine ⟨o,q1,q2,fun hi hdd=>?_⟩
 have:=LD (n:=n) (lo:=lo) hop he hz' hc.1 hc.2 hg (by rw [FL hg (List.length_map _)];exact hd) (by simpa using hfit) hi hdd
 rw [h3,hz,← List.map_replicate,← FP] at this
 exact this
def cutAt (G:Prg) (ops:Array Oper) (k:Nat) (σ:St):Option (PV×Nat×PV):=match Gl ops k σ with
 | some o=>(match o.op with
   | .slice t x none (some y) none=>(match nV G.P t with
     | some e=>if (G.P.info? e).isSome=true then some (pev σ x,e,pev σ y) else none
     | none=>none)
   | _=>none)
 | none=>none
theorem DF {α:Type} {c:α→List PV} {l l':List α} {e g:Nat} {J:List (Nat×Nat)} {k2:IntKind} {hi:Int} (h:cutAt G ops k σ=some (.row (.top g) e,e,.lit (.int k2 hi))) (hg:σ.h.get g=some (.row e J (l.map c))) (hp:Nat.blt g PIN=true) (hl:slc l 0 hi=some l') :
  Ch G ops k σ ⟨[gF g],[(g,.row e J (l'.map c))],.row (.top g) e⟩:=by
 obtain ⟨⟨h1,h2,h3⟩,rfl⟩:=UQ hl
 unfold cutAt at h
 split at h
 case h_2=>cases h
 rename_i o ho
 split at h
 case h_2=>cases h
 rename_i t x y hop
 split at h
 case h_2=>cases h
 rename_i e' he
 split at h
 case isFalse=>cases h
 rename_i hinf
 simp only [Option.some.injEq,Prod.mk.injEq] at h
 obtain ⟨hx,rfl,hy⟩:=h
 obtain ⟨q1,q2⟩:=jQ ho
 refine ⟨o,q1,q2,fun hi' hdd=>?_⟩
 have:=TX (n:=hi.toNat) hop he hinf (by simpa using hp) hx (by rw [hy];exact Cz h2) hg (by simp;omega) hi' hdd
 rw [← List.map_take] at this
 simpa using this
theorem Vt {α:Type} {l:List α} {lo n:Nat} {i:Int} {x:α} (h:idx ((l.drop lo).take n) i=some x):l[lo+i.toNat]?=some x:=by
 obtain ⟨_,h1⟩:=Ka h
 rw [List.getElem?_take] at h1
 split at h1
 ·rwa [List.getElem?_drop] at h1
 ·cases h1
theorem RW {kk:Key} {e lo n:Nat} (h:Oi G ops k σ=some (.part kk e lo n)):fK G ops k σ=some (.val (.lit (.int .i64 n))):=by
 unfold Oi at h
 split at h
 case h_2=>cases h
 rename_i o ho
 split at h
 case h_2=>cases h
 rename_i cl hop
 split at h
 case h_2=>cases h
 rename_i hcal
 split at h
 case h_2=>cases h
 rename_i a t hargs hty
 split at h
 case h_2=>cases h
 rename_i e he
 injection h with h
 refine Ev ho (by rw [hop];simp only [qF,hcal]) ?_
 rw [hop]
 simp only [mP,Rx,hcal,hargs,hty,he,h,Tm]
 rfl
end
end Go.VI
namespace Go.VI
open Go.RowKit
section
variable {P:Program} {E:Ent} {S0:Nat→Prop} {N:Nat} {σ:St} {a:Act} {w:World} {c:Ctx}
def SF (P:Program) (E:Ent) (o:Oper) (a:Act) (w:World) (c:Ctx) (g e:Nat) (ob:HO):Prop:=
 ∃ (v:Value) (w':World) (c':Ctx),(execOp a.eval o).run P w=.ok (.value v) w'∧E.Fr w'∧c'.Ok E.M w'∧Iz c.S w w'∧(∀ b,c'.S b↔c.S b)∧(∀ k,k.tag≠g→Agree c c' k) ∧
   (∀ k,c.D k→k.tag≠g→w'.heap[c.τ k]?=w.heap[c.τ k]?∧c'.D k)∧sR P w' c' g ob∧RV P w' c' (.row (.top g) e) v
theorem HT {o:Oper} {t e g:Nat} {s x:Operand} {es es2:List (List PV)} (ho:o.op=.call { callee:=.builtin .append,args:=#[s,x],argTypes:=#[t,t] }) (ht:nV P t=some e) (hrow:Kh P e=true) (hs:pev σ s=.row (.top g) e) (hgR:σ.hget g=some (.row e [] es)) (hpin:g<PIN)
  (hel:(pev σ x).elems σ.h=some es2) (hflat:(pev σ x).flat σ.h=true) (hk2:∀ l ∈ es2,l.length=aM P e) (hlim:es.length+es2.length≤LIM) (h:Inv P E S0 N σ a w c):SF P E o a w c g e (.row e [] (es++es2)):=by
 have rs:=h.ev s
 have rx:=h.ev x
 rw [hs] at rs
 obtain ⟨i,z,hi,hz,hsz,hby,hzs,hsize⟩:=yZ hrow
 have hu:=nU ht
 have hexec:∀ v' w',(Builtin.append_ #[t,t] o.type #[a.eval s,a.eval x]).run P w=.ok v' w'→(execOp a.eval o).run P w=.ok (.value v') w':=by
  intro v' w' hrun
  unfold execOp
  simp only [ho,resolve,invoke,builtin,Sem.run_bind,Sem.run_pure,Result.andThen_ok,List.map_toArray,List.map_cons,List.map_nil,hrun]
 have hVs:a.eval s=c.hd (.top g):=by
  generalize a.eval s=X at rs
  cases rs with
  | free _ _ hf=>cases hf
  | row=>rfl
 rw [hVs] at hexec
 obtain ⟨A,cc,news,hX,hnl,hA,hcell,h1,hrf⟩:=Nc h.fY rx hel hflat hk2 (by omega)
 rw [hX] at hexec
 have hA':es2.length≠0→∃ ad,A=some ad:=fun hne=>hA (by rintro rfl;simp at hne)
 obtain ⟨xs,rr⟩:=h.fY g _ hgR
 have hRF:∀ i j pv,dZ es i j=some pv→RF w c.S pv (xs.getD (i*aM P e+j) undef):=fun i j pv hg=>rr.rep i j pv hg
 obtain ⟨v',w',hrun,hown',hgrow,hblk⟩:=Ht (P:=P) 0 t o.type e i z (aM P e) hu hi hz hsize hby hzs rr.pos (c.hd (.top g)) es.length xs rr.own A es2.length cc news hnl hA' hcell h1 hlim (Nat.zero_le _)
 have hVb:∀ b,(c.hd (.top g)).ownBlock=some b→E.M b∧¬ c.S b∧∀ k',k'.tag≠g→c.D k'→c.τ k'≠b:=fun b hb'=>by
  obtain ⟨q1,q2⟩:=rr.blk b hb'
  have:=h.ok.hD _ q1
  rw [q2] at this
  exact ⟨this.1,this.2.2,fun k' hne hg' e=>hne (by rw [h.ok.inj _ _ hg' q1 (by rw [e,q2])];rfl)⟩
 have hsame:∀ b,b<w.heap.size→(c.hd (.top g)).ownBlock≠some b→w'.heap[b]?=w.heap[b]?:=fun b hb' hne=>hgrow.block b hb' (Ne.symm hne)
 have hS:Iz c.S w w':=fun b hS=>hsame b (h.ok.hS b hS) fun e=>(hVb b e).2.1 hS
 have below:E.Fr w':=⟨hgrow.os.trans h.below.os,hgrow.tape.trans h.below.tape,hgrow.output.trans h.below.output,Nat.le_trans h.below.size hgrow.size,fun k hk' hm=>(hsame k (Nat.lt_of_lt_of_le hk' h.below.size) fun e=>hm (hVb k e).1).trans (h.below.block k hk' hm)⟩
 -- the block of the new row
 let b:=(v'.ownBlock).getD 0
 let c':=c.lay g b v' e (v'.ownBlock.isSome=true)
 have hbb:v'.ownBlock.isSome=true→E.M b∧b<w'.heap.size∧¬ c.S b∧∀ k',k'.tag≠g→c.D k'→c.τ k'≠b:=fun hs=>by
  obtain ⟨b',hb'⟩:=Option.isSome_iff_exists.1 hs
  have hbe:b=b':=by simp [b,hb']
  rw [hbe]
  have hlt:b'<w'.heap.size:=(hown'.lt b' hb').2
  rcases hblk with hq | hq
  ·have:=hVb b' (by rw [← hq,hb'])
   exact ⟨this.1,hlt,this.2.1,this.2.2⟩
  ·rw [hb'] at hq
   injection hq with hq
   subst hq
   exact ⟨h.below.mine (Nat.le_refl _),hlt,fun hS=>by have:=h.ok.hS _ hS;omega,fun k' _ hg' e=>by have:=(h.ok.hD k' hg').2.1;omega⟩
 have hok:c'.Ok E.M w':=Jg h.ok hgrow.size (fun q=>⟨(hbb q).1,(hbb q).2.1,(hbb q).2.2.1⟩) fun q=>(hbb q).2.2.2
 have hrep:sR P w' c' g (.row e [] (es++es2)):=by
  refine ⟨xs++news,dO.2.2.1,rr.pos,fun l hl=>(List.mem_append.1 hl).elim (rr.len l) (hk2 l),by rw [dO.2.1,List.length_append];exact hown',fun b' hb'=>?_,fun i j pv hg=>?_,fun i j pv hg=>?_⟩
  ·rw [dO.2.1] at hb'
   exact ⟨dO.2.2.2.2 (by rw [hb'];rfl),by rw [dO.1];simp [b,hb']⟩
  ·rcases Km rr.len hk2 rr.own.1 (news:=news) hg with ⟨q1,q2⟩ | ⟨i',_,q1,q2⟩
   ·rw [q2];exact rr.one i j pv q1
   ·rw [q2]
    have hlt:=mS hk2 q1
    have:=mO hlt.1 hlt.2
    exact h1 _ (by rw [List.getD_eq_getElem?_getD,List.getElem?_eq_getElem (by omega)];exact List.getElem_mem _)
  ·show RF w' c.S pv _
   rcases Km rr.len hk2 rr.own.1 (news:=news) hg with ⟨q1,q2⟩ | ⟨i',_,q1,q2⟩
   ·rw [q2];exact (hRF i j pv q1).same hS fun _ h=>h
   ·rw [q2];exact (hrf i' j pv q1).same hS fun _ h=>h
 have hrv:RV P w' c' (.row (.top g) e) v':=by
  obtain ⟨xs',r'⟩:=hrep
  have:=RV.row (P:=P) (w:=w') (c:=c') (.top g) e r'.ty r'.Hf
  rwa [show c'.hd (.top g)=v' from dO.2.1] at this
 exact ⟨v',w',c',hexec _ _ hrun,below,hok,hS,fun _=>Iff.rfl,fun k hk=>mF hk,fun k hD hx=>⟨hsame _ (h.ok.hD k hD).2.1 fun e=>(hVb _ e).2.2 k hx hD rfl,(Hl hx).2 hD⟩,hrep,hrv⟩
theorem renamed {o:Oper} {g d e:Nat} {ob:HO} (hgd:d≠g) (hdp:d<PIN) (hgp:g<PIN) (h:Inv P E S0 N σ a w c) (hcl:Clean [d] σ) (hd:∀ k,o.dst=some k→k<N) {eR:Nat} {J:List (Nat×Nat)} {es:List (List PV)} (hob:ob=.row eR J es) (hdo:SF P E o a w c g e ob)
  (next:Act→World→Prop) (Q:Exit→Act→World→Prop) (hn:∀ a' w' c',Inv P E S0 N (σ.act o.dst ⟨[g],[(d,ob)],.row (.top d) e⟩) a' w' c'→next a' w'):o.wp P a w next Q:=by
 obtain ⟨v,w',c1,hrun,below,hok,hS,hSS,hag,hkeep,hrep,hrv⟩:=hdo
 let c2:Ctx:=⟨c1.S,fun k=>if k.tag=d then c1.τ (k.dU g) else if k.tag=g then c.τ k else c1.τ k,fun k=>if k.tag=d then c1.hd (k.dU g) else if k.tag=g then c.hd k else c1.hd k,
  fun k=>if k.tag=d then c1.ty (k.dU g) else if k.tag=g then c.ty k else c1.ty k,fun k=>if k.tag=d then c1.D (k.dU g) else if k.tag=g then False else c1.D k⟩
 have atd:∀ k:Key,k.tag=d→c2.τ k=c1.τ (k.dU g)∧c2.hd k=c1.hd (k.dU g)∧c2.ty k=c1.ty (k.dU g)∧(c2.D k↔c1.D (k.dU g)):=fun k hk=>by simp [c2,hk]
 have off:∀ k:Key,k.tag≠d→Agree c c2 k:=fun k hk=>by
  by_cases hg:k.tag=g
  ·simp [Agree,c2,hg,Ne.symm hgd]
  ·obtain ⟨q1,q2,q3⟩:=hag k hg
   simp [Agree,c2,hk,hg,q1,q2,q3]
 have Dof:∀ k:Key,k.tag≠d→(c2.D k↔k.tag≠g∧c1.D k):=fun k hk=>by
  by_cases hg:k.tag=g
  ·simp [c2,hg,Ne.symm hgd]
  ·simp [c2,hk,hg]
 have phi:∀ k,c2.D k→∃ k0,c1.D k0∧c2.τ k=c1.τ k0∧((k.tag=d∧k0=k.dU g)∨(k.tag≠d∧k.tag≠g∧k0=k)):=fun k hk=>by
  by_cases hkd:k.tag=d
  ·obtain ⟨q1,_,_,q4⟩:=atd k hkd
   exact ⟨_,q4.1 hk,q1,.inl ⟨hkd,rfl⟩⟩
  ·obtain ⟨q1,q2⟩:=(Dof k hkd).1 hk
   exact ⟨k,q2,by simp [c2,hkd,q1],.inr ⟨hkd,q1,rfl⟩⟩
 have ok2:c2.Ok E.M w':=by
  refine ⟨hok.hS,fun k hk=>?_,fun k k' hk hk' he=>?_⟩
  ·obtain ⟨k0,q1,q2,_⟩:=phi k hk
   rw [q2];exact hok.hD k0 q1
  ·obtain ⟨k0,q1,q2,q3⟩:=phi k hk
   obtain ⟨k1,p1,p2,p3⟩:=phi k' hk'
   rw [q2,p2] at he
   have e0:=hok.inj _ _ q1 p1 he
   rcases q3 with ⟨a1,rfl⟩ | ⟨a1,a2,rfl⟩ <;> rcases p3 with ⟨b1,rfl⟩ | ⟨b1,b2,rfl⟩
   ·exact Nv e0 (by rw [a1,b1])
   ·exact absurd (by rw [← e0,sZ]) b2
   ·exact absurd (by rw [e0,sZ]) a2
   ·exact e0
 have hS2:∀ b,c.S b→c2.S b:=fun b hb=>(hSS b).2 hb
 have av:∀ pv:PV,fL [d] pv=true→pv.has (gF d)=false:=fun pv hpv=>by simpa [fL] using hpv
 have rv2:RV P w' c2 (.row (.top d) e) v:=by
  generalize hX:PV.row (.top g) e=X at hrv
  cases hrv with
  | free _ _ hf=>subst hX;cases hf
  | row k e' he h1 =>
    injection hX with q1 q2
    subst q1 q2
    obtain ⟨q1,q2,q3,_⟩:=atd (.top d) rfl
    have:=RV.row (P:=P) (w:=w') (c:=c2) (.top d) e (q3.trans he) (by rw [q2];exact h1)
    rwa [q2] at this
  | _=>cases hX
 have hrepd:sR P w' c2 d ob:=by
  subst hob
  obtain ⟨xs,r⟩:=hrep
  obtain ⟨q1,q2,q3,q4⟩:=atd (.top d) rfl
  refine ⟨xs,r.dU (k':=.top d) q1 q2 q3 q4.2 fun i j pv v hgE hc=>?_⟩
  unfold eZ at hc ⊢
  split at hc
  ·exact hc
  ·rcases hc with hc | ⟨h1,es',xs',rfl,r'⟩
   ·exact .inl hc
   obtain ⟨p1,p2,p3,p4⟩:=atd (.sub d i j) rfl
   exact .inr ⟨h1.trans p2.symm,es',xs',rfl,r'.dU (k':=.sub d i j) p1 p2 p3 p4.2 fun _ _ _ _ _ q=>q⟩
 have hinv : Inv P E S0 N ⟨σ.s,[(d,ob)]++σ.h.Gw [g]⟩ a w' c2:=by
  refine ⟨below,ok2,fun b hb=>hS2 b (h.sub b hb),fun b hb=>h.sup b ((hSS b).1 hb),fun i=>?_,fun g' o' hg'=>?_,fun k hk=>?_,h.small,h.size,h.defers⟩
  ·exact (h.slots i).keep (p:=gF d) hS hS2 (fun k hk=>off k (pW.1 hk)) (av _ (hcl.1 i))
  ·have e1 : (⟨σ.s,[(d,ob)]++σ.h.Gw [g]⟩:St).hget g'=HP.get ([(d,ob)]++σ.h.Gw [g]) g':=rfl
   rw [e1,Ii,BD] at hg'
   by_cases hd':g'=d
   ·subst hd'
    simp only [HP.get,Nat.beq_refl,if_true,Option.some.injEq] at hg'
    subst hg';exact hrepd
   ·simp only [HP.get,xD hd',Bool.false_eq_true,if_false,List.mem_singleton] at hg'
    split at hg'
    ·cases hg'
    rename_i hne
    have r:=h.fY g' o' hg'
    have hk:∀ k:Key,k.tag=g'→gF d k=false:=fun k hk=>pW.2 (by rw [hk];exact hd')
    have hD:∀ k:Key,k.tag=g'→c.D k→w'.heap[c.τ k]?=w.heap[c.τ k]?∧c2.D k:=fun k hk hDk=>by
     obtain ⟨q1,q2⟩:=hkeep k hDk (by rw [hk];exact hne)
     exact ⟨q1,(Dof k (by rw [hk];exact hd')).2 ⟨by rw [hk];exact hne,q2⟩⟩
    have:=r.Ct (c':=c2) (p:=gF d) hS hS2 (fun k hk=>off k (pW.1 hk)) hk hD
    have e2:o'.kill (gF d)=o':=by
     have:=(hcl.2 g' o' hg').2
     cases o' with
     | box cs =>
       simp only [HO.kill]
       congr 1
       have:∀ l:List PV,l.all (fL [d])=true→PV.vZ (gF d) l=l:=by
        intro l
        induction l with
        | nil=>intro _;rfl
        | cons x l ih=>intro hl;simp only [List.all_cons,Bool.and_eq_true] at hl;simp only [PV.vZ,Dr _ x (av x hl.1),ih hl.2]
       exact this cs (by assumption)
     | _=>rfl
    rwa [e2] at this
  ·obtain ⟨q1,q2,q3⟩:=h.pin k hk
   obtain ⟨p1,p2,p3⟩:=off (.top k) (show k≠d by omega)
   exact ⟨p1.trans q1,p2.trans q2,p3.trans q3⟩
 unfold Oper.wp
 rw [hrun,Oper.upon_value]
 exact hn _ _ c2 (hinv.put o.dst hd rv2)
end
section
variable {G:Prg} {ops:Array Oper} {k:Nat} {σ:St} {K:St→Prop}
theorem FU {α:Type} {c:α→List PV} {D:DD} {m:Nat} {l l2 l':List α} {x:PV} {g g2 e sz d:Nat} (hm:Nat.ble m k=false) (h:Sq G ops k σ=some (.row (.top g) e,x,e,sz,d)) (ha:σ.h.get g=some (.row e [] (l.map c))) (hx:x.elems σ.h=some (l2.map c)) (hf:x.flat σ.h=true) (hs:∀ y,(c y).length=sz)
  (hl:app l l2=some l') (hg:(Nat.blt g PIN&&Nat.blt g2 PIN&&!Nat.beq g2 g)=true) (hF:inL [g2] (D.F k)=true) (hT:inL [g,g2] (D.T k)=true) (hav:avB ops k (D.av k) σ=true)
  (hfv:(fL (D.fv k) (.row (.top g2) e)&&!((D.fv k).any fun y=>Nat.beq y g2)&&(HO.row e [] (l'.map c)).Fy (D.fv k))=true)
  (next:EVD G ops D m (k+1) (rE ⟨σ.s,(g2,.row e [] (l'.map c))::σ.h.Gw [g]⟩ (iM ops k) (.row (.top g2) e)) K):EVD G ops D m k σ K:=by
 obtain ⟨h1,rfl⟩:=PR hl
 simp only [Bool.and_eq_true,Bool.not_eq_true'] at hg
 obtain ⟨⟨hgp,hg2p⟩,hne⟩:=hg
 have hne':g2≠g:=fun q=>by rw [q,Nat.beq_refl] at hne;cases hne
 unfold Sq at h
 split at h
 case h_2=>cases h
 rename_i o ho
 split at h
 case h_2=>cases h
 rename_i cl hop
 split at h
 case h_2=>cases h
 rename_i hcal
 split at h
 case h_2=>cases h
 rename_i a' x' t t' hargs hty
 split at h
 case isFalse=>cases h
 rename_i ht
 split at h
 case h_2=>cases h
 rename_i e' he
 split at h
 case isFalse=>cases h
 rename_i hrow
 simp only [Option.some.injEq,Prod.mk.injEq] at h
 obtain ⟨hpa,rfl,rfl,rfl,rfl⟩:=h
 subst ht
 obtain ⟨q1,q2⟩:=jQ ho
 have hop':o.op=.call { callee:=.builtin .append,args:=#[a',x'],argTypes:=#[t,t] }:=by
  rw [hop]
  obtain ⟨callee,args,argTypes⟩:=cl
  simp only at hcal hargs hty
  subst hcal
  rw [show args=#[a',x'] from Array.toList_inj.1 hargs,show argTypes=#[t,t] from Array.toList_inj.1 hty]
 rw [Aa q1] at next
 have hds:DStep G.P ops o (D.rd k) (D.F k) σ ⟨[g],[(g2,.row e' [] ((l++l2).map c))],.row (.top g2) e'⟩:=fun T τ lc=>by
  obtain ⟨h1',h2'⟩:=Nq lc
  have h2':=h2' (by first | rw [hop'];rfl | rw [hop];rfl)
  have ma:(a':Operand) ∈ o.op.operands.toList:=by rw [hop'];simp [Op.operands,Call.operands]
  have mx:(x':Operand) ∈ o.op.operands.toList:=by rw [hop'];simp [Op.operands,Call.operands]
  have hgT:g ∉ T:=fun hm=>by
   have:=List.all_eq_true.1 (h2' _ ma) g hm
   rw [hpa] at this
   simp [PV.has,gF,Key.tag] at this
  have hgτ:τ.hget g=some (.row e' [] (l.map c)):=(lc.heap g hgT).symm.trans ha
  refine .inr ⟨by rw [Fc lc];exact q2,fun E S0 N a w cx hi hcl hdd next Q hn=>?_⟩
  have hcl2:Clean [g2] τ:=by
   have hgF:=Cs hF g2 (by simp)
   have sub:∀ v:PV,fL (D.F k) v=true→fL [g2] v=true:=fun v hv=>by
    have:=List.all_eq_true.1 hv g2 hgF
    simp [fL] at this ⊢
    exact this
   refine ⟨fun i=>sub _ (hcl.1 i),fun g' o' hg'=>?_⟩
   obtain ⟨p1,p2⟩:=hcl.2 g' o' hg'
   refine ⟨fun hm=>p1 (by simp at hm;subst hm;exact hgF), ?_⟩
   cases o' with
   | box cs =>
     simp only [HO.Fy] at p2 ⊢
     exact List.all_eq_true.2 fun v hv=>sub v (List.all_eq_true.1 p2 v hv)
   | _=>rfl
  have hdo:=HT (E:=E) (S0:=S0) (N:=N) (a:=a) (w:=w) (c:=cx) hop' he hrow (by rw [h1' _ ma];exact hpa) hgτ (by simpa using hgp) (by rw [h1' _ mx,← Ve lc.heap (h2' _ mx)];exact hx) (by rw [h1' _ mx,← FW lc.heap (h2' _ mx)];exact hf) (fun r hr=>by
   obtain ⟨y,_,rfl⟩:=List.mem_map.1 hr
   exact hs y) (by simpa using h1) hi
  rw [← List.map_append] at hdo
  exact renamed hne' (by simpa using hg2p) (by simpa using hgp) hi hcl2 hdd rfl hdo next Q hn
 simp only [Bool.and_eq_true] at hfv
 refine Nd hm q1 ⟨[g],[(g2,_)],_⟩ hds (Jo q1 hav) hT (by simp only [List.all_cons,List.all_nil,Bool.and_true,Bool.and_eq_true];exact ⟨hfv.1.1,hfv.1.2,hfv.2⟩) ?_
 exact next
end
end Go.VI
namespace Go.VI
theorem kL {α A S R:Type} (l:List α) (mk:Nat→A→S) (body:S→Option (S ⊕ R)) (r:A→R) (I:Nat→A→Prop) (a0:A) (h0:I 0 a0)
  (step:∀ (k:Nat) (x:α) (a:A),l[k]?=some x→I k a→∃ a',body (mk k a)=some (.inl (mk (k+1) a'))∧I (k+1) a') (fin:∀ a,I l.length a→body (mk l.length a)=some (.inr (r a))) :
  ∃ a,aL body (mk 0 a0)=some (r a)∧I l.length a:=by
 have key:∀ (n k:Nat) (a:A),k+n=l.length→I k a→∃ a',aL body (mk k a)=some (r a')∧I l.length a':=by
  intro n
  induction n with
  | zero =>
    intro k a h hI;obtain rfl:k=l.length:=by omega
    exact ⟨a,cM (fin a hI),hI⟩
  | succ n ih =>
    intro k a h hI
    have hx:l[k]?=some l[k]:=by simp
    obtain ⟨a',q1,q2⟩:=step k l[k] a hx hI
    rw [eW q1]
    exact ih (k+1) a' (by omega) q2
 exact key l.length 0 a0 (by omega) h0
theorem bL {α:Type} {l:List α} {k:Nat} {x:α} (h:l[k]?=some x):k<l.length:=(List.getElem?_eq_some_iff.1 h).1
theorem bJ (k:Nat) (h:(k:Int)<9223372036854775807):aF (k:Int) 1=((k+1:Nat):Int):=by rw [aP (by omega) (by omega)];omega
end Go.VI
namespace Go.VI
open Go.RowKit
section
variable {P:Program} {E:Ent} {S0:Nat→Prop} {N:Nat} {σ:St} {a:Act} {w:World} {c:Ctx}
end
section
variable {G:Prg} {ops:Array Oper} {k:Nat} {σ:St} {α β:Type} {c:α→List PV} {c2:β→List PV}
theorem Ry {h:HP} {g i j e:Nat} {J:List (Nat×Nat)} {l:List α} {x:α} {l2:List β} (hg:h.get g=some (.row e J (l.map c))) (hJ:(Jat J j).isSome=true) (hx:l[i]?=some x) (hc:(c x)[j]?=some (.sl (l2.map c2))):h.rowAt (.sub g i j)=some (l2.map c2):=by
 simp only [HP.rowAt,hg,hJ,if_true,List.getElem?_map,hx,Option.map_some,hc]
theorem II {h:HP} {g i j e e0:Nat} {J:List (Nat×Nat)} {l:List α} {x:α} {l2:List β} (hg:h.get g=some (.row e J (l.map c))) (hJ:(Jat J j).isSome=true) (hx:l[i]?=some x) (hc:(c x)[j]?=some (.sl (l2.map c2))):(PV.row (.sub g i j) e0).elems h=some (l2.map c2):=Ry hg hJ hx hc
theorem EV {h:HP} {g i j e:Nat} {J:List (Nat×Nat)} {l:List α} {x x':α} {es':List (List PV)} (hg:h.get g=some (.row e J (l.map c))) (hx:l[i]?=some x) (hs:setAt (c x) j [.sl es']=c x'):h.Fv es' (.sub g i j)=some (.row e J ((l.set i x').map c)):=by
 simp only [HP.Fv,hg,Pj hx hs]
def RA (G:Prg) (ops:Array Oper) (k:Nat) (σ:St):Option (PV×PV):=match Gl ops k σ with
 | some o=>(match o.op with
   | .store t a x=>(match Ig G.P t with
     | some false=>if Nat.beq (aM G.P t) 1=true then some (pev σ a,pev σ x) else none
     | _=>none)
   | _=>none)
 | none=>none
theorem KY {g d e e' i off:Nat} {J:List (Nat×Nat)} {l:List α} {x x':α} {l2:List β} (h:RA G ops k σ=some (.rptr (.top g) e i off,.row (.top d) e')) (hg:σ.h.get g=some (.row e J (l.map c))) (hgd:σ.h.get d=some (.row e' [] (l2.map c2)))
  (hc:(Nat.blt d PIN&&!Nat.beq d g&&Nat.blt off (aM G.P e))=true) (hJ:Jat J off=some e') (hx:l[i]?=some x) (hs:setAt (c x) off [.sl (l2.map c2)]=c x') :
  Ch G ops k σ ⟨[Oj d g],[(g,.row e J ((l.set i x').map c))],.lit undef⟩:=by
 simp only [Bool.and_eq_true,Bool.not_eq_true'] at hc
 unfold RA at h
 split at h
 case h_2=>cases h
 rename_i o ho
 split at h
 case h_2=>cases h
 rename_i t a' y hop
 split at h
 case h_2=>cases h
 rename_i he
 split at h
 case isFalse=>cases h
 rename_i h1
 simp only [Option.some.injEq,Prod.mk.injEq] at h
 obtain ⟨ha',hy⟩:=h
 obtain ⟨q1,q2⟩:=jQ ho
 refine ⟨o,q1,q2,fun hi hdd=>?_⟩
 have:=GK hop he (Nat.eq_of_beq_eq_true h1) (.inr trivial) (by simpa using hc.1.1) (fun q=>by rw [q,Nat.beq_refl] at hc;cases hc.1.2) ha' hy hg hgd (by have:=(List.getElem?_eq_some_iff.1 hx).1;simpa using this) (by simpa using hc.2) hJ hi hdd
 rwa [Pj hx hs] at this
def SS (G:Prg) (ops:Array Oper) (k:Nat) (σ:St):Option (Nat×PV×PV×Nat):=match Gl ops k σ with
 | some o=>(match o.op with
   | .makeSlice t l h=>(match nV G.P t with
     | some e=>(match Hz G.P e with
       | some z=>(match z.cells.toList with
         | [.slice none 0 0]=>if Kh G.P e=true then some (e,pev σ l,pev σ h,o.dst.getD 0) else none
         | _=>none)
       | none=>none)
     | none=>none)
   | _=>none)
 | none=>none
theorem KW {z:α} {l':List α} {e e2 d:Nat} {k1 k2:IntKind} {n:Int} (h:SS G ops k σ=some (e,.lit (.int k1 n),.lit (.int k2 n),d)) (hz:c z=[.sl []]) (h2:Nat.blt 0 (aM G.P e2)=true) (hl:mk n z=some l'):Ch G ops k σ (.new d (.row e [(0,e2)] (l'.map c)) (.row (.top d) e)):=by
 unfold mk at hl
 split at hl
 case isFalse=>cases hl
 rename_i hn
 injection hl with hl
 subst hl
 unfold SS at h
 split at h
 case h_2=>cases h
 rename_i o ho
 split at h
 case h_2=>cases h
 rename_i t x hi' hop
 split at h
 case h_2=>cases h
 rename_i e' he
 split at h
 case h_2=>cases h
 rename_i z' hz'
 split at h
 case h_2=>cases h
 rename_i hzc
 split at h
 case isFalse=>cases h
 rename_i hrow
 simp only [Option.some.injEq,Prod.mk.injEq] at h
 obtain ⟨rfl,h3,h4,rfl⟩:=h
 obtain ⟨q1,q2⟩:=jQ ho
 refine ⟨o,q1,q2,fun hi hdd=>?_⟩
 have hL:n.toNat≤LIM:=by have:=hn.2;omega
 have:=GF (J:=[(0,e2)]) hop he (by rw [h3];exact Cz hn.1) (by rw [h4];exact Cz hn.1) hz' hrow (Nat.le_refl _) hL (by rw [hzc];rfl) (fun j e' hJ=>by
  simp only [Jat] at hJ
  split at hJ
  ·rename_i hj
   obtain rfl:=Nat.eq_of_beq_eq_true hj
   injection hJ with hJ
   subst hJ
   refine ⟨by simpa using h2,fun _=>?_⟩
   rw [Array.getD_eq_getD_getElem?,← Array.getElem?_toList,hzc];rfl
  ·cases hJ) hi hdd
 rw [hzc] at this
 rwa [List.map_replicate,hz]
end
end Go.VI
namespace Go.VI
open Go.RowKit
section
variable {G:Prg} {ops:Array Oper} {k:Nat} {σ:St} {l l2:List Int} {g:Nat}
theorem FR:∀ h:HP,h.del []=h
 | []=>rfl
 | (g,o)::h=>by simp only [HP.del,TL.inn,Option.isSome_none,Bool.false_eq_true,if_false,FR h]
theorem Vq:∀ h:HP,h.kill xR=h
 | []=>rfl
 | (g,o)::h=>by simp only [HP.kill,xR,Bool.false_eq_true,if_false];rw [show o.kill xR=o from Zl o] at *;rw [show HP.kill xR h=h from Vq h]
theorem Lg:∀ s:SL,s.map (PV.kill xR)=s
 | []=>rfl
 | (i,v)::s=>by simp only [SL.map,Dr xR v (Vp v),Lg s]
theorem Xw (σ:St):after ([]++[]) (([].filter fun (x:Nat×Nat)=>Nat.ble PIN x.1).map (·.2)) σ []=σ:=by
 have e:gone ([]++[]) (([].filter fun (x:Nat×Nat)=>Nat.ble PIN x.1).map (·.2))=xR:=by
  funext k;simp [gone,xR,TL.inn]
 unfold after
 rw [e]
 simp only [St.kill,HP.ren,List.nil_append,FR,Vq,Lg]
theorem Yb {Q:St→Prop} (vis:List Nat) {f:Nat} {qs:List PV} {r:PV} (hc:Jq ops k σ [] vis=some (f,qs)) (pc:PC G.P f qs [] r []) (ht:Ln [] [] vis=true) (ind:vis=[]∨r.ind=true) (hr:r.ren []=r)
  (next:EVS G ops (k+1) (rE σ (iM ops k) r) Q):EVS G ops k σ Q:=
 sY [] [] vis hc pc ht rfl (ind.imp id fun q=>⟨q,fun _ _ h=>nomatch h⟩) (by rw [Xw,show r.ren ([]++[])=r from hr];exact next)
theorem Ya {Q:St→Prop} (vis:List Nat) {f:Nat} {qs:List PV} {r:PV} (hc:Jq ops k σ [] vis=some (f,qs)) (pc:PC G.P f qs [] r []) (ht:Ln [] [] vis=true) (ind:vis=[]∨r.ind=true) (hr:r.ren []=r)
  (next:EVO G ops (k+1) (rE σ (iM ops k) r) Q):EVO G ops k σ Q:=
 IL [] [] vis hc pc ht rfl (ind.imp id fun q=>⟨q,fun _ _ h=>nomatch h⟩) (by rw [Xw,show r.ren ([]++[])=r from hr];exact next)
theorem Yd (σ:St):σ.kill (Dd [])=σ:=by
 have e:Dd []=xR:=by funext k;simp [Dd,xR]
 rw [e]
 simp only [St.kill,Vq,Lg]
theorem cO {cd:Code} {K:PX→St→Prop} (σj:St) (T F rd av fv:List (Nat×List Nat)) (m:Nat) (hk:knd cd=2) (hok:Ly (xE cd) T F rd av fv m=true) (hF:F.all (fun x=>inL x.2 [])=true)
  (h:EVD G (xE cd) ⟨lst T,lst F,lst rd,lst av,lst fv⟩ m 0 σ fun σ'=>EVO G (xE cd) m σ' (fun τ=>iE G.P σj τ)) (next:∀ τ,iE G.P σj τ→K .normal τ):SEM G cd σ K:=
 JU σj T F rd av fv m hk hok [] rfl hF (by rw [Yd];exact h) next
theorem Yp {cd:Code} {K:PX→St→Prop} (T F rd av fv:List (Nat×List Nat)) (m:Nat) (hk:knd cd=2) (hok:Ly (xE cd) T F rd av fv m=true) (hF:F.all (fun x=>inL x.2 [])=true)
  (h:EVD G (xE cd) ⟨lst T,lst F,lst rd,lst av,lst fv⟩ m 0 σ fun σ'=>EVO G (xE cd) m σ' (K .normal)):SEM G cd σ K:=
 sA T F rd av fv m hk hok [] rfl hF (by rw [Yd];exact h)
end
end Go.VI
namespace Go.VI
section
variable {G:Prg} {P:Program} {cd b:Code} {σ:St} {K:PX→St→Prop}
theorem WT {ops:Array Oper} {k n:Nat} {σ':St} (h:(runK G ops k n σ).map (atS σ')=some (asS σ')):(runK G ops k n σ).isSome=true∧atS σ' (Tp G ops k n σ)=asS σ':=by
 cases hr:runK G ops k n σ with
 | none=>rw [hr] at h;cases h
 | some s =>
   rw [hr] at h
   injection h with h
   refine ⟨rfl, ?_⟩
   unfold Tp
   rw [hr]
   exact h
theorem z1 {ops:Array Oper} {k:Nat} (n:Nat) (σ':St) (next:SEM G b σ' K) (h:(Nat.ble ops.size (k+n),(runK G ops k n σ).map (atS σ'))=(true,some (asS σ')):=by kernel_rfl):EVS G ops k σ (Ki G b K .normal):=by
 injection h with h1 h2
 obtain ⟨a1,a2⟩:=WT h2
 exact Ty n a1 (Qg h1 fun τ hτ=>Ia hτ σ' (here a2) next)
theorem z2 (n:Nat) (σ':St) (next:SEM G b σ' K) (h:(knd cd,Nat.ble (xE cd).size (0+n),(runK G (xE cd) 0 n σ).map (atS σ'))=(1,true,some (asS σ')):=by kernel_rfl):SEM G cd σ (Ki G b K):=by
 injection h with h1 h2
 exact Dw h1 (z1 n σ' next h2)
theorem z3 (n:Nat) (σ':St) (next:SEM G (cR cd) σ' K) (h:(knd cd,knd (cL cd),Nat.ble (xE (cL cd)).size (0+n),(runK G (xE (cL cd)) 0 n σ).map (atS σ'))=(3,1,true,some (asS σ')):=by kernel_rfl):SEM G cd σ K:=by
 injection h with h1 h2
 exact Nw h1 (z2 n σ' next h2)
theorem z4 (σ':St) (next:SEM G b σ' K) (h:(knd cd,atS σ' σ)=(0,asS σ'):=by kernel_rfl):SEM G cd σ (Ki G b K):=by
 injection h with h1 h2
 exact Sd h1 fun τ hτ=>Ia hτ σ' (here h2) next
theorem z6 {ops:Array Oper} {k:Nat} {Q:St→Prop} (n:Nat) (next:∀ τ,iE G.P (Tp G ops k n σ) τ→Q τ) (h:((runK G ops k n σ).isSome,Nat.ble ops.size (k+n))=(true,true):=by kernel_rfl):EVS G ops k σ Q:=by
 injection h with h1 h2
 exact Ty n h1 (Qg h2 next)
theorem z7 (next:EVS G (xE (cL cd)) 0 σ (Ki G (cR cd) K .normal)) (h:(knd cd,knd (cL cd))=(3,1):=by kernel_rfl):SEM G cd σ K:=by
 injection h with h1 h2
 exact Nw h1 (Dw h2 next)
theorem z8 (n:Nat) (σ':St) (next:∀ τ,iE G.P σ' τ→K .ret τ) (h:(knd cd,knd (cL cd),Nat.ble (xE (cL cd)).size (0+n),(runK G (xE (cL cd)) 0 n σ).map (atS σ'),knd (cR cd))=(3,1,true,some (asS σ'),8):=by kernel_rfl):SEM G cd σ K:=by
 injection h with h1 h2
 injection h2 with h2 h3
 injection h3 with h3 h4
 injection h4 with h4 h5
 exact Nw h1 (Dw h2 (z1 n σ' (CM h5 next) (by rw [h3,h4])))
theorem zA {ops:Array Oper} {k:Nat} {K:St→Prop} (n:Nat) (next:EVS G ops (k+n) (Tp G ops k n σ) K) (h:(runK G ops k n σ).isSome=true:=by kernel_rfl):EVS G ops k σ K:=Ty n h next
theorem zB (h:SEM G (cL cd) σ (Ki G (cR cd) K)) (hk:knd cd=3:=by kernel_rfl):SEM G cd σ K:=Nw hk h
theorem zC (h:SEM G (cL cd) σ (Zd (cId cd) K)) (hk:knd cd=5:=by kernel_rfl):SEM G cd σ K:=JS hk h
theorem zD (h:EVS G (xE cd) 0 σ (K .normal)) (hk:knd cd=1:=by kernel_rfl):SEM G cd σ K:=Dw hk h
theorem zF {S R:Type} {emb:S→St} {out:R→PX×St} {r:R} {px:PX} {X τ:St} (hτ:iE P X τ) (e:(out r).1=px:=by rfl) (h:atS (out r).2 X=asS (out r).2:=by kernel_rfl):LKR P emb out (.inr r) px τ:=yU hτ e (here h)
theorem zG {X τ σe:St} (hτ:iE P X τ) (h:atS σe X=asS σe:=by kernel_rfl):iE P σe τ:=mV hτ (here h)
theorem zH {S R:Type} {emb:S→St} {out:R→PX×St} {s':S} {X τ:St} (hτ:iE P X τ) (h:atS (emb s') X=asS (emb s'):=by kernel_rfl):LKR P emb out (.inl s') .normal τ:=Vz hτ (here h)
theorem zL (i:Nat) (next:∀ τ,iE G.P σ τ→K (.exit i) τ) (hk:knd cd=7:=by kernel_rfl) (hi:cId cd=i:=by rfl):SEM G cd σ K:=JV i hk hi next
theorem zM (next:∀ τ,iE G.P σ τ→K .normal τ) (hk:knd cd=0:=by kernel_rfl):SEM G cd σ K:=Sd hk next
theorem zN (next:∀ τ,iE G.P σ τ→K .ret τ) (hk:knd cd=8:=by kernel_rfl):SEM G cd σ K:=CM hk next
theorem zO {ops:Array Oper} {k:Nat} {K:St→Prop} (next:∀ τ,iE G.P σ τ→K τ) (h:Nat.ble ops.size k=true:=by kernel_rfl):EVO G ops k σ K:=LN h next
theorem zP {ops:Array Oper} {k:Nat} {K:St→Prop} (next:∀ τ,iE G.P σ τ→K τ) (h:Nat.ble ops.size k=true:=by kernel_rfl):EVS G ops k σ K:=Qg h next
theorem zQ {id i:Nat} {K:PX→St→Prop} (h:K .normal σ) (e:id=i:=by kernel_rfl):Zd id K (.exit i) σ:=TV e h
theorem zS {ops:Array Oper} {k:Nat} {K:St→Prop} (b:Bool) (σf:Bool→St) (ht:b=true→EVS G ops k (σf true) K) (hf:b=false→EVS G ops k (σf false) K) (h:atS (σf b) σ=asS (σf b):=by kernel_rfl):EVS G ops k σ K:=IQ b σf h ht hf
theorem zT (σj:St) (h:EVS G (xE cd) 0 σ (fun τ=>iE G.P σj τ)) (next:∀ τ,iE G.P σj τ→K .normal τ) (hk:knd cd=1:=by kernel_rfl):SEM G cd σ K:=CL σj hk h next
end
section
variable (G:Prg) {f:FuncId} {fn:Func} {args:List PV} {H0:HP} {r:PV} {H1:HP}
theorem zU (hf:G.P.funcs[f]?=some fn) (h:SEM G (Rq fn) ⟨Mg 0 args,H0⟩ (RK G.P fn.results.toList r H1)) (hb:fn.body.isSome=true:=by kernel_rfl) (hname:(fn.name == "runtime.NumGoroutine")=false:=by kernel_rfl)
 (hd:Ez fn.ntmps (Rq fn)=true:=by kernel_rfl) (hl:Nat.ble args.length fn.ntmps=true:=by kernel_rfl) (hN:Nat.ble fn.ntmps PIN=true:=by kernel_rfl):PC G.P f args H0 r H1:=VM G hf hb hname hd hl hN h
theorem zV {P:Program} {X τ:St} {l:List ResultVar} (hτ:iE P X τ) (s:SL) (h:EM P ⟨s,H1⟩ l=some r:=by kernel_rfl) (hs:atS ⟨s,H1⟩ X=asS ⟨s,H1⟩:=by kernel_rfl):RK P l r H1 .ret τ:=Zz hτ s (here hs) h
end
abbrev ro (g e:Nat):PV:=.row (.top g) e
abbrev sI (l:List Int):PV:=.sl (List.map cI l)
abbrev sB (l:List Bool):PV:=.sl (List.map cB l)
abbrev wI (e:Nat) (l:List Int):HO:=.row e [] (List.map cI l)
abbrev wB (e:Nat) (l:List Bool):HO:=.row e [] (List.map cB l)
theorem osi {α:Type} {a b:α} (h:some a=some b):a=b:=Option.some.inj h
section
end
end Go.VI
namespace Go.VI
open Go.RowKit
def Ts (a b:ByteArray):Option ByteArray:=if a.size+b.size≤9223372036854775807 then some (a++b) else none
section
variable {G:Prg} {ops:Array Oper} {k:Nat} {σ:St}
theorem OZ {a b x:ByteArray} (h:AW G ops k σ=some (.add,.lit (.string a),.lit (.string b))) (hx:Ts a b=some x):fK G ops k σ=some (.val (.lit (.string x))):=by
 unfold Ts at hx
 split at hx
 case isFalse=>cases hx
 rename_i hs
 injection hx with hx;subst hx
 unfold AW at h
 split at h
 case h_2=>cases h
 rename_i o ho
 split at h
 case h_2=>cases h
 rename_i op' t x y t' hop
 simp only [Option.some.injEq,Prod.mk.injEq] at h
 obtain ⟨rfl,h1,h2⟩:=h
 refine Ev ho (by rw [hop];rfl) ?_
 rw [hop]
 simp only [mP,h1,h2,CB,if_pos hs,Option.map_some]
end
def UR (s:ByteArray) (lo hi:Int):Option ByteArray:=if 0≤lo∧lo≤hi∧hi≤s.size then some (s.extract lo.toNat hi.toNat) else none
section
variable {G:Prg} {ops:Array Oper} {k:Nat} {σ:St}
end
theorem RG {P:Program} {f:FuncId} {args:List Value} {v:Value} (he:enters P f=true) (b:Nat) (hb:MC P=some b)
  (h:∀ (m:Int) (w:World),w.cell? ⟨b,0,none⟩=some (.int .i64 m)→Calls P f args.toArray w fun e w'=>e=.returned v∧w'=w):PC P f (args.map .lit) [] (.lit v) []:=by
 refine ⟨he,fun w c vals heg hok hobj hlen hrep=>?_⟩
 obtain ⟨_,_,m,hm⟩:=heg b hb
 have hv:vals=args:=by
  refine List.ext_getElem? fun i=>?_
  rw [List.length_map] at hlen
  cases hi:args[i]? with
  | none=>rw [List.getElem?_eq_none_iff] at hi ⊢;omega
  | some x =>
    have:=hrep i (.lit x) (by simp [hi])
    rw [List.getD_eq_getElem?_getD] at this
    have hl:i<vals.length:=by have:=(List.getElem?_eq_some_iff.1 hi).1;omega
    rw [List.getElem?_eq_getElem hl] at this ⊢
    simp only [Option.getD_some] at this
    rw [this.lL]
 subst hv
 refine (h m w hm).mono ?_
 rintro e w' ⟨rfl,rfl⟩
 exact ⟨_,c,rfl,⟨rfl,rfl,rfl,Nat.le_refl _,fun _ _ _=>rfl⟩,fun _ h=>h,fun _ h=>.inl h,⟨hok.hS,fun k hk=>⟨.inr ⟨k,hk,rfl⟩,(hok.hD k hk).2⟩,hok.inj⟩,fun g _=>Agree.refl c _,.free _ _ (.lit _),fun _ _ h=>nomatch h⟩
end Go.VI
namespace Go.VI
open Go.RowKit
section
variable {G:Prg} {ops:Array Oper} {k:Nat} {σ:St} {t tI tN f g:Nat} {nm:String}
theorem RV.PQ {P:Program} {w:World} {c:Ctx} {v:Value} (h:RV P w c (.agg []) v):v=.agg #[]:=by
 cases h with
 | free pv v hf=>cases hf with | agg cs vs hn hr=>simp at hn;simp [hn]
 | agg cs vs hn hr=>simp at hn;simp [hn]
end
end Go.VI
namespace Go.VI
open Go.RowKit
section
variable {P:Program} {E:Ent} {S0:Nat→Prop} {N:Nat} {σ:St} {a:Act} {w:World} {c:Ctx}
theorem Inv.WS (h:Inv P E S0 N σ a w c) {g e:Nat} {l:List Int} (hg:σ.hget g=some (.row e [] (l.map cI))) (hl:l≠[]) (he:aM P e=1):Inv P E S0 N (σ.put g (.tl e l)) a w c:=by
 refine ⟨h.below,h.ok,h.sub,h.sup,h.slots,fun g' o hg'=>?_,h.pin,h.small,h.size,h.defers⟩
 rw [fQ] at hg'
 split at hg'
 case isFalse=>exact h.fY g' o hg'
 rename_i q;subst q
 injection hg' with hg';subst hg'
 obtain ⟨xs,r⟩:=h.fY _ _ hg
 rcases r.own.2 with ⟨h0,hn⟩ | ⟨b,cap,cur,h0,hb2,hg2,hnc,hcm,hcs,htake⟩
 ·simp at hn;exact absurd hn hl
 ·obtain ⟨q1,q2⟩:=r.blk b (by rw [h0];rfl)
  refine ⟨r.ty,he,q1,0,cap,cur,by rw [h0,q2,List.length_map],by rw [q2];exact hg2,by simpa using hnc,hcm,by rw [hcs,he];omega,fun i n hi=>?_⟩
  have hgE:dZ (l.map cI) i 0=some (vI n):=by unfold dZ;simp [hi,cI]
  have hr:=r.rep i 0 _ hgE
  simp only [eZ,Jat] at hr
  rw [he] at hr htake
  have hv:xs.getD (i*1+0) undef=.int .i64 n:=(RV.free (P:=P) (c:=c) _ _ hr).lL
  rw [← htake] at hv
  have hi':=cT hi
  rw [rM _ _ _ (by simp;omega),List.getD_eq_getElem?_getD,Array.getElem?_toList] at hv
  have hlt:i<cur.size:=by rw [hcs,he];simp at hnc;omega
  simp only [Nat.mul_one,Nat.add_zero] at hv
  rw [Nat.zero_add]
  rw [Array.getElem?_eq_getElem hlt] at hv ⊢
  simpa using hv
theorem Rk {g e:Nat} {v:Value} (r:RV P w c (.row (.top g) e) v):v=c.hd (.top g):=by
 cases r with
 | free _ _ hf=>cases hf
 | row=>rfl
theorem Ih.one {g e:Nat} {l:List Int} (r:Ih P w c g e l):(c.hd (.top g)).oneCell'=true:=by
 obtain ⟨_,_,_,o,cap,cur,h0,_⟩:=r
 rw [h0];rfl
theorem Ih.rv {g e:Nat} {l:List Int} (r:Ih P w c g e l):RV P w c (.row (.top g) e) (c.hd (.top g)):=.row (.top g) e r.ty r.one
theorem LH {o:Oper} {t e g n:Nat} {x y:Operand} {l:List Int} (ho:o.op=.slice t x (some y) none none) (ht:nV P t=some e) (hinfo:(P.info? e).isSome=true) (hg:g<PIN)
  (hx:pev σ x=.row (.top g) e) (hy:La (pev σ y)=some n) (hr:σ.hget g=some (.tl e l)) (hn:n≤l.length) (h:Inv P E S0 N σ a w c) (hd:∀ k,o.dst=some k→k<N) :
  Ew P E S0 N o a w (Res.put σ o.dst ⟨[gF g],[(g,.tl e (l.drop n))],.row (.top g) e⟩):=by
 have rx:=h.ev x
 rw [hx] at rx
 obtain ⟨k,ey⟩:=tL (h.ev y) hy
 have hX:=Rk rx
 obtain ⟨hty,hsz,hD,of,cap,cur,h0,hb,hlc,hcm,hcs,hcell⟩:=h.fY g _ hr
 have hu:=nU ht
 have run:(Instr.sliceAt t (.slice (some ⟨c.τ (.top g),of,none⟩) l.length cap) (some (.int k n)) none none).run P w=.ok (.slice (some (if cap=n then ⟨c.τ (.top g),of,none⟩ else (⟨c.τ (.top g),of,none⟩:Addr).add (n*aM P e))) (l.length-n) (cap-n)) w:=by
  have bnd:(Instr.sliceBounds true l.length cap (some (.int k n)) none none).run P w=.ok (n,l.length,cap) w:=by
   have:=run_sliceBound (P:=P) (w:=w) k (n:Int) l.length .sliceB (by omega) (by omega)
   simp [Instr.sliceBounds,this]
  simp only [Instr.sliceAt,Instr.slice,Sem.run_bind,run_underlying hu,Result.andThen_ok,bnd,run_sizeOf (Option.isSome_iff_exists.1 hinfo),Sem.run_pure,Option.map_some]
  split <;> rfl
 have hexec:(execOp a.eval o).run P w=.ok (.value (.slice (some (if cap=n then ⟨c.τ (.top g),of,none⟩ else (⟨c.τ (.top g),of,none⟩:Addr).add (n*aM P e))) (l.length-n) (cap-n))) w:=by
  unfold execOp
  simp only [ho,Option.map_none,Option.map_some,ey,hX,h0,Sem.run_bind,run,Result.andThen_ok,Sem.run_pure]
 -- where it begins
 obtain ⟨o',ho',hcs',hcell'⟩:∃ o',(if cap=n then (⟨c.τ (.top g),of,none⟩:Addr) else (⟨c.τ (.top g),of,none⟩:Addr).add (n*aM P e))=⟨c.τ (.top g),o',none⟩∧o'+(cap-n)≤cur.size∧∀ (i:Nat) m,(l.drop n)[i]?=some m→cur[o'+i]?=some (.int .i64 m):=by
  by_cases e1:cap=n
  ·refine ⟨of,by rw [if_pos e1],by omega,fun i m hi=>?_⟩
   have:=cT hi
   rw [List.length_drop] at this
   omega
  ·refine ⟨of+n,by rw [if_neg e1,hsz,Nat.mul_one,add_lit],by omega,fun i m hi=>?_⟩
   rw [List.getElem?_drop] at hi
   rw [Nat.add_assoc]
   exact hcell _ _ hi
 rw [ho'] at hexec
 let v':Value:=.slice (some ⟨c.τ (.top g),o',none⟩) (l.length-n) (cap-n)
 let c':Ctx:=⟨c.S,c.τ,fun k=>if k=.top g then v' else c.hd k,c.ty,c.D⟩
 have hhd:c'.hd (.top g)=v':=by simp [c']
 have hag:∀ k,k≠.top g→Agree c c' k:=fun k hk=>⟨rfl,by simp [c',hk],rfl⟩
 have hrep:Ih P w c' g e (l.drop n):=⟨hty,hsz,hD,o',cap-n,cur,by rw [hhd,List.length_drop],hb,by rw [List.length_drop];omega,by omega,hcs',hcell'⟩
 have hrv:RV P w c' (.row (.top g) e) v':=by have:=hrep.rv;rwa [hhd] at this
 refine pS hd (.inl hexec) (c':=c') ?_ hrv
 refine h.step (c':=c') (gF g) (·=g) h.below ⟨h.ok.hS,h.ok.hD,h.ok.inj⟩ (fun _ _=>rfl) (fun _ h=>h) h.sup (fun k hk hp=>?_) (fun k hk=>hag k (by rintro rfl;rw [pW] at hk;exact hk rfl)) (fun k hD _=>⟨rfl,hD⟩) (fun k hk=>kM.1 hk) rfl (fun g' o' hx hg'=>?_) (fun g' o' hx hg'=>?_)
 ·rw [kM.1 hp] at hk;omega
 ·simp only [Res.base,List.foldl_cons,List.foldl_nil,fQ] at hg'
  rwa [if_neg hx] at hg'
 ·simp only [Res.base,List.foldl_cons,List.foldl_nil,fQ] at hg'
  rw [if_pos hx] at hg'
  injection hg' with hg'
  subst hg' hx
  exact hrep
theorem Tq (t ty e:TypeId) (i:TypeInfo) (z:Value) (ht:P.underlying t=some (.slice e)) (hi:P.info? e=some i) (hz:i.zero=some z) (hsize:i.size=1) (hby:i.bytes≤65536) (hzs:z.cells.size=i.size)
  (b o n cap:Nat) (cur:Array Value) (hg:w.heap[b]?=some (.cells cur e (0,0))) (hlc:n≤cap) (hcm:cap≤maxLen) (hcs:o+cap≤cur.size)
  (ad:Addr) (cc:Nat) (u:Value) (hu:w.cell? ad=some u) (h1:u.oneCell'=true) (hlim:n+1≤LIM) :
  ∃ w' b' o' cap',∃ cur':Array Value,(Builtin.append_ #[t,t] ty #[.slice (some ⟨b,o,none⟩) n cap,.slice (some ad) 1 cc]).run P w=.ok (.slice (some ⟨b',o',none⟩) (n+1) cap') w'∧w'.heap[b']?=some (.cells cur' e (0,0))∧n+1≤cap'∧cap'≤maxLen∧o'+cap'≤cur'.size ∧
    (∀ j,j<n→cur'[o'+j]?=cur[o+j]?)∧cur'[o'+n]?=some u∧w.grownBy w' (some b)∧(b'=b∨b'=w.heap.size):=by
 have hnews:∀ (j:Nat) v,[u][j]?=some v→w.cell? (ad.add j)=some v:=fun j v hj=>by
  match j,hj with
  | 0,hj =>
    simp at hj
    subst hj
    simpa [Addr.add] using hu
  | j+1,hj=>simp at hj
 by_cases hroom:n+1≤cap
 ·have hf:=run_firstCells_some (P:=P) w i.size 1 ad 1 cc [u] (by simp [hsize]) hnews
  have hst:=run_storeCells_at P b (o+n*i.size) e [u] 0 cur w hg (by rw [hsize];simp;omega) (by simpa using h1)
  simp only [Nat.add_zero,hsize,Nat.mul_one,List.length_cons,List.length_nil,Nat.zero_add] at hst
  generalize harr:(cur.toList.take (o+n)++[u]++cur.toList.drop (o+n+1)).toArray=arr at hst
  have hsz:arr.size=cur.size:=by rw [← harr];simp;omega
  refine ⟨w.setRow b arr,b,o,cap,arr, ?_,setRow_heap w b cur arr e _ hg,hroom,hcm,by omega,fun j hj=>?_, ?_,⟨rfl,rfl,rfl,by simp,fun k _ hk=>setRow_other w b k _ (fun q=>hk (by simp [q]))⟩,.inl rfl⟩
  ·rw [hsize] at hf
   simp [Builtin.append_,run_underlying ht,sizeOf,typeInfo,hi,Builtin.lenOf,hroom,hf,Addr.add_lit,hst,hsize]
  ·rw [← harr,List.getElem?_toArray,List.getElem?_append_left (by simp;omega),List.getElem?_append_left (by simp;omega),List.getElem?_take,if_pos (by omega),Array.getElem?_toList]
  ·have:(cur.toList.take (o+n)).length=o+n:=by simp;omega
   rw [← harr,List.getElem?_toArray,List.getElem?_append_left (by simp;omega),List.getElem?_append_right (by omega),this,Nat.sub_self]
   rfl
 ·obtain ⟨olds,hol,hoc⟩:∃ olds:List Value,olds.length=n*i.size∧∀ (j:Nat) v,olds[j]?=some v→w.cell? ((⟨b,o,none⟩:Addr).add j)=some v∧cur[o+j]?=some v:=by
   refine ⟨(cur.toList.drop o).take n,by simp [hsize];omega,fun j v hj=>?_⟩
   have hj':=cT hj
   rw [List.getElem?_take,if_pos (by simp at hj';omega),List.getElem?_drop,Array.getElem?_toList] at hj
   refine ⟨?_,hj⟩
   rw [add_lit]
   simp [World.cell?,hg,hj]
  have hr:=run_append_grow (P:=P) (w:=w) t ty e i z ht hi hz ⟨b,o,none⟩ n cap olds hol (fun j v hj=>(hoc j v hj).1) ad 1 cc [u] (by simp [hsize]) hnews (by omega) (by unfold LIM at hlim;omega) (growslice_fits (by omega) (by
   have:=Nat.mul_le_mul hlim hby
   unfold LIM at this
   omega))
  have hge:=grownCap_ge w (n+1) cap e
  have hcm':grownCap w (n+1) cap e≤maxLen:=grownCap_le_maxLen w (n+1) cap e (by unfold LIM at hlim;unfold maxLen;omega)
  refine ⟨_,w.heap.size,0,_,_,hr,heap_alloc_new w.drew _,hge,hcm', ?_,fun j hj=>?_, ?_,⟨rfl,rfl,rfl,by simp,fun k hk _=>heap_alloc_old w.drew _ (r:=k) hk⟩,.inr rfl⟩
  ·simp [size_zeroCells,hzs,hsize,hol];omega
  ·rw [Nat.zero_add]
   have hlt:j<olds.length:=by rw [hol,hsize];omega
   have:=(hoc j _ (List.getElem?_eq_getElem hlt)).2
   rw [this]
   rw [Array.getElem?_append_left (by simp;omega),Array.getElem?_append_left (by simpa using hlt)]
   simp [hlt]
  ·rw [Nat.zero_add]
   rw [Array.getElem?_append_left (by simp [hol,hsize])]
   rw [Array.getElem?_append_right (by simp [hol,hsize])]
   simp [hol,hsize]
theorem PS {o:Oper} {t e g:Nat} {s x:Operand} {l:List Int} {y:Int} (ho:o.op=.call { callee:=.builtin .append,args:=#[s,x],argTypes:=#[t,t] }) (ht:nV P t=some e) (hrow:Kh P e=true) (hg:g<PIN)
  (hs:pev σ s=.row (.top g) e) (hx:(pev σ x).elems σ.h=some [[vI y]]) (hf:(pev σ x).flat σ.h=true) (hr:σ.hget g=some (.tl e l)) (hlim:l.length+1≤LIM) (h:Inv P E S0 N σ a w c) (hd:∀ k,o.dst=some k→k<N) :
  Ew P E S0 N o a w (Res.put σ o.dst ⟨[gF g],[(g,.tl e (l++[y]))],.row (.top g) e⟩):=by
 have rs:=h.ev s
 rw [hs] at rs
 have hX:=Rk rs
 have rx:=h.ev x
 obtain ⟨i,z,hi,hz,hsz,hby,hzs,hsize⟩:=yZ hrow
 have hu:=nU ht
 obtain ⟨hty,hs1,hD,of,cap,cur,h0,hb,hlc,hcm,hcs,hcell⟩:=h.fY g _ hr
 have hi1:i.size=1:=by rw [hsize,hs1]
 obtain ⟨A,cc,news,hXx,hnl,hA,hnc,h1,hrf⟩:=Nc h.fY rx hx hf (k:=1) (by simp) (by omega)
 obtain ⟨ad,rfl⟩:=hA (by simp)
 have hu0:news[0]?=some (news.getD 0 undef):=by
  rw [List.getD_eq_getElem?_getD,List.getElem?_eq_getElem (by simp at hnl;omega)];rfl
 have hy:news.getD 0 undef=.int .i64 y:=by
  have:=hrf 0 0 (vI y) rfl
  exact (RV.free (P:=P) (c:=c) _ _ this).lL
 rw [hy] at hu0
 have hcu:w.cell? ad=some (.int .i64 y):=by simpa [Addr.add] using hnc ad rfl 0 _ hu0
 obtain ⟨w',b',o',cap',cur',hrun,hb',hlc',hcm',hcs',hold,hnew,hgrow,hblk⟩:=Tq (P:=P) (w:=w) t o.type e i z hu hi hz hi1 hby hzs (c.τ (.top g)) of l.length cap cur hb hlc hcm hcs ad cc _ hcu rfl hlim
 have hexec:(execOp a.eval o).run P w=.ok (.value (.slice (some ⟨b',o',none⟩) (l.length+1) cap')) w':=by
  unfold execOp
  simp only [ho,resolve,invoke,builtin,Sem.run_bind,Sem.run_pure,Result.andThen_ok,List.map_toArray,List.map_cons,List.map_nil,hX,h0,hXx,List.length_cons,List.length_nil,hrun]
 obtain ⟨hM,hlt,hnS⟩:=h.ok.hD _ hD
 have hsame:∀ b,b<w.heap.size→b≠c.τ (.top g)→w'.heap[b]?=w.heap[b]?:=fun b hb' hne=>hgrow.block b hb' (fun q=>hne (Option.some.inj q))
 have hS:Iz c.S w w':=fun b hS=>hsame b (h.ok.hS b hS) fun e=>hnS (e ▸ hS)
 have below:E.Fr w':=⟨hgrow.os.trans h.below.os,hgrow.tape.trans h.below.tape,hgrow.output.trans h.below.output,Nat.le_trans h.below.size hgrow.size,fun k hk' hm=>(hsame k (Nat.lt_of_lt_of_le hk' h.below.size) fun e=>hm (e ▸ hM)).trans (h.below.block k hk' hm)⟩
 let v':Value:=.slice (some ⟨b',o',none⟩) (l.length+1) cap'
 let c':=c.lay g b' v' e True
 have hltb:b'<w'.heap.size:=by
  rcases Nat.lt_or_ge b' w'.heap.size with q | q
  ·exact q
  ·rw [Array.getElem?_eq_none q] at hb';cases hb'
 have hok:c'.Ok E.M w':=Jg h.ok hgrow.size (fun _=>by
  rcases hblk with rfl | rfl
  ·exact ⟨hM,hltb,hnS⟩
  ·exact ⟨h.below.mine (Nat.le_refl _),hltb,fun q=>by have:=h.ok.hS _ q;omega⟩) fun _ k' hne hDk e=>by
  rcases hblk with rfl | rfl
  ·exact hne (by rw [h.ok.inj _ _ hDk hD e];rfl)
  ·have:=(h.ok.hD k' hDk).2.1;omega
 have hrep:Ih P w' c' g e (l++[y]):=by
  refine ⟨dO.2.2.1,hs1,dO.2.2.2.2 trivial,o',cap',cur',by rw [dO.2.1,dO.1,List.length_append];rfl,by rw [dO.1];exact hb',by rw [List.length_append];exact hlc',hcm',hcs',fun i n hi=>?_⟩
  by_cases hil:i<l.length
  ·rw [List.getElem?_append_left hil] at hi
   rw [hold i hil];exact hcell i n hi
  ·have hi':=cT hi
   simp only [List.length_append,List.length_cons,List.length_nil] at hi'
   obtain rfl:i=l.length:=by omega
   simp only [List.getElem?_concat_length,Option.some.injEq] at hi
   subst hi
   exact hnew
 have hrv:RV P w' c' (.row (.top g) e) v':=by have:=hrep.rv;rwa [show c'.hd (.top g)=v' from dO.2.1] at this
 refine pS hd (.inl hexec) (c':=c') ?_ hrv
 refine h.step (gF g) (·=g) below hok hS (fun _ h=>h) h.sup (fun k hk hp=>?_) (fun k hk=>mF (pW.1 hk)) (fun k hDk hx=>⟨hsame _ (h.ok.hD k hDk).2.1 fun e=>hx (by rw [h.ok.inj _ _ hDk hD e];rfl),(Hl hx).2 hDk⟩)
  (fun k hk=>kM.1 hk) rfl (fun g' o hx hg=>?_) (fun g' o hx hg=>?_)
 ·rw [kM.1 hp] at hk;omega
 ·simp only [Res.base,List.foldl_cons,List.foldl_nil,fQ] at hg
  rwa [if_neg hx] at hg
 ·simp only [Res.base,List.foldl_cons,List.foldl_nil,fQ] at hg
  rw [if_pos hx] at hg
  injection hg with hg
  subst hg hx
  exact hrep
end
section
variable {G:Prg} {ops:Array Oper} {k:Nat} {σ:St} {K:St→Prop}
theorem LU {g e:Nat} {l:List Int} (hg:σ.hget g=some (.row e [] (l.map cI))) (hl:l.isEmpty=false) (he:aM G.P e=1) (next:EVS G ops k (σ.put g (.tl e l)) K):EVS G ops k σ K:=
 BJ (fun hi=>⟨_,hi.WS hg (by rintro rfl;cases hl) he⟩) next
theorem QB {g e:Nat} {l:List Int} (h:Oi G ops k σ=some (.row (.top g) e)) (hg:σ.hget g=some (.tl e l)):Ch G ops k σ (.val (vI (l.length:Int))):=by
 unfold Oi at h
 split at h
 case h_2=>cases h
 rename_i o ho
 split at h
 case h_2=>cases h
 rename_i c hop
 split at h
 case h_2=>cases h
 rename_i hcal
 split at h
 case h_2=>cases h
 rename_i x t hargs htys
 split at h
 case h_2=>cases h
 rename_i e' hu
 simp only [Option.some.injEq] at h
 obtain ⟨q1,q2⟩:=jQ ho
 refine ⟨o,q1,q2,fun hI hd=>?_⟩
 have r1:=hI.ev x
 rw [h] at r1
 have hX:=Rk r1
 obtain ⟨_,_,_,of,cap,cur,h0,_⟩:=hI.fY g _ hg
 refine bY (v:=.int .i64 l.length) hI hd ?_ (.free _ _ (.lit _))
 have ha:c.args=#[x]:=by rw [← Array.toList_inj];exact hargs
 have hty:c.argTypes=#[t]:=by rw [← Array.toList_inj];exact htys
 unfold execOp
 simp only [hop,resolve,hcal,ha,hty,invoke,builtin,Sem.run_bind,Sem.run_pure,Result.andThen_ok,List.map_toArray,List.map_cons,List.map_nil,hX,h0]
 simp [Builtin.len_,run_underlying hu,goInt]
def TA (G:Prg) (ops:Array Oper) (k:Nat) (σ:St):Option (PV×PV×Nat×Bool):=match Gl ops k σ with
 | some o=>(match o.op with
   | .slice t x (some y) none none=>(match nV G.P t with
     | some e=>some (pev σ x,pev σ y,e,(G.P.info? e).isSome)
     | none=>none)
   | _=>none)
 | none=>none
theorem KV {g e n:Nat} {l:List Int} {kd:IntKind} (h:TA G ops k σ=some (.row (.top g) e,.lit (.int kd n),e,true)) (hp:Nat.blt g PIN=true) (hg:σ.hget g=some (.tl e l)) (hn:decide (n≤l.length)=true):Ch G ops k σ ⟨[gF g],[(g,.tl e (l.drop n))],.row (.top g) e⟩:=by
 unfold TA at h
 split at h
 case h_2=>cases h
 rename_i o ho
 split at h
 case h_2=>cases h
 rename_i t x y hop
 split at h
 case h_2=>cases h
 rename_i e' he
 simp only [Option.some.injEq,Prod.mk.injEq] at h
 obtain ⟨h1,h2,rfl,h4⟩:=h
 obtain ⟨q1,q2⟩:=jQ ho
 exact ⟨o,q1,q2,fun hI hd=>LH hop he h4 (by simpa using hp) h1 (by rw [h2];simp [La]) hg (of_decide_eq_true hn) hI hd⟩
def KS (G:Prg) (ops:Array Oper) (k:Nat) (σ:St):Option (PV×PV×Nat×Bool):=match Gl ops k σ with
 | some o=>(match o.op with
   | .call c=>(match c.callee with
     | .builtin .append=>(match c.args.toList,c.argTypes.toList with
       | [s,x],[t,t']=>if t=t' then (match nV G.P t with
         | some e=>some (pev σ s,pev σ x,e,Kh G.P e)
         | none=>none) else none
       | _,_=>none)
     | _=>none)
   | _=>none)
 | none=>none
theorem PZ {g e:Nat} {l l':List Int} {y:Int} {x:PV} (h:KS G ops k σ=some (.row (.top g) e,x,e,true)) (hp:Nat.blt g PIN=true) (hg:σ.hget g=some (.tl e l)) (hx:x.elems σ.h=some [[vI y]]) (hf:x.flat σ.h=true) (hl:app l [y]=some l'):Ch G ops k σ ⟨[gF g],[(g,.tl e l')],.row (.top g) e⟩:=by
 obtain ⟨hlim,rfl⟩:=PR hl
 unfold KS at h
 split at h
 case h_2=>cases h
 rename_i o ho
 split at h
 case h_2=>cases h
 rename_i c hop
 split at h
 case h_2=>cases h
 rename_i hcal
 split at h
 case h_2=>cases h
 rename_i s x0 t t' hargs htys
 split at h
 case isFalse=>cases h
 rename_i htt;subst htt
 split at h
 case h_2=>cases h
 rename_i e' he
 simp only [Option.some.injEq,Prod.mk.injEq] at h
 obtain ⟨h1,h2,rfl,h4⟩:=h
 obtain ⟨q1,q2⟩:=jQ ho
 have ha:c.args=#[s,x0]:=by rw [← Array.toList_inj];exact hargs
 have hty:c.argTypes=#[t,t]:=by rw [← Array.toList_inj];exact htys
 have hop':o.op=.call { callee:=.builtin .append,args:=#[s,x0],argTypes:=#[t,t] }:=by
  rw [hop,← ha,← hty,← hcal]
 exact ⟨o,q1,q2,fun hI hd=>PS hop' he h4 (by simpa using hp) h1 (by rw [h2];exact hx) (by rw [h2];exact hf) hg (by simpa using hlim) hI hd⟩
def SU (ops:Array Oper) (k:Nat) (σ:St):Option (Nat×PV×Nat):=match Gl ops k σ with
 | some o=>(match o.op with
   | .makeFunc (.func f) first caps=>(match first.toList with
     | [x]=>some (f,pev σ x,caps.size)
     | _=>none)
   | _=>none)
 | none=>none
theorem TN {f:Nat} (h:SU ops k σ=some (f,.agg [],0)):Ch G ops k σ (.val (.lit (.func (.func f) #[.agg #[]] #[]))):=by
 unfold SU at h
 split at h
 case h_2=>cases h
 rename_i o ho
 split at h
 case h_2=>cases h
 rename_i f' first caps hop
 split at h
 case h_2=>cases h
 rename_i x hfirst
 simp only [Option.some.injEq,Prod.mk.injEq] at h
 obtain ⟨rfl,h2,h3⟩:=h
 obtain ⟨q1,q2⟩:=jQ ho
 obtain rfl:first=#[x]:=Array.toList_inj.1 hfirst
 obtain rfl:caps=#[]:=Array.eq_empty_of_size_eq_zero h3
 refine ⟨o,q1,q2,fun hI hd=>?_⟩
 have r1:=hI.ev x
 rw [h2] at r1
 refine bY hI hd ?_ (.free _ _ (.lit _))
 unfold execOp
 rw [hop]
 simp [r1.PQ,Instr.makeFunc]
def MB (G:Prg) (ops:Array Oper) (k:Nat) (σ:St):Option (PV×PV×Nat×Nat×Nat):=match Gl ops k σ,Fg ops (k+1) with
 | some o,some o2=>(match o.op,o.dst,o2.op,o2.dst,o2.guard with
   | .indexAddr t x ix,some d1,.load t2 (.tmp d),some d2,none=>if Nat.beq d d1=true then (match nV G.P t,KF G.P t2 with
     | some e,some .i64=>some (pev σ x,pev σ ix,e,d1,d2)
     | _,_=>none) else none
   | _,_,_,_,_=>none)
 | _,_=>none
theorem LR {g e d1 d2:Nat} {l:List Int} {i x:Int} {kd:IntKind} (h:MB G ops k σ=some (.row (.top g) e,.lit (.int kd i),e,d1,d2)) (hinfo:(G.P.info? e).isSome=true) (hg:σ.hget g=some (.tl e l)) (hx:idx l i=some x)
  (next:EVS G ops (k+2) ((σ.set d1 .undef).set d2 (vI x)) K):EVS G ops k σ K:=by
 obtain ⟨hi0,hix⟩:=Ka hx
 unfold MB at h
 split at h
 case h_2=>cases h
 rename_i o o2 ho ho2
 split at h
 case h_2=>cases h
 rename_i t y ix d1' t2 d d2' hop hdst hop2 hdst2 hgd2
 split at h
 case isFalse=>cases h
 rename_i hdd
 have hdd:=Nat.eq_of_beq_eq_true hdd
 split at h
 case h_2=>cases h
 rename_i e' he hti
 simp only [Option.some.injEq,Prod.mk.injEq] at h
 obtain ⟨h1,h2,rfl,rfl,rfl⟩:=h
 subst hdd
 obtain ⟨q1,q2⟩:=jQ ho
 intro E S0 N a w c hd hi Q hn
 have hlt:k<ops.size:=by
  unfold Fg at q1
  obtain ⟨q,_⟩:=List.getElem?_eq_some_iff.1 q1
  simpa using q
 have hlt2:k+1<ops.size:=by
  unfold Fg at ho2
  obtain ⟨q,_⟩:=List.getElem?_eq_some_iff.1 ho2
  simpa using q
 have hmA:ops[k]?=some o:=by rw [← Array.getElem?_toList];exact q1
 have hmB:ops[k+1]?=some o2:=by rw [← Array.getElem?_toList];exact ho2
 have es:ops.size-k=(ops.size-(k+2))+1+1:=by omega
 rw [es,List.range'_succ]
 simp only [wpOps,hmA]
 rw [if_pos (Du hi q2)]
 refine .inl ?_
 have hd1:∀ j,o.dst=some j→j<N:=hd o (List.mem_of_getElem? q1)
 have hd2:∀ j,o2.dst=some j→j<N:=hd o2 (List.mem_of_getElem? ho2)
 have r1:=hi.ev y
 rw [h1] at r1
 have hX:=Rk r1
 have r2:=hi.ev ix
 rw [h2] at r2
 have hI:=r2.lL
 obtain ⟨hty,hs1,hD,of,cap,cur,h0,hb,hlc,hcm,hcs,hcell⟩:=hi.fY g _ hg
 have hil:=cT hix
 have hu:=nU he
 have hb1:0≤i∧i<(l.length:Int):=⟨hi0,by omega⟩
 have hrun1:(execOp a.eval o).run G.P w=.ok (.value (.pointer (some ⟨c.τ (.top g),of+i.toNat,none⟩))) w:=by
  unfold execOp
  simp only [hop,hX,h0,hI,Instr.indexAt,asIntOf,Sem.run_bind,Sem.run_pure,Result.andThen_ok,run_underlying hu,if_pos hb1,run_sizeOf (Option.isSome_iff_exists.1 hinfo),hs1,Nat.mul_one,add_lit]
 have hti':G.P.underlying t2=some (.int .i64):=by
  unfold KF at hti
  split at hti
  ·rename_i k' hk;injection hti with hti;subst hti;exact hk
  ·cases hti
 unfold Oper.wp
 rw [hrun1,Oper.upon_value,hdst]
 -- the second
 have inv1:Inv G.P E S0 N (rE σ (some d) .undef) (a.put (some d) (.pointer (some ⟨c.τ (.top g),of+i.toNat,none⟩))) w c:=hi.put (some d) (fun j hj=>hd1 j (hdst.trans hj)) (.free _ _ (.undef _))
 rw [show k+1=k+1 from rfl,List.range'_succ]
 simp only [wpOps,hmB]
 rw [if_pos (by unfold Region.wanted;rw [hgd2])]
 refine .inl ?_
 have hev:(a.put (some d) (.pointer (some ⟨c.τ (.top g),of+i.toNat,none⟩))).eval (.tmp d)=.pointer (some ⟨c.τ (.top g),of+i.toNat,none⟩):=by
  have:=GV a d (.pointer (some ⟨c.τ (.top g),of+i.toNat,none⟩)) d (by rw [hi.size];exact hd1 d hdst)
  rw [if_pos rfl] at this
  exact this
 have hcell1:w.cell? ⟨c.τ (.top g),of+i.toNat,none⟩=some (.int .i64 x):=by
  simp [World.cell?,hb,hcell _ _ hix]
 have hrun2:(execOp (a.put (some d) (.pointer (some ⟨c.τ (.top g),of+i.toNat,none⟩))).eval o2).run G.P w=.ok (.value (.int .i64 x)) w:=by
  unfold execOp
  rw [hop2]
  simp only [hev,Instr.loadAt,Instr.sureAddr,Sem.run_bind,Sem.run_pure,Result.andThen_ok]
  have:=Uc (P:=G.P) (w:=w) (c:=c) (agg:=false) (t:=t2) (by unfold Ig;rw [hti']) ⟨c.τ (.top g),of+i.toNat,none⟩ (cs:=[vI x]) (off:=0) (pv:=vI x) (fun _=>.int .i64 x) (fun j q hq=>by
   match j,hq with
   | 0,hq=>obtain rfl:=Option.some.inj hq;exact ⟨by simpa [Addr.add] using hcell1,.free _ _ (.lit _)⟩
   | j+1,hq=>simp at hq) rfl
  obtain ⟨u,q1,q2⟩:=this
  have hu1:=q2.lL
  subst hu1
  have q3:(loadVar t2 ⟨c.τ (.top g),of+i.toNat,none⟩).run G.P w=.ok (.int .i64 x) w:=by simpa [Addr.add] using q1
  rw [q3];rfl
 unfold Oper.wp
 rw [hrun2,Oper.upon_value,hdst2]
 have inv2:=inv1.put (some d2') (fun j hj=>hd2 j (hdst2.trans hj)) (pv:=vI x) (v:=.int .i64 x) (.free _ _ (.lit _))
 exact next E S0 N _ w c hd inv2 Q hn
end
end Go.VI
namespace Go.VI
open Go.RowKit
theorem HZ {F:List Nat} {v:PV} {d:Nat} (hd:d ∈ F) (h:fL F v=true):v.has (gF d)=false:=by
 have:=List.all_eq_true.1 h d hd
 simpa using this
section
variable {G:Prg} {ops:Array Oper} {k:Nat} {σ:St} {K:St→Prop}
end
theorem UI {P:Program} {f:FuncId} {qs:List PV} {t e:Nat} {es:List (List PV)} (ht:t<PIN) (h:PC P f qs [] (.row (.top t) e) [(t,.row e [] es)]):PC P f qs [] (.sl es) []:=by
 refine ⟨h.1,fun w c vals heg hok hobj hlen hrep=>(h.2 w c vals heg hok hobj hlen hrep).mono fun ex w' he=>?_⟩
 obtain ⟨v,c',rfl,hfr,hs1,hs2,hok',hpin,hv,hob⟩:=he
 obtain ⟨xs,r⟩:=hob t (.row e [] es) (by simp [HP.get])
 have hvv:v=c'.hd (.top t):=Rk hv
 let S2:Nat→Prop:=fun b=>c'.S b∨(c'.D (.top t)∧c'.τ (.top t)=b)
 let c2:Ctx:=⟨S2,c'.τ,c'.hd,c'.ty,fun k=>c'.D k∧k≠.top t⟩
 refine ⟨v,c2,rfl,hfr,fun b hb=>.inl (hs1 b hb),fun b hb=>?_,⟨fun b hb=>?_,fun k hk=>?_,fun k k' hk hk' he=>hok'.inj k k' hk.1 hk'.1 he⟩,hpin, ?_,fun g o hg=>nomatch hg⟩
 ·rcases hb with q | ⟨q1,rfl⟩
  ·exact hs2 b q
  ·exact .inr (hok'.hD _ q1).1
 ·rcases hb with q | ⟨q1,rfl⟩
  ·exact hok'.hS b q
  ·exact (hok'.hD _ q1).2.1
 ·have:=hok'.hD k hk.1
  refine ⟨this.1,this.2.1,fun q=>?_⟩
  rcases q with q | ⟨q1,q2⟩
  ·exact this.2.2 q
  ·exact hk.2 (hok'.inj _ _ hk.1 q1 q2.symm)
 ·refine .free _ _ ?_
  rw [hvv]
  exact Rf (S:=S2) r (fun i j pv v hc=>by
   simp only [eZ,Jat] at hc
   exact hc.same (fun _ _=>rfl) fun _ h=>.inl h) fun b hb=>by
    obtain ⟨q1,q2⟩:=r.blk b hb
    exact .inr ⟨q1,q2⟩
end Go.VI
namespace Go.VI
open Go.RowKit
section
variable {P:Program} {E:Ent} {S0:Nat→Prop} {N:Nat} {σ:St} {a:Act} {w:World} {c:Ctx}
theorem CO {es:List (List PV)} {i:Nat} {q:List PV} {x y:Nat} {pv:PV} (h:dZ (es.set i q) x y=some pv):(x=i∧q[y]?=some pv)∨(x≠i∧dZ es x y=some pv):=by
 unfold dZ at h ⊢
 by_cases e:i=x
 ·subst e
  rw [List.getElem?_set] at h
  rw [if_pos rfl] at h
  split at h
  ·exact .inl ⟨rfl,h⟩
  ·simp at h
 ·rw [List.getElem?_set_ne e] at h
  exact .inr ⟨fun q=>e q.symm,h⟩
theorem Inv.take (h:Inv P E S0 N σ a w c) {g T e e2 i:Nat} {es es':List (List PV)} (hT:T<PIN) (hne:T≠g) (hcl:Clean [T] σ) (hg:σ.hget g=some (.row e [(0,e2)] es)) (hi:es[i]?=some [.sl es']) :
  ∃ c',Inv P E S0 N ⟨σ.s,(g,.row e [(0,e2)] (es.set i [.undef]))::(T,.row e2 [] es')::σ.h⟩ a w c'∧RV P w c' (.row (.top T) e2) (c.hd (.sub g i 0)):=by
 obtain ⟨xs,r⟩:=h.fY g _ hg
 have hc0:=r.rep i 0 (.sl es') (by unfold dZ;rw [hi];rfl)
 simp only [eZ,Jat,Nat.beq_refl,if_true] at hc0
 rcases hc0 with hc0 | ⟨hv,es2,xs2,hes,r2⟩
 ·cases hc0
 injection hes with hes;subst hes
 let c':Ctx:=⟨c.S,fun k=>if k=.top T then c.τ (.sub g i 0) else c.τ k,fun k=>if k=.top T then c.hd (.sub g i 0) else c.hd k,fun k=>if k=.top T then c.ty (.sub g i 0) else c.ty k,
  fun k=>if k=.top T then c.D (.sub g i 0) else k≠.sub g i 0∧k.tag≠T∧c.D k⟩
 have ctop:c'.τ (.top T)=c.τ (.sub g i 0)∧c'.hd (.top T)=c.hd (.sub g i 0)∧c'.ty (.top T)=c.ty (.sub g i 0)∧(c'.D (.top T)↔c.D (.sub g i 0)):=by simp [c']
 have off:∀ k,k.tag≠T→Agree c c' k:=fun k hk=>by
  have:k≠.top T:=by rintro rfl;exact hk rfl
  simp [Agree,c',this]
 have hDo:∀ k,k≠.top T→(c'.D k↔k≠.sub g i 0∧k.tag≠T∧c.D k):=fun k hk=>by simp [c',hk]
 have old:∀ k,c'.D k→∃ k0,c.D k0∧c'.τ k=c.τ k0∧((k=.top T∧k0=.sub g i 0)∨(k=k0∧k≠.sub g i 0)):=fun k hk=>by
  by_cases q1:k=.top T
  ·subst q1;exact ⟨_,ctop.2.2.2.1 hk,ctop.1,.inl ⟨rfl,rfl⟩⟩
  ·have:=(hDo k q1).1 hk
   exact ⟨k,this.2.2,(off k this.2.1).1,.inr ⟨rfl,this.1⟩⟩
 have hok:c'.Ok E.M w:=by
  refine ⟨h.ok.hS,fun k hk=>?_,fun k k' hk hk' he=>?_⟩
  ·obtain ⟨k0,q1,q2,_⟩:=old k hk
   rw [q2];exact h.ok.hD k0 q1
  ·obtain ⟨k0,q1,q2,q3⟩:=old k hk
   obtain ⟨k1,p1,p2,p3⟩:=old k' hk'
   have:=h.ok.inj k0 k1 q1 p1 (by rw [← q2,← p2];exact he)
   subst this
   rcases q3 with ⟨rfl,rfl⟩ | ⟨rfl,q4⟩ <;> rcases p3 with ⟨rfl,p4⟩ | ⟨rfl,p4⟩
   ·rfl
   ·exact absurd rfl p4
   ·exact absurd p4 q4
   ·rfl
 have av:∀ v:PV,fL [T] v=true→v.has (gF T)=false:=fun v hv=>HZ (by simp) hv
 have hSm:Iz c.S w w:=fun _ _=>rfl
 have hSS:∀ b,c.S b→c'.S b:=fun _ h=>h
 have hrT:sR P w c' T (.row e2 [] es'):=by
  refine ⟨xs2,r2.dU (k':=.top T) ctop.1 ctop.2.1 ctop.2.2.1 ctop.2.2.2.2 fun a b pv v _ hc=>?_⟩
  exact RF.same (fun _ _=>rfl) (fun _ h=>h) hc
 have hrg:sR P w c' g (.row e [(0,e2)] (es.set i [.undef])):=by
  have ag:=off (.top g) (show g≠T from fun q=>hne q.symm)
  have hlen1:aM P e=1:=by have:=r.len _ (List.mem_of_getElem? hi);simpa using this.symm
  refine ⟨xs,ag.2.2.trans r.ty,r.pos,fun l hl=>?_,by rw [ag.2.1,List.length_set];exact r.own,fun b hb=>?_,fun x y pv hgE=>?_,fun x y pv hgE=>?_⟩
  ·rcases List.mem_or_eq_of_mem_set hl with q | q
   ·exact r.len l q
   ·rw [q,hlen1];rfl
  ·rw [ag.2.1] at hb
   obtain ⟨q1,q2⟩:=r.blk b hb
   exact ⟨(hDo (.top g) (by simp;exact fun q=>hne q.symm)).2 ⟨by simp,fun q=>hne q.symm,q1⟩,ag.1.trans q2⟩
  ·rcases CO hgE with ⟨rfl,q⟩ | ⟨_,q⟩
   ·obtain rfl:y=0:=by have:=cT q;simp at this;exact this
    exact r.one _ 0 (.sl es') (by unfold dZ;rw [hi];rfl)
   ·exact r.one x y pv q
  ·rcases CO hgE with ⟨rfl,q⟩ | ⟨hx,q⟩
   ·obtain rfl:y=0:=by have:=cT q;simp at this;exact this
    simp only [List.getElem?_cons_zero,Option.some.injEq] at q
    subst q
    show eZ P w c' g [(0,e2)] _ 0 .undef _
    unfold eZ
    simp only [Jat,Nat.beq_refl,if_true]
    exact .inl trivial
   ·have hc:=r.rep x y pv q
    unfold eZ at hc ⊢
    split at hc
    ·exact hc.same (fun _ _=>rfl) fun _ h=>h
    ·rcases hc with hc | ⟨h1,es3,xs3,h2,r3⟩
     ·exact .inl hc
     have hk:(Key.sub g x y)≠.sub g i 0:=by intro q;injection q with _ q1;exact hx q1
     have ag':=off (.sub g x y) (show g≠T from fun q=>hne q.symm)
     exact .inr ⟨h1.trans ag'.2.1.symm,es3,xs3,h2,pK.dU (c:=c) (c':=c') ag'.1 ag'.2.1 ag'.2.2 (fun q=>(hDo _ (by simp)).2 ⟨hk,fun q=>hne q.symm,q⟩) (fun _ _ _ _ _ q=>q) r3⟩
 refine ⟨c',⟨h.below,hok,h.sub,h.sup,fun k=>?_,fun g' o hg'=>?_,fun k hk=>?_,h.small,h.size,h.defers⟩, ?_⟩
 ·exact (h.slots k).keep (p:=gF T) hSm hSS (fun k hk=>off k (pW.1 hk)) (av _ (hcl.1 k))
 ·have e1 : (⟨σ.s,(g,.row e [(0,e2)] (es.set i [.undef]))::(T,.row e2 [] es')::σ.h⟩:St).hget g'=HP.get ((g,.row e [(0,e2)] (es.set i [.undef]))::(T,.row e2 [] es')::σ.h) g':=rfl
  rw [e1] at hg'
  simp only [HP.get] at hg'
  split at hg'
  ·rename_i q
   obtain rfl:=Nat.eq_of_beq_eq_true q
   injection hg' with hg';subst hg';exact hrg
  ·rename_i q1
   split at hg'
   ·rename_i q
    obtain rfl:=Nat.eq_of_beq_eq_true q
    injection hg' with hg';subst hg';exact hrT
   ·rename_i q2
    have n1:g'≠g:=fun q=>q1 (by rw [q];exact Nat.beq_refl g)
    have n2:g'≠T:=fun q=>q2 (by rw [q];exact Nat.beq_refl T)
    have r':=h.fY g' o hg'
    have hk:∀ k:Key,k.tag=g'→gF T k=false:=fun k hk=>pW.2 (by rw [hk];exact n2)
    have hD:∀ k:Key,k.tag=g'→c.D k→w.heap[c.τ k]?=w.heap[c.τ k]?∧c'.D k:=fun k hk hDk=>by
     refine ⟨rfl,(hDo k (by rintro rfl;exact n2 hk.symm)).2 ⟨by rintro rfl;exact n1 hk.symm,by rw [hk];exact n2,hDk⟩⟩
    have:=r'.Ct (c':=c') (p:=gF T) hSm hSS (fun k hk=>off k (pW.1 hk)) hk hD
    have e2:o.kill (gF T)=o:=by
     have:=(hcl.2 g' o hg').2
     cases o with
     | box cs =>
       simp only [HO.kill]
       congr 1
       have hh:∀ l:List PV,l.all (fL [T])=true→PV.vZ (gF T) l=l:=by
        intro l
        induction l with
        | nil=>intro _;rfl
        | cons x l ih=>intro hl;simp only [List.all_cons,Bool.and_eq_true] at hl;simp only [PV.vZ,Dr _ x (av x hl.1),ih hl.2]
       exact hh cs this
     | _=>rfl
    rwa [e2] at this
 ·obtain ⟨q1,q2,q3⟩:=h.pin k hk
  obtain ⟨p1,p2,p3⟩:=off (.top k) (show k≠T by omega)
  exact ⟨p1.trans q1,p2.trans q2,p3.trans q3⟩
 ·have:=RV.row (P:=P) (w:=w) (c:=c') (.top T) e2 (ctop.2.2.1.trans r2.ty) (by rw [ctop.2.1];exact r2.Hf)
  rwa [ctop.2.1] at this
end
section
variable {G:Prg} {ops:Array Oper} {k:Nat} {σ:St} {K:St→Prop}
theorem LL {α β:Type} {c:α→List PV} {c2:β→List PV} {D:DD} {m:Nat} {l:List α} {x:α} {l2:List β} {g T e e2 i:Nat} (hm:Nat.ble m k=false) (h:DV G ops k σ=some (false,1,.rptr (.top g) e i 0)) (hg:σ.h.get g=some (.row e [(0,e2)] (l.map c))) (hx:l[i]?=some x) (hc:c x=[.sl (l2.map c2)])
  (hT:(Nat.blt T PIN&&!Nat.beq T g)=true) (hF:inL [T] (D.F k)=true) (hTT:inL [g,T] (D.T k)=true) (hav:avB ops k (D.av k) σ=true)
  (hfv:(fL (D.fv k) (.row (.top T) e2)&&!((D.fv k).any fun y=>Nat.beq y g)&&!((D.fv k).any fun y=>Nat.beq y T))=true)
  (next:EVD G ops D m (k+1) (rE ⟨σ.s,(g,.row e [(0,e2)] ((l.map c).set i [.undef]))::(T,.row e2 [] (l2.map c2))::σ.h⟩ (iM ops k) (.row (.top T) e2)) K):EVD G ops D m k σ K:=by
 simp only [Bool.and_eq_true,Bool.not_eq_true'] at hT hfv
 have hne:T≠g:=fun q=>by rw [q,Nat.beq_refl] at hT;cases hT.2
 unfold DV at h
 split at h
 case h_2=>cases h
 rename_i o ho
 split at h
 case h_2=>cases h
 rename_i t ad hop
 split at h
 case h_2=>cases h
 rename_i ag he
 simp only [Option.some.injEq,Prod.mk.injEq] at h
 obtain ⟨rfl,h1,hp⟩:=h
 obtain ⟨q1,q2⟩:=jQ ho
 rw [Aa q1] at next
 have hs:DStep G.P ops o (D.rd k) (D.F k) σ ⟨[],[(g,.row e [(0,e2)] ((l.map c).set i [.undef])),(T,.row e2 [] (l2.map c2))],.row (.top T) e2⟩:=fun TT τ lc=>by
  obtain ⟨h1',h2'⟩:=Nq lc
  have h2':=h2' (by rw [hop];rfl)
  have ma:(ad:Operand) ∈ o.op.operands.toList:=by rw [hop];simp [Op.operands]
  have hgT:g ∉ TT:=fun hm=>by
   have:=List.all_eq_true.1 (h2' _ ma) g hm
   rw [hp] at this
   simp [PV.has,gF,Key.tag] at this
  have hgτ:τ.hget g=some (.row e [(0,e2)] (l.map c)):=(lc.heap g hgT).symm.trans hg
  refine .inr ⟨by rw [Fc lc];exact q2,fun E S0 N a w cx hi' hcl hdd next Q hn=>?_⟩
  have hcl2:Clean [T] τ:=by
   have hgF:=Cs hF T (by simp)
   have sub:∀ v:PV,fL (D.F k) v=true→fL [T] v=true:=fun v hv=>by
    have:=List.all_eq_true.1 hv T hgF
    simp [fL] at this ⊢
    exact this
   refine ⟨fun i=>sub _ (hcl.1 i),fun g' o' hg'=>?_⟩
   obtain ⟨p1,p2⟩:=hcl.2 g' o' hg'
   refine ⟨fun hm=>p1 (by simp at hm;subst hm;exact hgF), ?_⟩
   cases o' with
   | box cs =>
     simp only [HO.Fy] at p2 ⊢
     exact List.all_eq_true.2 fun v hv=>sub v (List.all_eq_true.1 p2 v hv)
   | _=>rfl
  have hel:(l.map c)[i]?=some [.sl (l2.map c2)]:=by rw [List.getElem?_map,hx];simp [hc]
  obtain ⟨c',hinv,hrv⟩:=hi'.take (by simpa using hT.1) hne hcl2 hgτ hel
  -- what is loaded
  have ra:=hi'.ev ad
  rw [h1' _ ma,hp] at ra
  have hload:Hq false (aM G.P t) τ.h (.rptr (.top g) e i 0)=some (.row (.sub g i 0) e2):=by
   have hr:τ.h.rowAt (.top g)=some (l.map c):=by simp only [HP.rowAt];rw [show τ.h.get g=some (.row e [(0,e2)] (l.map c)) from hgτ]
   have hJ:τ.h.Gp (.top g)=[(0,e2)]:=by simp only [HP.Gp];rw [show τ.h.get g=some (.row e [(0,e2)] (l.map c)) from hgτ]
   simp only [Hq,HP.elem,hr,hJ,hel,Option.map_some,Bool.false_eq_true,if_false]
   rfl
  obtain ⟨u,r1,r2⟩:=Wn he hi' ra hload
  have hu:u=cx.hd (.sub g i 0):=by
   cases r2 with
   | free _ _ hf=>cases hf
   | row=>rfl
  subst hu
  have hrun:(execOp a.eval o).run G.P w=.ok (.value (cx.hd (.sub g i 0))) w:=by
   unfold execOp
   rw [hop]
   simp only [Sem.run_bind,r1,Result.andThen_ok,Sem.run_pure]
  unfold Oper.wp
  rw [hrun,Oper.upon_value]
  refine hn _ _ c' ?_
  have e0:τ.act o.dst ⟨[],[(g,.row e [(0,e2)] ((l.map c).set i [.undef])),(T,.row e2 [] (l2.map c2))],.row (.top T) e2⟩=rE ⟨τ.s,(g,.row e [(0,e2)] ((l.map c).set i [.undef]))::(T,.row e2 [] (l2.map c2))::τ.h⟩ o.dst (.row (.top T) e2):=by
   have:∀ h:HP,h.Gw []=h:=by
    intro h
    induction h with
    | nil=>rfl
    | cons x h ih=>obtain ⟨g,o⟩:=x;simp [HP.Gw,ih]
   simp only [St.act,this,List.cons_append,List.nil_append]
  rw [e0]
  exact hinv.put o.dst hdd hrv
 refine Nd hm q1 _ hs (Jo q1 hav) hTT (by
  simp only [List.all_cons,List.all_nil,Bool.and_true,Bool.and_eq_true,Bool.not_eq_true']
  exact ⟨hfv.1.1,⟨hfv.1.2,rfl⟩,⟨hfv.2,rfl⟩⟩) ?_
 have e:σ.act o.dst ⟨[],[(g,.row e [(0,e2)] ((l.map c).set i [.undef])),(T,.row e2 [] (l2.map c2))],.row (.top T) e2⟩=rE ⟨σ.s,(g,.row e [(0,e2)] ((l.map c).set i [.undef]))::(T,.row e2 [] (l2.map c2))::σ.h⟩ o.dst (.row (.top T) e2):=by
  have:∀ h:HP,h.Gw []=h:=by
   intro h
   induction h with
   | nil=>rfl
   | cons x h ih=>obtain ⟨g,o⟩:=x;simp [HP.Gw,ih]
  simp only [St.act,this,List.cons_append,List.nil_append]
 rw [e];exact next
theorem RU {α:Type} {c:α→List PV} {l:List α} {x:α} {g e e2 j sz:Nat} {i:Int} {kd:IntKind} (h:Mf G ops k σ=some (.row (.top g) e,.lit (.int kd i),sz)) (hg:σ.h.get g=some (.row e [(0,e2)] ((l.map c).set j [.undef]))) (hx:idx l i=some x) (hs:∀ y,(c y).length=sz) (h1:sz=1):fK G ops k σ=some (.val (.rptr (.top g) e i.toNat 0)):=by
 obtain ⟨hi0,hix⟩:=Ka hx
 refine Kp h (Cz hi0) ?_
 have hr:σ.h.rowAt (.top g)=some ((l.map c).set j [.undef]):=by simp only [HP.rowAt];rw [hg]
 have hlt:=cT hix
 have hel:∃ q,((l.map c).set j [.undef])[i.toNat]?=some q∧q.length=sz:=by
  by_cases q:j=i.toNat
  ·subst q
   refine ⟨[.undef],by simp [hlt],by rw [h1];rfl⟩
  ·refine ⟨c x,by rw [List.getElem?_set_ne q,List.getElem?_map,hix];rfl,hs x⟩
 obtain ⟨q,p1,p2⟩:=hel
 simp only [pM,hr,p1,p2,if_true]
theorem KX {α β:Type} {c:α→List PV} {c2:β→List PV} {g d e e' i:Nat} {l:List α} {x x':α} {l2:List β} (h:RA G ops k σ=some (.rptr (.top g) e i 0,.row (.top d) e')) (hg:σ.h.get g=some (.row e [(0,e')] ((l.map c).set i [.undef]))) (hgd:σ.h.get d=some (.row e' [] (l2.map c2)))
  (hc:(Nat.blt d PIN&&!Nat.beq d g&&Nat.blt 0 (aM G.P e))=true) (hx:l[i]?=some x) (hs:c x'=[.sl (l2.map c2)]) :
  Ch G ops k σ ⟨[Oj d g],[(g,.row e [(0,e')] ((l.set i x').map c))],.lit undef⟩:=by
 simp only [Bool.and_eq_true,Bool.not_eq_true'] at hc
 unfold RA at h
 split at h
 case h_2=>cases h
 rename_i o ho
 split at h
 case h_2=>cases h
 rename_i t a' y hop
 split at h
 case h_2=>cases h
 rename_i he
 split at h
 case isFalse=>cases h
 rename_i h1
 simp only [Option.some.injEq,Prod.mk.injEq] at h
 obtain ⟨ha',hy⟩:=h
 obtain ⟨q1,q2⟩:=jQ ho
 refine ⟨o,q1,q2,fun hi hdd=>?_⟩
 have hlt:=cT hx
 have:=GK hop he (Nat.eq_of_beq_eq_true h1) (.inr trivial) (by simpa using hc.1.1) (fun q=>by rw [q,Nat.beq_refl] at hc;cases hc.1.2) ha' hy hg hgd (by simpa using hlt) (by simpa using hc.2) rfl hi hdd
 have e1:setRow ((l.map c).set i [.undef]) i 0 [.sl (l2.map c2)]=(l.set i x').map c:=by
  refine List.ext_getElem? fun n=>?_
  unfold setRow
  rw [List.getElem?_modify,List.getElem?_map]
  by_cases q:i=n
  ·subst q
   simp [hlt,setAt,hs]
  ·rw [List.getElem?_set_ne q,List.getElem?_set_ne q]
   simp [q]
 rwa [e1] at this
theorem Iu {R:TL} {h:HP} {n:Nat} {p q:PV} {ps qs:List PV} (h1:PV.vY R h n p=q) (h2:PV.sK R h n ps=qs):PV.sK R h (n+1) (p::ps)=q::qs:=by
 rw [PV.sK,h1,h2]
theorem PK {α β:Type} {c:α→List PV} {c2:β→List PV} {h:HP} {g i e e2 n:Nat} {l:List α} {x:α} {l2:List β} (hg:h.get g=some (.row e [(0,e2)] (l.map c))) (hx:l[i]?=some x) (hc:c x=[.sl (l2.map c2)]):PV.vY [] h (n+1) (.row (.sub g i 0) e2)=.sl (l2.map c2):=by
 have hr:h.rowAt (.sub g i 0)=some (l2.map c2):=by
  simp only [HP.rowAt]
  rw [hg]
  simp only [Jat,Nat.beq_refl,if_true,Option.isSome_some,List.getElem?_map,hx,Option.map_some,hc,List.getElem?_cons_zero]
 rw [PV.vY]
 simp only [Key.tag,TL.inn]
 rw [PV.view]
 simp only [PV.elems,hr]
theorem IJ {D:DD} {m:Nat} {Q:St→Prop} (N:TL) (vis:List Nat) {f:Nat} {args qs:List PV} {r:PV} {H1:HP} (hm:Nat.ble m k=false) (hc:Uw ops k σ=some (f,args)) (hq:PV.sK [] (σ.h.only vis) DEEP args=qs) (pc:PC G.P f qs [] r H1) (ht:Qf N vis (D.F k) (D.rd k)=true)
  (ind:vis=[]∨(r.ind=true∧∀ g o,H1.get g=some o→o.ind)) (hav:avB ops k (D.av k) σ=true)
  (hT:(inL ((H1.ren N).map (·.1)) (D.T k)&&fL (D.fv k) (r.ren N)&&(H1.ren N).all fun x=>!((D.fv k).any fun y=>Nat.beq y x.1)&&x.2.Fy (D.fv k))=true)
  (next:EVD G ops D m (k+1) (rE ⟨σ.s,H1.ren N++σ.h⟩ (iM ops k) (r.ren N)) Q):EVD G ops D m k σ Q:=by
 obtain ⟨o,h1,h2,h3⟩:=Ik hc
 simp only [Qf,Bool.and_eq_true] at ht
 obtain ⟨⟨⟨t1,t2⟩,t3⟩,t4⟩:=ht
 simp only [Bool.and_eq_true] at hT
 exact BI hm h1 h2 h3 pc t1 t2 t3 t4 hq ind hav hT.1.1 (by rw [Bool.and_eq_true];exact ⟨hT.1.2,hT.2⟩) next
end
end Go.VI
namespace Go.VI
def sel (ks gs:List Nat) (σ:St):St:=⟨ks.map fun k=>(k,σ.get k),gs.filterMap fun g=>(σ.hget g).map fun o=>(g,o)⟩
theorem AA {σ:St}:∀ (ks:List Nat) (i:Nat),SL.get (ks.map fun k=>(k,σ.get k)) i=.undef∨SL.get (ks.map fun k=>(k,σ.get k)) i=σ.get i
 | [],i=>.inl rfl
 | k::ks,i=>by
   simp only [List.map_cons,SL.get]
   split
   ·rename_i h
    subst h
    exact .inr rfl
   ·exact AA ks i
theorem Rg {σ:St}:∀ (gs:List Nat) (g:Nat) (o:HO),HP.get (gs.filterMap fun g=>(σ.hget g).map fun o=>(g,o)) g=some o→σ.hget g=some o
 | [],g,o,h=>by cases h
 | a::gs,g,o,h=>by
   simp only [List.filterMap_cons] at h
   cases e:σ.hget a with
   | none=>rw [e] at h;exact Rg gs g o h
   | some o' =>
     rw [e] at h
     simp only [Option.map_some,HP.get] at h
     split at h
     ·rename_i hb
      have hb':=Nat.eq_of_beq_eq_true hb
      subst hb'
      rw [e];exact h
     ·exact Rg gs g o h
theorem GZ (ks gs:List Nat) (σ:St):Sub (sel ks gs σ) σ:=⟨fun i=>AA ks i,fun g o hg=>Rg gs g o hg⟩
section
variable {G:Prg} {P:Program} {cd b:Code} {σ:St} {K:PX→St→Prop}
theorem UO (ks gs:List Nat) (X:St):iE P (sel ks gs X) X:=CR (GZ ks gs X)
theorem y1 {ops:Array Oper} {k:Nat} (n:Nat) (ks gs:List Nat) (next:SEM G b (sel ks gs (Tp G ops k n σ)) K) (h:(Nat.ble ops.size (k+n),(runK G ops k n σ).isSome)=(true,true):=by kernel_rfl):EVS G ops k σ (Ki G b K .normal):=by
 injection h with h1 h2
 exact Ty n h2 (Qg h1 fun τ hτ=>Ia hτ _ (UO ks gs _) next)
theorem y2 (n:Nat) (ks gs:List Nat) (next:SEM G b (sel ks gs (Tp G (xE cd) 0 n σ)) K) (h:(knd cd,Nat.ble (xE cd).size (0+n),(runK G (xE cd) 0 n σ).isSome)=(1,true,true):=by kernel_rfl):SEM G cd σ (Ki G b K):=by
 injection h with h1 h2
 exact Dw h1 (y1 n ks gs next h2)
theorem y3 (n:Nat) (ks gs:List Nat) (next:SEM G (cR cd) (sel ks gs (Tp G (xE (cL cd)) 0 n σ)) K) (h:(knd cd,knd (cL cd),Nat.ble (xE (cL cd)).size (0+n),(runK G (xE (cL cd)) 0 n σ).isSome)=(3,1,true,true):=by kernel_rfl):SEM G cd σ K:=by
 injection h with h1 h2
 exact Nw h1 (y2 n ks gs next h2)
theorem y4 (ks gs:List Nat) (next:SEM G b (sel ks gs σ) K) (h:knd cd=0:=by kernel_rfl):SEM G cd σ (Ki G b K):=Sd h fun τ hτ=>Ia hτ _ (UO ks gs _) next
theorem yE {X τ:St} (hτ:iE G.P X τ) (ks gs:List Nat) (next:SEM G b (sel ks gs X) K):Ki G b K .normal τ:=Ia hτ _ (UO ks gs _) next
theorem yK (ks gs:List Nat) (s:SEM G cd (sel ks gs σ) K):SEM G cd σ K:=RQ (GZ ks gs σ) s
end
end Go.VI
namespace Go.VI
open Go.RowKit
section
variable {P:Program} {E:Ent} {S0:Nat→Prop} {N:Nat} {σ:St} {a:Act} {w:World} {c:Ctx}
end
section
variable {G:Prg} {ops:Array Oper} {k:Nat} {σ:St} {K:St→Prop}
end
end Go.VI
namespace Go.VI
section
variable {G:Prg} {ops:Array Oper} {k:Nat} {σ:St} {α:Type} {c:α→List PV}
theorem SZ {l:List α} (h:((Oi G ops k σ).bind fun x=>x.elems σ.h)=some (l.map c)):fK G ops k σ=some (.val (.lit (.int .i64 l.length))):=by
 cases hx:Oi G ops k σ with
 | none=>rw [hx] at h;cases h
 | some x=>rw [hx] at h;exact PA hx h
theorem SX {l:List α} {i:Int} {x:α} (hx:idx l i=some x) (h:Mf G ops k σ=some (.sl (l.map c),.lit (.int .i64 i),(c x).length)):fK G ops k σ=some (.val (.vptr (c x) 0)):=US h hx rfl
def iV (G:Prg) (ops:Array Oper) (k:Nat) (σ:St) (i:Nat):PV:=match Mf G ops k σ with
 | some (.row kk e,_)=>.rptr kk e i 0
 | _=>.undef
def iC (G:Prg) (ops:Array Oper) (k:Nat) (σ:St):Option (List (List PV)×PV×Nat):=match Mf G ops k σ with
 | some (.row kk _,q)=>(σ.h.rowAt kk).map fun es=>(es,q)
 | _=>none
theorem EX {l:List α} {i:Int} {x:α} (hx:idx l i=some x) (h:iC G ops k σ=some (l.map c,.lit (.int .i64 i),(c x).length)):fK G ops k σ=some (.val (iV G ops k σ i.toNat)):=by
 unfold iC at h
 split at h
 case h_2=>cases h
 rename_i kk e q hq
 cases hr:σ.h.rowAt kk with
 | none=>rw [hr] at h;cases h
 | some es =>
   rw [hr] at h
   simp only [Option.map_some,Option.some.injEq,Prod.mk.injEq] at h
   obtain ⟨rfl,h2⟩:=h
   have e1:iV G ops k σ i.toNat=.rptr kk e i.toNat 0:=by unfold iV;rw [hq]
   rw [e1]
   exact HC (by rw [hq,h2]) hr hx rfl
def rC (G:Prg) (ops:Array Oper) (k:Nat) (σ:St):Option (List (List PV)×Nat×List (Nat×Nat)):=match DV G ops k σ with
 | some (_,_,.rptr kk _ i _)=>(σ.h.rowAt kk).map fun es=>(es,i,σ.h.Gp kk)
 | _=>none
def rV (G:Prg) (ops:Array Oper) (k:Nat) (σ:St) (cs:List PV):Option PV:=match DV G ops k σ with
 | some (agg,sz,.rptr kk _ i off)=>Hq agg sz [] (.vptr (owned kk.tag i [] cs) off)
 | _=>none
def rW (G:Prg) (ops:Array Oper) (k:Nat) (σ:St) (cs:List PV):PV:=(rV G ops k σ cs).getD .undef
theorem SY {l:List α} {i:Int} {x:α} (hx:idx l i=some x) (h:rC G ops k σ=some (l.map c,i.toNat,[])) (hv:(rV G ops k σ (c x)).isSome=true):fK G ops k σ=some (.val (rW G ops k σ (c x))):=by
 unfold rC at h
 split at h
 case h_2=>cases h
 rename_i agg sz kk e i' off hq
 cases hr:σ.h.rowAt kk with
 | none=>rw [hr] at h;cases h
 | some es =>
   rw [hr] at h
   simp only [Option.map_some,Option.some.injEq,Prod.mk.injEq] at h
   obtain ⟨rfl,rfl,hJ⟩:=h
   have e1:rV G ops k σ (c x)=Hq agg sz [] (.vptr (owned kk.tag i.toNat [] (c x)) off):=by unfold rV;rw [hq]
   unfold rW
   rw [e1] at hv ⊢
   obtain ⟨v,hv⟩:=Option.isSome_iff_exists.1 hv
   rw [hv]
   exact Pr hq hr hJ (Ka hx).2 hv
def wG (G:Prg) (ops:Array Oper) (k:Nat) (σ:St):Nat×Nat:=match OX G ops k σ with
 | some (_,_,.rptr (.top g) e _ _,_)=>(g,e)
 | _=>(0,0)
def wC (G:Prg) (ops:Array Oper) (k:Nat) (σ:St) (cs:List PV):Option (HO×Nat×Bool×List PV):=match OX G ops k σ with
 | some (agg,sz,.rptr (.top g) _ i off,v)=>(σ.h.get g).map fun o=>(o,i,FE agg sz off cs.length [] v,setAt cs off v.cells)
 | _=>none
theorem OE {l:List α} {i:Int} {x x':α} (hx:idx l i=some x) (h:wC G ops k σ (c x)=some (.row (wG G ops k σ).2 [] (l.map c),i.toNat,true,c x')):fK G ops k σ=some ⟨[],[((wG G ops k σ).1,.row (wG G ops k σ).2 [] ((l.set i.toNat x').map c))],.lit undef⟩:=by
 unfold wC at h
 split at h
 case h_2=>cases h
 rename_i agg sz g e i' off v hq
 cases hr:σ.h.get g with
 | none=>rw [hr] at h;cases h
 | some o =>
   rw [hr] at h
   have ew:wG G ops k σ=(g,e):=by unfold wG;rw [hq]
   rw [ew] at h ⊢
   simp only [Option.map_some,Option.some.injEq,Prod.mk.injEq] at h ⊢
   obtain ⟨rfl,rfl,h1,h2⟩:=h
   refine PE (kk:=.top g) (J:=[]) hq (by simp only [HP.rowAt,hr]) (by simp only [HP.Gp,hr]) (Ka hx).2 h1 h2 ?_
   simp only [HP.Fv,hr]
def aG (G:Prg) (ops:Array Oper) (k:Nat) (σ:St):Nat×Nat:=match Sq G ops k σ with
 | some (.row (.top g) e,_)=>(g,e)
 | _=>(0,0)
def aC (G:Prg) (ops:Array Oper) (k:Nat) (σ:St):Option (HO×Option (List (List PV))×Bool×Nat×Nat):=match Sq G ops k σ with
 | some (.row (.top g) e,x,e',sz,_)=>(σ.h.get g).map fun o=>(o,x.elems σ.h,x.flat σ.h&&Nat.blt g PIN,sz,if Nat.beq e e' then 0 else 1)
 | _=>none
theorem SW {l l2 l':List α} (sz:Nat) (hl:app l l2=some l') (hs:∀ y,(c y).length=sz) (h:aC G ops k σ=some (.row (aG G ops k σ).2 [] (l.map c),some (l2.map c),true,sz,0)):fK G ops k σ=some ⟨[gF (aG G ops k σ).1],[((aG G ops k σ).1,.row (aG G ops k σ).2 [] (l'.map c))],.row (.top (aG G ops k σ).1) (aG G ops k σ).2⟩:=by
 unfold aC at h
 split at h
 case h_2=>cases h
 rename_i g e x e' sz' d hq
 cases hr:σ.h.get g with
 | none=>rw [hr] at h;cases h
 | some o =>
   rw [hr] at h
   have ew:aG G ops k σ=(g,e):=by unfold aG;rw [hq]
   rw [ew] at h ⊢
   simp only [Option.map_some,Option.some.injEq,Prod.mk.injEq,Bool.and_eq_true] at h ⊢
   obtain ⟨rfl,h1,⟨h2,h3⟩,rfl,h4⟩:=h
   have he:e=e':=by
    split at h4
    ·rename_i hb;exact Nat.eq_of_beq_eq_true hb
    ·cases h4
   subst he
   exact OY hq hr h1 h2 hs h3 hl
end
section
variable {G:Prg} {ops:Array Oper} {k:Nat} {σ:St} {K:St→Prop} {α:Type}
theorem qL (c:α→List PV) (l:List α) (next:EVS G ops (k+1) ((Res.val (.lit (.int .i64 l.length))).put σ (iM ops k)) K) (h:((Oi G ops k σ).bind fun x=>x.elems σ.h)=some (l.map c):=by kernel_rfl):EVS G ops k σ K:=kF (SZ h) next
theorem qX (c:α→List PV) {l:List α} {i:Int} {x:α} (hx:idx l i=some x) (next:EVS G ops (k+1) ((Res.val (.vptr (c x) 0)).put σ (iM ops k)) K) (h:Mf G ops k σ=some (.sl (l.map c),.lit (.int .i64 i),(c x).length):=by kernel_rfl):EVS G ops k σ K:=kF (SX hx h) next
theorem qI (c:α→List PV) {l:List α} {i:Int} {x:α} (hx:idx l i=some x) (next:EVS G ops (k+1) ((Res.val (iV G ops k σ i.toNat)).put σ (iM ops k)) K) (h:iC G ops k σ=some (l.map c,.lit (.int .i64 i),(c x).length):=by kernel_rfl):EVS G ops k σ K:=kF (EX hx h) next
theorem qR (c:α→List PV) {l:List α} {i:Int} {x:α} (hx:idx l i=some x) (next:EVS G ops (k+1) ((Res.val (rW G ops k σ (c x))).put σ (iM ops k)) K) (h:rC G ops k σ=some (l.map c,i.toNat,[]):=by kernel_rfl) (hv:(rV G ops k σ (c x)).isSome=true:=by kernel_rfl):EVS G ops k σ K:=kF (SY hx h hv) next
theorem qS (c:α→List PV) (x':α) {l:List α} {i:Int} {x:α} (hx:idx l i=some x) (next:EVS G ops (k+1) (Res.put σ (iM ops k) ⟨[],[((wG G ops k σ).1,.row (wG G ops k σ).2 [] ((l.set i.toNat x').map c))],.lit undef⟩) K) (h:wC G ops k σ (c x)=some (.row (wG G ops k σ).2 [] (l.map c),i.toNat,true,c x'):=by kernel_rfl):EVS G ops k σ K:=kF (OE hx h) next
theorem qA (c:α→List PV) (sz:Nat) {l l2 l':List α} (hl:app l l2=some l') (next:EVS G ops (k+1) (Res.put σ (iM ops k) ⟨[gF (aG G ops k σ).1],[((aG G ops k σ).1,.row (aG G ops k σ).2 [] (l'.map c))],.row (.top (aG G ops k σ).1) (aG G ops k σ).2⟩) K) (hs:∀ y,(c y).length=sz:=by exact fun _=>rfl) (h:aC G ops k σ=some (.row (aG G ops k σ).2 [] (l.map c),some (l2.map c),true,sz,0):=by kernel_rfl):EVS G ops k σ K:=kF (SW sz hl hs h) next
theorem oI (c:α→List PV) {l:List α} {i:Int} {x:α} (hx:idx l i=some x) (next:EVO G ops (k+1) ((Res.val (iV G ops k σ i.toNat)).put σ (iM ops k)) K) (h:iC G ops k σ=some (l.map c,.lit (.int .i64 i),(c x).length):=by kernel_rfl):EVO G ops k σ K:=Vf (EX hx h) next
theorem oS (c:α→List PV) (x':α) {l:List α} {i:Int} {x:α} (hx:idx l i=some x) (next:EVO G ops (k+1) (Res.put σ (iM ops k) ⟨[],[((wG G ops k σ).1,.row (wG G ops k σ).2 [] ((l.set i.toNat x').map c))],.lit undef⟩) K) (h:wC G ops k σ (c x)=some (.row (wG G ops k σ).2 [] (l.map c),i.toNat,true,c x'):=by kernel_rfl):EVO G ops k σ K:=Vf (OE hx h) next
theorem oA (c:α→List PV) (sz:Nat) {l l2 l':List α} (hl:app l l2=some l') (next:EVO G ops (k+1) (Res.put σ (iM ops k) ⟨[gF (aG G ops k σ).1],[((aG G ops k σ).1,.row (aG G ops k σ).2 [] (l'.map c))],.row (.top (aG G ops k σ).1) (aG G ops k σ).2⟩) K) (hs:∀ y,(c y).length=sz:=by exact fun _=>rfl) (h:aC G ops k σ=some (.row (aG G ops k σ).2 [] (l.map c),some (l2.map c),true,sz,0):=by kernel_rfl):EVO G ops k σ K:=Vf (SW sz hl hs h) next
theorem oN (n:Nat) (next:EVO G ops (k+n) (Tp G ops k n σ) K) (h:(runK G ops k n σ).isSome=true:=by kernel_rfl):EVO G ops k σ K:=QQ n h next
variable {D:DD} {m:Nat}
theorem dN (n:Nat) (next:EVD G ops D m (k+n) (OD G ops D m k n σ) K) (h:(Yl G ops D m k n σ).isSome=true:=by kernel_rfl):EVD G ops D m k σ K:=QO n h next
theorem dE (hk:K σ) (h:Nat.ble m k=true:=by kernel_rfl):EVD G ops D m k σ K:=QN h hk
theorem dL (c:α→List PV) (l:List α) (next:EVD G ops D m (k+1) (rE σ (iM ops k) (.lit (.int .i64 l.length))) K) (h:((Oi G ops k σ).bind fun x=>x.elems σ.h)=some (l.map c):=by kernel_rfl) (hq:(Nat.ble m k,avB ops k (D.av k) σ)=(false,true):=by kernel_rfl):EVD G ops D m k σ K:=by
 injection hq with h1 h2
 exact yR h1 (SZ h) h2 (List.all_eq_true.2 fun _ _=>rfl) next
theorem dX (c:α→List PV) {l:List α} {i:Int} {x:α} (hx:idx l i=some x) (next:EVD G ops D m (k+1) (rE σ (iM ops k) (.vptr (c x) 0)) K) (h:Mf G ops k σ=some (.sl (l.map c),.lit (.int .i64 i),(c x).length):=by kernel_rfl) (hq:(Nat.ble m k,avB ops k (D.av k) σ,fL (D.fv k) (.vptr (c x) 0))=(false,true,true):=by kernel_rfl):EVD G ops D m k σ K:=by
 injection hq with h1 h2
 injection h2 with h2 h3
 exact yR h1 (SX hx h) h2 h3 next
theorem dI (c:α→List PV) {l:List α} {i:Int} {x:α} (hx:idx l i=some x) (next:EVD G ops D m (k+1) (rE σ (iM ops k) (iV G ops k σ i.toNat)) K) (h:iC G ops k σ=some (l.map c,.lit (.int .i64 i),(c x).length):=by kernel_rfl) (hq:(Nat.ble m k,avB ops k (D.av k) σ,fL (D.fv k) (iV G ops k σ i.toNat))=(false,true,true):=by kernel_rfl):EVD G ops D m k σ K:=by
 injection hq with h1 h2
 injection h2 with h2 h3
 exact yR h1 (EX hx h) h2 h3 next
theorem dR (c:α→List PV) {l:List α} {i:Int} {x:α} (hx:idx l i=some x) (next:EVD G ops D m (k+1) (rE σ (iM ops k) (rW G ops k σ (c x))) K) (h:rC G ops k σ=some (l.map c,i.toNat,[]):=by kernel_rfl) (hq:((rV G ops k σ (c x)).isSome,Nat.ble m k,avB ops k (D.av k) σ,fL (D.fv k) (rW G ops k σ (c x)))=(true,false,true,true):=by kernel_rfl):EVD G ops D m k σ K:=by
 injection hq with h0 hq
 injection hq with h1 h2
 injection h2 with h2 h3
 exact yR h1 (SY hx h h0) h2 h3 next
theorem dS (c:α→List PV) (x':α) {l:List α} {i:Int} {x:α} (hx:idx l i=some x) (next:EVD G ops D m (k+1) (rE ⟨σ.s,((wG G ops k σ).1,.row (wG G ops k σ).2 [] ((l.set i.toNat x').map c))::σ.h⟩ (iM ops k) (.lit undef)) K) (h:wC G ops k σ (c x)=some (.row (wG G ops k σ).2 [] (l.map c),i.toNat,true,c x'):=by kernel_rfl)
  (hq:(Nat.ble m k,inL [(wG G ops k σ).1] (D.T k),avB ops k (D.av k) σ,(D.fv k).any fun y=>Nat.beq y (wG G ops k σ).1)=(false,true,true,false):=by kernel_rfl):EVD G ops D m k σ K:=by
 injection hq with h1 h2
 injection h2 with h2 h3
 injection h3 with h3 h4
 refine Eh h1 (OE hx h) h2 h3 ?_ next
 rw [h4]
 have:fL (D.fv k) (.lit undef)=true:=List.all_eq_true.2 fun _ _=>rfl
 rw [this];rfl
end
section
variable {G:Prg} {cd:Code} {σ:St}
theorem qc {α:Type} {K:PX→St→Prop} {b:Bool} {x y:Option α} {r:α} (h:(if b then x else y)=some r) (h1:x=some r→SEM G (cL cd) σ K) (h2:y=some r→SEM G (cR cd) σ K) (hk:knd cd=4:=by kernel_rfl) (hb:pev σ (LC cd)=.lit (.bool b):=by kernel_rfl):SEM G cd σ K:=
 Wr b hk hb (fun e=>h1 (kK e h)) fun e=>h2 (kJ e h)
def RR (D:List Nat) (v:Bool) (σ:St):St:=⟨(D.map fun d=>(d,vB v))++σ.s,σ.h⟩
theorem CN {σ:St} {v:Bool}:∀ (D:List Nat) (i:Nat),(∀ d ∈ D,σ.get d=vB v)→SL.get ((D.map fun d=>(d,vB v))++σ.s) i=σ.get i
 | [],i,_=>rfl
 | d::D,i,h=>by
   simp only [List.map_cons,List.cons_append,SL.get]
   split
   ·rename_i e;subst e;exact (h _ List.mem_cons_self).symm
   ·exact CN D i fun x hx=>h x (List.mem_cons_of_mem _ hx)
theorem OL {b:Bool} {ks gs D:List Nat} (hc:(D.map fun d=>(sel ks gs σ).get d)=D.map fun _=>vB b):Sub (RR D b (sel ks gs σ)) σ:=by
 have hD:∀ d ∈ D,(sel ks gs σ).get d=vB b:=fun d hd=>by
  have:=List.map_inj_left.1 hc d hd;exact this
 refine ⟨fun i=>?_,fun g o hg=>Rg gs g o hg⟩
 have e1:(RR D b (sel ks gs σ)).get i=(sel ks gs σ).get i:=CN D i hD
 rw [e1]
 exact AA ks i
theorem qB {α:Type} {ops:Array Oper} {k:Nat} {K:St→Prop} {b:Bool} {x y:Option α} {r:α} (h:(if b then x else y)=some r) (ks gs D:List Nat) (h1:x=some r→EVS G ops k (RR D true (sel ks gs σ)) K) (h2:y=some r→EVS G ops k (RR D false (sel ks gs σ)) K) (hc:(D.map fun d=>(sel ks gs σ).get d)=D.map (fun _=>vB b):=by kernel_rfl):EVS G ops k σ K:=by
 refine FV (OL hc) ?_
 cases b
 ·exact h2 (kJ rfl h)
 ·exact h1 (kK rfl h)
theorem sp {P:Program} {X σe:St} (l:List Yv) (R:TL) (hq:((X.CG P l).isSome,R.okB,GU R)=(true,true,true):=by kernel_rfl) (h:atS σe ((X.Wo P l).ren R)=asS σe:=by kernel_rfl):iE P σe X:=by
 injection hq with h1 h2
 injection h2 with h2 h3
 exact Yr l R h1 h2 h3 h
theorem ql {K:PX→St→Prop} {S R:Type} {body:S→Option (S ⊕ R)} {s:S} {r:R} (h:aL body s=some r) (emb:S→St) (out:R→PX×St) (h0:iE G.P (emb s) σ) (hbody:∀ s t,body s=some t→SEM G (cL cd) (emb s) (LKR G.P emb out t)) (hK:∀ τ,iE G.P (out r).2 τ→K (out r).1 τ) (hk:knd cd=6:=by kernel_rfl) (hout:∀ r,isN (out r).1=false:=by intro x;rfl):SEM G cd σ K:=
 JY emb out body s r hk h0 h hbody hout hK
theorem qH {P:Program} {X σe:St} (h:atS σe X=asS σe:=by kernel_rfl):iE P σe X:=here h
theorem qC {ops:Array Oper} {k:Nat} {Q:St→Prop} (R N:TL) {f:Nat} {qs:List PV} {H0:HP} {r:PV} {H1:HP} (pc:PC G.P f qs H0 r H1) (next:EVS G ops (k+1) (rE (after (R++N) ((R.filter fun x=>Nat.ble PIN x.1).map (·.2)) σ H1) (iM ops k) (r.ren (R++N))) Q)
 (hc:Jq ops k σ R []=some (f,qs):=by kernel_rfl) (ht:Ln R N []=true:=by kernel_rfl) (hH:handed R (σ.h.only []) σ.h R=H0:=by kernel_rfl):EVS G ops k σ Q:=sY R N [] hc pc ht hH (.inl rfl) next
theorem qP {ops:Array Oper} {k:Nat} {Q:St→Prop} {f:Nat} {qs:List PV} {r:PV} (pc:PC G.P f qs [] r []) (next:EVS G ops (k+1) (rE σ (iM ops k) r) Q) (hc:Jq ops k σ [] []=some (f,qs):=by kernel_rfl) (hr:r.ren []=r:=by kernel_rfl):EVS G ops k σ Q:=Yb [] hc pc rfl (.inl rfl) hr next
theorem qV {ops:Array Oper} {k:Nat} {Q:St→Prop} (vis:List Nat) {f:Nat} {qs:List PV} {r:PV} (pc:PC G.P f qs [] r []) (next:EVS G ops (k+1) (rE σ (iM ops k) r) Q) (hc:Jq ops k σ [] vis=some (f,qs):=by kernel_rfl) (ht:(Ln [] [] vis,r.ind)=(true,true):=by kernel_rfl) (hr:r.ren []=r:=by kernel_rfl):EVS G ops k σ Q:=by
 injection ht with h1 h2
 exact Yb vis hc pc h1 (.inr h2) hr next
theorem oP {ops:Array Oper} {k:Nat} {Q:St→Prop} {f:Nat} {qs:List PV} {r:PV} (pc:PC G.P f qs [] r []) (next:EVO G ops (k+1) (rE σ (iM ops k) r) Q) (hc:Jq ops k σ [] []=some (f,qs):=by kernel_rfl) (hr:r.ren []=r:=by kernel_rfl):EVO G ops k σ Q:=Ya [] hc pc rfl (.inl rfl) hr next
theorem oV {ops:Array Oper} {k:Nat} {Q:St→Prop} (vis:List Nat) {f:Nat} {qs:List PV} {r:PV} (pc:PC G.P f qs [] r []) (next:EVO G ops (k+1) (rE σ (iM ops k) r) Q) (hc:Jq ops k σ [] vis=some (f,qs):=by kernel_rfl) (ht:(Ln [] [] vis,r.ind)=(true,true):=by kernel_rfl) (hr:r.ren []=r:=by kernel_rfl):EVO G ops k σ Q:=by
 injection ht with h1 h2
 exact Ya vis hc pc h1 (.inr h2) hr next
theorem dC {D:DD} {m:Nat} {ops:Array Oper} {k:Nat} {Q:St→Prop} (N:TL) {f:Nat} {qs:List PV} {r:PV} {H1:HP} (pc:PC G.P f qs [] r H1) (next:EVD G ops D m (k+1) (rE ⟨σ.s,H1.ren N++σ.h⟩ (iM ops k) (r.ren N)) Q)
  (hc:Jq ops k σ [] []=some (f,qs):=by kernel_rfl) (hq:(Nat.ble m k,Qf N [] (D.F k) (D.rd k),avB ops k (D.av k) σ,(inL ((H1.ren N).map (·.1)) (D.T k)&&fL (D.fv k) (r.ren N)&&(H1.ren N).all fun x=>!((D.fv k).any fun y=>Nat.beq y x.1)&&x.2.Fy (D.fv k)))=(false,true,true,true):=by kernel_rfl):EVD G ops D m k σ Q:=by
 injection hq with h1 h2
 injection h2 with h2 h3
 injection h3 with h3 h4
 exact nG N [] h1 hc pc h2 (.inl rfl) h3 h4 next
theorem qM {K:PX→St→Prop} (m:Nat) (h:EVD G (xE cd) ⟨lst [],lst [],lst [],lst [],lst []⟩ m 0 σ fun σ'=>EVO G (xE cd) m σ' (K .normal)) (hq:(knd cd,Ly (xE cd) [] [] [] [] [] m)=(2,true):=by kernel_rfl):SEM G cd σ K:=by
 injection hq with h1 h2
 exact Yp [] [] [] [] [] m h1 h2 rfl h
theorem qN {K:PX→St→Prop} (T F rd av fv:List (Nat×List Nat)) (m:Nat) (h:EVD G (xE cd) ⟨lst T,lst F,lst rd,lst av,lst fv⟩ m 0 σ fun σ'=>EVO G (xE cd) m σ' (K .normal)) (hq:(knd cd,Ly (xE cd) T F rd av fv m,F.all fun x=>inL x.2 [])=(2,true,true):=by kernel_rfl):SEM G cd σ K:=by
 injection hq with h1 h2
 injection h2 with h2 h3
 exact Yp T F rd av fv m h1 h2 h3 h
theorem qW {X τ:St} {l:List ResultVar} {r:PV} {H1:HP} (hτ:iE G.P X τ) (s:SL) (hs:iE G.P ⟨s,H1⟩ X) (h:EM G.P ⟨s,H1⟩ l=some r:=by kernel_rfl):RK G.P l r H1 .ret τ:=Zz hτ s hs h
end
end Go.VI
