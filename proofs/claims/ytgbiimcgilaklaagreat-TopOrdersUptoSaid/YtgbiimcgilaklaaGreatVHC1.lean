/- The evaluator, part 1. -/
import Derived.WalkKit
import Derived.Orders
import Derived.Deep.AppendLies
import Derived.Maps.AppendAt
import Derived.Laws.MakeOwn
set_option linter.unusedVariables false
set_option linter.unusedSimpArgs false
set_option linter.unusedSectionVars false
open Array renaming getD_eq_getD_getElem?→o7,getElem?_setIfInBounds→J7,getElem?_toList→w9,length_toList→K6,toList_modify→T0,toList_push→U1
open Bool renaming and_eq_true→o8,false_eq_true→j9,or_eq_false_iff→I7,or_eq_true→F6
open Classical renaming choose_spec→K1
open Iff renaming rfl→Q9
open Int renaming toNat_natCast→y9
open Go.IntKind renaming wrap→o6
open List renaming all_eq_true→p7,append_assoc→K4,eq_nil_of_length_eq_zero→H6,exists_mem_of_ne_nil→N2,ext_getElem?→G0,foldl_cons→y8,foldl_nil→G2,getD_eq_getElem?_getD→m8,getElem?_append_left→x6,getElem?_append_right→x8,getElem?_cons_succ→J6,getElem?_drop→E8,getElem?_eq_getElem→l8,getElem?_eq_none→s5,getElem?_map→p8,getElem?_modify→M4,getElem?_set_ne→K2,getElem?_take→D9,getElem_mem→F9,length_append→E5,length_drop→K5,length_nil→L5,length_replicate→L8,length_set→v8,length_take→x7,map_cons→E1,mem_append→q9,mem_iff_getElem?→u6,mem_map→E3,mem_of_getElem?→m5,mem_of_mem_drop→M6,mem_of_mem_take→G4,mem_singleton→J4,range→s9,replicate→q8
open Nat renaming add_comm→P2,add_mul→I5,add_mul_mod_self_right→Q8,beq→E4,eq_of_beq_eq_true→t7,eq_zero_or_pos→P5,le_refl→v7,le_trans→J1,lt_of_lt_of_le→D8,lt_or_ge→G3,mod_eq_of_lt→V2,mul_le_mul_right→u7,succ_mul→N1,zero_add→I2,zero_le→M0
open Option renaming bind_some→i9,getD_none→P0,getD_some→H2,isSome_iff_exists→u9,map_eq_map→T3,map_eq_some_iff→s6,map_none→N4,map_some→s8
open Option.some renaming inj→w7,injEq→n9
open Go.Result renaming andThen_ok→m6
open Go.Sem renaming run→L3,run_bind→o5,run_pure→o9
namespace Go.VI
def LIM:Nat:=1073741824
def idx {α:Type} (l:List α) (i:Int):Option α:=if 0≤i then l[i.toNat]? else none
def app {α:Type} (l xs:List α):Option (List α):=if l.length+xs.length≤LIM then some (l++xs) else none
def slc {α:Type} (l:List α) (lo hi:Int):Option (List α):=if 0≤lo∧lo≤hi∧hi≤l.length then some ((l.take hi.toNat).drop lo.toNat) else none
def mk {α:Type} (n:Int) (z:α):Option (List α):=if 0≤n∧n≤LIM then some (q8 n.toNat z) else none
def aQ (a b:Int):Int:=o6 .i64 (a+b)
def aK (a b:Int):Int:=o6 .i64 (a-b)
def gZ (a b:Int):Int:=o6 .i64 (a*b)
def xU (a:Int):Int:=o6 .i64 (0-a)
def uI (a b:Int):Int:=o6 .i64 (a.tdiv b)
def Rh (m:List (Int×Int)) (k:Int):Option Int:=match m with
 | []=>none
 | (a,b)::m=>if k==a then some b else Rh m k
def Zd (m:List (Int×Int)) (k v:Int):List (Int×Int):=match m with
 | []=>[(k,v)]
 | (a,b)::m=>if k==a then (k,v)::m else (a,b)::Zd m k v
theorem ZT {α β:Type} {o:Option α} {k:α→Option β} {r:β} (h:o.bind k=some r):∃ x,o=some x∧k x=some r:=Option.bind_eq_some_iff.1 h
theorem bS {α β:Type} {o:Option α} {k:α→Option β} {r:β} {Q:Prop} (h:o.bind k=some r) (f:∀ x,o=some x→k x=some r→Q):Q:=by obtain ⟨x,a,b⟩:=ZT h;exact f x a b
theorem iW {α:Type} {b:Bool} {x y:Option α} {r:α} (hb:b=true) (h:(if b then x else y)=some r):x=some r:=by rw [if_pos hb] at h;exact h
theorem iU {α:Type} {b:Bool} {x y:Option α} {r:α} (hb:b=false) (h:(if b then x else y)=some r):y=some r:=by rw [if_neg (by simp [hb])] at h;exact h
theorem Mp {α:Type} {l:List α} {i:Int} {x:α} (h:idx l i=some x):0≤i∧l[i.toNat]?=some x:=by
 unfold idx at h;split at h
 ·exact ⟨by assumption,h⟩
 ·cases h
theorem OU {α:Type} {l xs l':List α} (h:app l xs=some l'):l.length+xs.length≤LIM∧l'=l++xs:=by
 unfold app at h;split at h
 ·injection h with h;exact ⟨by assumption,h.symm⟩
 ·cases h
theorem ZJ {α:Type} {l l':List α} {lo hi:Int} (h:slc l lo hi=some l'):(0≤lo∧lo≤hi∧hi≤l.length)∧l'=(l.take hi.toNat).drop lo.toNat:=by
 unfold slc at h;split at h
 ·injection h with h;exact ⟨by assumption,h.symm⟩
 ·cases h
def Kb {S R:Type} (body:S→Option (S ⊕ R)):Nat→S→Option R
 | 0,_=>none
 | n+1,s=>match body s with
   | some (.inl s')=>Kb body n s'
   | some (.inr r)=>some r
   | none=>none
theorem Gp {S R:Type} {body:S→Option (S ⊕ R)}:∀ {n m:Nat} {s:S} {r:R},n≤m→Kb body n s=some r→Kb body m s=some r
 | 0,_,_,_,_,h=>by cases h
 | n+1,0,_,_,h,_=>by omega
 | n+1,m+1,s,r,h,hi=>by
   simp only [Kb] at hi ⊢
   cases hb:body s with
   | none=>rw [hb] at hi;cases hi
   | some t =>
     rw [hb] at hi
     cases t with
     | inl s'=>exact Gp (Nat.le_of_succ_le_succ h) hi
     | inr r'=>exact hi
noncomputable def aM {S R:Type} (body:S→Option (S ⊕ R)) (s:S):Option R:=
 match Kb body 1000 s with
 | some r=>some r
 | none=>open Classical in if h:∃ r n,Kb body n s=some r then some (Classical.choose h) else none
theorem Nu {S R:Type} {body:S→Option (S ⊕ R)} {s:S} {r:R}:aM body s=some r↔∃ n,Kb body n s=some r:=by
 unfold aM
 cases h0:Kb body 1000 s with
 | some r0 =>
   constructor
   ·intro h;injection h with h;exact ⟨1000,by rw [h0,h]⟩
   ·rintro ⟨n,h⟩
    rcases Nat.le_total n 1000 with q | q
    ·rw [Gp q h] at h0;exact h0.symm
    ·rw [Gp q h0] at h;exact h
 | none =>
 constructor
 ·intro h
  simp only at h
  split at h
  ·rename_i hh
   injection h with h
   rw [← h]
   exact K1 hh
  ·cases h
 ·rintro ⟨n,h⟩
  have hh:∃ r n,Kb body n s=some r:=⟨r,n,h⟩
  simp only
  rw [dif_pos hh]
  obtain ⟨m,hm⟩:=K1 hh
  rcases Nat.le_total n m with q | q
  ·rw [Gp q h] at hm;exact hm.symm
  ·rw [Gp q hm] at h;exact h
theorem EV {S R:Type} (body:S→Option (S ⊕ R)) (s:S):aM body s=match body s with
  | some (.inl s')=>aM body s'
  | some (.inr r)=>some r
  | none=>none:=by
 have key:∀ r,aM body s=some r↔(match body s with
  | some (.inl s')=>aM body s'
  | some (.inr r)=>some r
  | none=>none)=some r:=by
  intro r
  rw [Nu]
  constructor
  ·rintro ⟨n,h⟩
   cases n with
   | zero=>cases h
   | succ n =>
     simp only [Kb] at h
     split at h
     ·exact Nu.2 ⟨n,h⟩
     ·exact h
     ·cases h
  ·intro h
   split at h
   ·rename_i s' hb
    obtain ⟨n,hn⟩:=Nu.1 h
    exact ⟨n+1,by simp only [Kb,hb];exact hn⟩
   ·rename_i r' hb
    exact ⟨1,by simp only [Kb,hb];exact h⟩
   ·cases h
 cases h1:aM body s with
 | some r=>exact ((key r).1 h1).symm
 | none =>
   generalize hX:(match body s with
   | some (.inl s')=>aM body s'
   | some (.inr r)=>some r
   | none=>none)=X
   cases X with
   | none=>rfl
   | some r =>
     have h2:=(key r).2 hX
     rw [h1] at h2;cases h2
end Go.VI
namespace Go.VI
inductive Key where
 | top (g:Nat)
 | sub (g i j:Nat)
 deriving Inhabited,DecidableEq
def Key.tag:Key→Nat
 | .top g=>g
 | .sub g _ _=>g
def Key.QW:Key→Bool
 | .top _=>true
 | .sub _ _ _=>false
inductive PV where
 | undef
 | lit (v:Value)
 | nl
 | sl (es:List (List PV))
 | fmap (m:List (Int×Int))
 | agg (cs:List PV)
 | tup (vs:List PV)
 | vptr (cs:List PV) (off:Nat)
 | fn (f:Nat) (caps:List PV)
 | row (k:Key) (e:Nat)
 | part (k:Key) (e lo n:Nat)
 | ptr (g off:Nat)
 | rptr (k:Key) (e i off:Nat)
 | mp (g:Nat)
 deriving Inhabited
inductive HO where
 | box (cs:List PV)
 | row (e:Nat) (J:List (Nat×Nat)) (es:List (List PV))
 | map (m:List (Int×Int))
 | it (left:List (Int×Int)) (cur:Option (Int×Int))
 | tl (e:Nat) (l:List Int)
 deriving Inhabited
mutual
def PV.has (p:Key→Bool):PV→Bool
 | .row k _=>p k
 | .part k _ _ _=>p k
 | .rptr k _ _ _=>p k
 | .ptr g _=>p (.top g)
 | .mp g=>p (.top g)
 | .agg cs=>PV.Ca p cs
 | .tup cs=>PV.Ca p cs
 | .fn _ cs=>PV.Ca p cs
 | _=>false
def PV.Ca (p:Key→Bool):List PV→Bool
 | []=>false
 | c::cs=>PV.has p c || PV.Ca p cs
end
mutual
def PV.free:PV→Bool
 | .undef=>true
 | .lit _=>true
 | .nl=>true
 | .sl _=>true
 | .fmap _=>true
 | .vptr _ _=>true
 | .agg cs=>PV.Ot cs
 | .fn _ cs=>PV.Ot cs
 | .tup cs=>PV.Ot cs
 | _=>false
def PV.Ot:List PV→Bool
 | []=>true
 | c::cs=>PV.free c&&PV.Ot cs
end
mutual
def PV.kill (p:Key→Bool):PV→PV
 | .row k e=>if p k=true then .undef else .row k e
 | .part k e lo n=>if p k=true then .undef else .part k e lo n
 | .rptr k e i o=>if p k=true then .undef else .rptr k e i o
 | .ptr g o=>if p (.top g)=true then .undef else .ptr g o
 | .mp g=>if p (.top g)=true then .undef else .mp g
 | .agg cs=>.agg (PV.uC p cs)
 | .tup cs=>.tup (PV.uC p cs)
 | .fn f cs=>.fn f (PV.uC p cs)
 | .undef=>.undef
 | .lit v=>.lit v
 | .nl=>.nl
 | .sl es=>.sl es
 | .fmap m=>.fmap m
 | .vptr cs o=>.vptr cs o
def PV.uC (p:Key→Bool):List PV→List PV
 | []=>[]
 | c::cs=>PV.kill p c::PV.uC p cs
end
def PV.XC:PV→PV
 | .sl es=>.sl es
 | _=>.undef
def PV.ZS:PV→PV
 | .fmap m=>.fmap m
 | _=>.undef
mutual
def PV.frz (g:Nat) (u:PV):PV→PV
 | .row k e=>match k with
   | .top g'=>if E4 g' g=true then u.XC else .row k e
   | .sub g' _ _=>if E4 g' g=true then .undef else .row k e
 | .part k e lo n=>if E4 k.tag g=true then .undef else .part k e lo n
 | .rptr k e i o=>if E4 k.tag g=true then .undef else .rptr k e i o
 | .ptr g' o=>if E4 g' g=true then .undef else .ptr g' o
 | .mp g'=>if E4 g' g=true then u.ZS else .mp g'
 | .agg cs=>.agg (PV.Qz g u cs)
 | .tup cs=>.tup (PV.Qz g u cs)
 | .fn f cs=>.fn f (PV.Qz g u cs)
 | .undef=>.undef
 | .lit v=>.lit v
 | .nl=>.nl
 | .sl es=>.sl es
 | .fmap m=>.fmap m
 | .vptr cs o=>.vptr cs o
def PV.Qz (g:Nat) (u:PV):List PV→List PV
 | []=>[]
 | c::cs=>PV.frz g u c::PV.Qz g u cs
end
def dU (g:Nat) (k:Key):Bool:=E4 k.tag g
def UB (g:Nat):Key→Bool
 | .top _=>false
 | .sub g' _ _=>E4 g' g
def setAt:List PV→Nat→List PV→List PV
 | cs,_,[]=>cs
 | cs,off,v::vs=>setAt (cs.set off v) (off+1) vs
def setRow (es:List (List PV)) (i off:Nat) (vs:List PV):List (List PV):=es.modify i (setAt · off vs)
abbrev HP:=List (Nat×HO)
def HP.get:HP→Nat→Option HO
 | [],_=>none
 | (i,o)::h,g=>if E4 g i=true then some o else HP.get h g
def HO.kill (p:Key→Bool):HO→HO
 | .box cs=>.box (PV.uC p cs)
 | .row e J es=>.row e J es
 | .map m=>.map m
 | .it l u=>.it l u
 | .tl e l=>.tl e l
def HP.kill (p:Key→Bool):HP→HP
 | []=>[]
 | (g,o)::h=>if p (.top g)=true then HP.kill p h else (g,o.kill p)::HP.kill p h
def HO.frz (g:Nat) (u:PV):HO→HO
 | .box cs=>.box (PV.Qz g u cs)
 | .row e J es=>.row e J es
 | .map m=>.map m
 | .it l u=>.it l u
 | .tl e l=>.tl e l
def HP.frz (g:Nat) (u:PV):HP→HP
 | []=>[]
 | (g',o)::h=>if E4 g' g=true then HP.frz g u h else (g',o.frz g u)::HP.frz g u h
abbrev SL:=List (Nat×PV)
def SL.get:SL→Nat→PV
 | [],_=>.undef
 | (i,v)::s,k=>if k=i then v else SL.get s k
def SL.map (f:PV→PV):SL→SL
 | []=>[]
 | (i,v)::s=>(i,f v)::SL.map f s
structure St where
 s:SL
 h:HP
 deriving Inhabited
def St.get (σ:St) (k:Nat):PV:=σ.s.get k
def St.hget (σ:St) (g:Nat):Option HO:=σ.h.get g
def St.set (σ:St) (d:Nat) (v:PV):St:=⟨(d,v)::σ.s,σ.h⟩
def St.kill (p:Key→Bool) (σ:St):St:=⟨σ.s.map (PV.kill p),σ.h.kill p⟩
def St.put (σ:St) (g:Nat) (o:HO):St:=⟨σ.s,(g,o)::σ.h⟩
def St.frz (g:Nat) (u:PV) (σ:St):St:=⟨σ.s.map (PV.frz g u),σ.h.frz g u⟩
def owned (g i:Nat):List (Nat×Nat)→List PV→List PV
 | [],cs=>cs
 | (j,e)::J,cs=>match cs[j]? with
   | some .undef=>owned g i J cs
   | _=>(owned g i J cs).set j (.row (.sub g i j) e)
def Jat:List (Nat×Nat)→Nat→Option Nat
 | [],_=>none
 | (j,e)::J,k=>if E4 k j=true then some e else Jat J k
def HP.rowAt (h:HP):Key→Option (List (List PV))
 | .top g=>match h.get g with
   | some (.row _ _ es)=>some es
   | _=>none
 | .sub g i j=>match h.get g with
   | some (.row _ J es)=>if (Jat J j).isSome=true then (match es[i]? with
     | some cs=>(match cs[j]? with
       | some (.sl es')=>some es'
       | _=>none)
     | none=>none) else none
   | _=>none
def HP.Ep (h:HP) (es':List (List PV)):Key→Option HO
 | .top g=>match h.get g with
   | some (.row e J _)=>some (.row e J es')
   | _=>none
 | .sub g i j=>match h.get g with
   | some (.row e J es)=>some (.row e J (setRow es i j [.sl es']))
   | _=>none
def HP.Ft (h:HP):Key→List (Nat×Nat)
 | .top g=>match h.get g with
   | some (.row _ J _)=>J
   | _=>[]
 | .sub _ _ _=>[]
def HP.elem (h:HP) (k:Key) (i:Nat):Option (List PV):=match h.rowAt k with
 | some es=>(es[i]?).map (owned k.tag i (h.Ft k))
 | none=>none
def PV.elems (h:HP):PV→Option (List (List PV))
 | .sl es=>some es
 | .nl=>some []
 | .row k _=>h.rowAt k
 | .part k _ lo n=>match h.rowAt k with
   | some es=>if lo+n≤es.length then some ((es.drop lo).take n) else none
   | none=>none
 | _=>none
mutual
def PV.view (h:HP):Nat→PV→PV
 | 0,_=>.undef
 | n+1,v=>match v with
   | .nl=>.sl []
   | .row k e=>match PV.elems h (.row k e) with | some es=>.sl es | none=>.undef
   | .part k e lo m=>match PV.elems h (.part k e lo m) with | some es=>.sl es | none=>.undef
   | .agg cs=>.agg (PV.Km h n cs)
   | .tup cs=>.tup (PV.Km h n cs)
   | .fn f cs=>.fn f (PV.Km h n cs)
   | .ptr g off=>match h.get g with
     | some (.box cs)=>.vptr (PV.Km h n cs) off
     | _=>.undef
   | .rptr k _ i off=>match h.rowAt k with
     | some es=>(match es[i]? with
       | some cs=>.vptr cs off
       | none=>.undef)
     | none=>.undef
   | .mp g=>match h.get g with
     | some (.map m)=>.fmap m
     | _=>.undef
   | v=>v
def PV.Km (h:HP):Nat→List PV→List PV
 | 0,cs=>cs.map fun _=>.undef
 | n+1,cs=>match cs with
   | []=>[]
   | c::cs=>PV.view h n c::PV.Km h n cs
end
def DEEP:Nat:=64
def St.view (σ:St) (v:PV):PV:=PV.view σ.h DEEP v
def ofC:Value→PV
 | .slice none 0 0=>.nl
 | .agg _=>.undef
 | .tuple _=>.undef
 | v=>.lit v
def ofE:Value→PV
 | .slice none 0 0=>.sl []
 | .agg _=>.undef
 | .tuple _=>.undef
 | v=>.lit v
def ofV:Value→PV
 | .agg cs=>.agg (cs.toList.map ofC)
 | .tuple vs=>if vs.size=0 then .lit undef else .undef
 | .func (.func f) first caps=>if first.size=0∧caps.size=0 then .fn f [] else .undef
 | v=>ofC v
def pev (s:St):Operand→PV
 | .tmp t=>s.get t
 | .const v=>ofV v
 | .global _=>.undef
 | .func f=>.fn f []
def PV.cells:PV→List PV
 | .agg cs=>cs
 | v=>[v]
def PV.cell:PV→Bool
 | .lit v=>v.oneCell'
 | .undef=>false
 | .agg _=>false
 | .tup _=>false
 | _=>true
def PV.still:PV→Bool
 | .lit v=>v.oneCell'
 | .sl _=>true
 | .fmap _=>true
 | _=>false
section
variable (P:Program)
def Hm (t:TypeId):Option Bool:=match P.underlying t with | some (.struct _)=>some true | some (.array ..)=>some true | some _=>some false | none=>none
def kL (t:TypeId):Option TypeId:=match P.underlying t with | some (.slice e)=>some e | _=>none
def WX (t:TypeId):Option (Nat×TypeId):=match P.underlying t with | some (.array n e)=>some (n,e) | _=>none
def OH (t:TypeId):Option IntKind:=match P.underlying t with | some (.int k)=>some k | _=>none
def WY (t:TypeId) (i:Nat):Option (Nat×TypeId):=match P.underlying t with | some (.struct fs)=>(fs[i]?).map fun f=>(f.offset,f.type) | _=>none
def Hg (t:TypeId):Option Value:=(P.info? t).bind (·.zero)
def aJ (t:TypeId):Nat:=P.cellsOf t
def Hf (e:TypeId):Bool:=match P.info? e with | some i=>decide (0<i.size)&&decide (i.bytes≤65536)&&(match i.zero with | some z=>decide (z.cells.size=i.size) | none=>false) | none=>false
end
structure Res where
 kill:List (Key→Bool)
 sets:List (Nat×HO)
 v:PV
def Res.val (v:PV):Res:=⟨[],[],v⟩
def Res.base (σ:St) (r:Res):St:=r.sets.foldl (fun σ x=>σ.put x.1 x.2) (r.kill.foldl (fun σ p=>σ.kill p) σ)
def Res.put (σ:St) (d:Option Nat) (r:Res):St:=match d with
 | some d=>(r.base σ).set d r.v
 | none=>r.base σ
def Res.new (d:Nat) (o:HO) (v:PV):Res:=⟨[dU d],[(d,o)],v⟩
def SD (op:BinOp) (x y:PV):Option PV:=
 match x,y with
 | .lit (.int k a),.lit (.int k' b) =>
   match op with
   | .add=>if k=k' then some (.lit (.int k (k.wrap (a+b)))) else none
   | .sub=>if k=k' then some (.lit (.int k (k.wrap (a-b)))) else none
   | .mul=>if k=k' then some (.lit (.int k (k.wrap (a*b)))) else none
   | .quo=>if k=k'∧b≠0 then some (.lit (.int k (k.wrap (a.tdiv b)))) else none
   | .rem=>if k=k'∧b≠0 then some (.lit (.int k (a.tmod b))) else none
   | .eql=>if k=k' then some (.lit (.bool (a==b))) else none
   | .neq=>if k=k' then some (.lit (.bool (a != b))) else none
   | .lss=>if k=k' then some (.lit (.bool (decide (a<b)))) else none
   | .leq=>if k=k' then some (.lit (.bool (decide (a≤b)))) else none
   | .gtr=>if k=k' then some (.lit (.bool (decide (a>b)))) else none
   | .geq=>if k=k' then some (.lit (.bool (decide (a ≥ b)))) else none
   | .shl=>if 0≤b then some (.lit (.int k (k.wrap (a*2^(min b.toNat k.bits))))) else none
   | .shr=>if 0≤b then some (.lit (.int k (a.fdiv (2^(min b.toNat k.bits))))) else none
   | .and=>if k=k' then some (.lit (.int k (k.wrap (BitVec.ofInt k.bits a &&& BitVec.ofInt k.bits b).toNat))) else none
   | .or=>if k=k' then some (.lit (.int k (k.wrap (BitVec.ofInt k.bits a ||| BitVec.ofInt k.bits b).toNat))) else none
   | .xor=>if k=k' then some (.lit (.int k (k.wrap (BitVec.ofInt k.bits a ^^^ BitVec.ofInt k.bits b).toNat))) else none
   | .andNot=>if k=k' then some (.lit (.int k (k.wrap (BitVec.ofInt k.bits a &&& ~~~(BitVec.ofInt k.bits b)).toNat))) else none
 | _,_=>none
def XX (P:Program) (t:TypeId):Bool:=match P.underlying t with
 | some .bool=>true
 | _=>false
def FE (P:Program) (op:BinOp) (t:TypeId) (x y:PV):Option PV:=
 match x,y with
 | .lit (.bool a),.lit (.bool b)=>if XX P t=true then (match op with
   | .eql=>some (.lit (.bool (a==b)))
   | .neq=>some (.lit (.bool !(a==b)))
   | _=>none) else none
 | .lit (.string a),.lit (.string b)=>(match op with
   | .add=>if a.size+b.size≤9223372036854775807 then some (.lit (.string (a++b))) else none
   | .eql=>some (.lit (.bool (a.toList==b.toList)))
   | .neq=>some (.lit (.bool !(a.toList==b.toList)))
   | .lss=>some (.lit (.bool (Op.bytesLess a.toList b.toList)))
   | .leq=>some (.lit (.bool (Op.bytesLess a.toList b.toList || (a.toList==b.toList))))
   | .gtr=>some (.lit (.bool !(Op.bytesLess a.toList b.toList || (a.toList==b.toList))))
   | .geq=>some (.lit (.bool !(Op.bytesLess a.toList b.toList)))
   | _=>none)
 | _,_=>SD op x y
def Pb:List PV→Option (IntKind×List Int)
 | [.lit (.int k n)]=>some (k,[n])
 | .lit (.int k n)::rest=>match Pb rest with
   | some (k',l)=>if k=k' then some (k,n::l) else none
   | none=>none
 | _=>none
def imax (x y:Int):Int:=if y>x then y else x
def wJ (x y:Int):Int:=if y<x then y else x
def KV (f:Int→Int→Int):Option (IntKind×List Int)→Option Res
 | some (k,x::rest)=>some (.val (.lit (.int k (rest.foldl f x))))
 | _=>none
def pun (op:UnOp) (x:PV):Option PV:=
 match op,x with
 | .neg,.lit (.int k n)=>some (.lit (.int k (k.wrap (0-n))))
 | .not,.lit (.bool b)=>some (.lit (.bool !b))
 | _,_=>none
def Rq:List PV→List PV→Option Bool
 | [],[]=>some true
 | .lit (.int .i64 a)::xs,.lit (.int .i64 b)::ys=>(Rq xs ys).map ((a==b)&&·)
 | _,_=>none
def range? (cs:List PV) (off n:Nat):Option (List PV):=if off+n≤cs.length then some ((cs.drop off).take n) else none
def Gu (agg:Bool) (size:Nat) (h:HP) (p:PV):Option PV:=
 let get:=fun (cs:List PV) (off:Nat)=>if agg then (range? cs off size).map PV.agg else cs[off]?
 match p with
 | .vptr cs off=>get cs off
 | .ptr g off=>match h.get g with
   | some (.box cs)=>get cs off
   | _=>none
 | .rptr k _ i off=>match h.elem k i with
   | some cs=>get cs off
   | none=>none
 | _=>none
def PV.isAgg:PV→Bool
 | .agg _=>true
 | _=>false
def PIN:Nat:=1000000
def Lj (agg:Bool) (size:Nat) (h:HP) (p x:PV):Option Res:=
 let vs:=x.cells
 if vs.length=size∧x.isAgg=agg then
  match p with
  | .ptr g off=>match h.get g with
    | some (.box cs)=>if off+size≤cs.length∧vs.all PV.cell=true then some ⟨[],[(g,.box (setAt cs off vs))],.lit undef⟩ else none
    | _=>none
  | .rptr k _ i off=>match h.rowAt k with
    | some es=>(match es[i]? with
      | some cs=>if off+size≤cs.length∧vs.all PV.still=true∧(h.Ft k).all (fun x=>decide (x.1<off∨off+size≤x.1))=true then
       (match h.Ep (setRow es i off vs) k with
       | some o=>some ⟨[],[(k.tag,o)],.lit undef⟩
       | none=>none) else none
      | none=>none)
    | none=>none
  | _=>none
 else none
def WB (n:Nat):PV→Option PV
 | .ptr g off=>some (.ptr g (off+n))
 | .vptr cs off=>some (.vptr cs (off+n))
 | .rptr k e i off=>some (.rptr k e i (off+n))
 | _=>none
def Li:PV→Option Nat
 | .lit (.int _ i)=>if 0≤i then some i.toNat else none
 | _=>none
def nO (size:Nat) (h:HP) (x:PV) (i:Nat):Option PV:=
 match x with
 | .sl es=>match es[i]? with
   | some e=>if e.length=size then some (.vptr e 0) else none
   | none=>none
 | .row k e=>match h.rowAt k with
   | some es=>(match es[i]? with
     | some c=>if c.length=size then some (.rptr k e i 0) else none
     | none=>none)
   | none=>none
 | .part k e lo n=>match h.rowAt k with
   | some es=>(match es[lo+i]? with
     | some c=>if c.length=size∧i<n then some (.rptr k e (lo+i) 0) else none
     | none=>none)
   | none=>none
 | _=>none
def Uc (s:St):Option Operand→Option Nat
 | none=>some 0
 | some x=>Li (pev s x)
def Ub (s:St):Option Operand→Option (Option Nat)
 | none=>some none
 | some x=>(Li (pev s x)).map some
def Gv (esz:Nat→Nat) (size:Nat) (h:HP) (x:PV) (lo:Nat) (hi:Option Nat):Option PV:=
 match x with
 | .sl es=>let h:=hi.getD es.length
   if lo≤h∧h≤es.length∧(lo==0 || es.all (fun c=>c.length==size))=true then some (.sl ((es.take h).drop lo)) else none
 | .row k e=>match h.rowAt k with
   | some es=>let h:=hi.getD es.length
     if lo≤h∧h≤es.length∧es.all (fun c=>c.length==size)=true then some (.part k e lo (h-lo)) else none
   | none=>none
 | .part k e l n=>let h:=hi.getD n
   if lo≤h∧h≤n∧esz e=size then some (.part k e (l+lo) (h-lo)) else none
 | _=>none
def PV.flat (h:HP):PV→Bool
 | .row k _=>(h.Ft k).isEmpty
 | .part k _ _ _=>(h.Ft k).isEmpty
 | _=>true
def Fq (e size:Nat) (d:Nat) (h:HP) (s x:PV):Option Res:=
 match x.elems h with
 | some xs =>
   if xs.all (fun c=>c.length==size)=true∧x.flat h=true then
   match s with
   | .row (.top g) e'=>match h.get g with
     | some (.row _ [] es)=>if e=e'∧es.length+xs.length≤LIM∧g<PIN then some ⟨[dU g],[(g,.row e [] (es++xs))],.row (.top g) e⟩ else none
     | _=>none
   | .nl=>if xs.length≤LIM then some (.new d (.row e [] xs) (.row (.top d) e)) else none
   | _=>none
   else none
 | none=>none
def Us (h:HP):PV→Option Int
 | .sl es=>some es.length
 | .nl=>some 0
 | .row k e=>(PV.elems h (.row k e)).map fun es=>(es.length:Int)
 | .part _ _ _ n=>some n
 | _=>none
def SJ:PV→Option Int
 | .lit (.string s)=>some s.size
 | _=>none
def Oz (place:Nat→Option (Nat×Nat)) (cells:List PV):List (Nat×PV)→Option (List PV)
 | []=>some cells
 | (i,v)::rest =>
   match place i with
   | some (off,size)=>if v.cells.length=size∧off+size≤cells.length∧v.cells.all PV.cell=true then Oz place (setAt cells off v.cells) rest else none
   | none=>none
def Tb (P:Program) (s:St) (d:Nat) (c:Call):Option Res:=
 match c.callee with
 | .builtin .len=>(match c.args.toList,c.argTypes.toList with
   | [x],[t]=>(match P.underlying t with
     | some (.slice _)=>(Us s.h (pev s x)).map fun n=>.val (.lit (.int .i64 n))
     | some .string=>(SJ (pev s x)).map fun n=>.val (.lit (.int .i64 n))
     | _=>none)
   | _,_=>none)
 | .builtin .append=>(match c.args.toList,c.argTypes.toList with
   | [a,x],[t,t']=>if t=t' then (match kL P t with
     | some e=>if Hf P e then Fq e (aJ P e) d s.h (pev s a) (pev s x) else none
     | none=>none) else none
   | _,_=>none)
 | .builtin .max=>KV imax (Pb (c.args.toList.map (pev s)))
 | .builtin .min=>KV wJ (Pb (c.args.toList.map (pev s)))
 | _=>none
def GA (P:Program) (t:TypeId):Bool:=match P.underlying t with
 | some (.map k e)=>(match OH P k,Hg P e with
   | some .i64,some (.int .i64 0)=>true
   | _,_=>false)
 | _=>false
def PV.entries (h:HP):PV→Option (List (Int×Int))
 | .fmap m=>some m
 | .mp g=>match h.get g with
   | some (.map m)=>some m
   | _=>none
 | _=>none
def PV.int64:PV→Option Int
 | .lit (.int .i64 n)=>some n
 | _=>none
def kQ (P:Program) (eqn:TypeId→Nat) (s:St) (d:Nat) (ty:TypeId):Op→Option Res
 | .move x=>some (.val (pev s x))
 | .assign x=>match pev s x,kL P ty with
   | .nl,some e=>if Hf P e then some (.new d (.row e [] []) (.row (.top d) e)) else none
   | v,_=>some (.val v)
 | .pick c a b=>match pev s c with
   | .lit (.bool true)=>some (.val (pev s a))
   | .lit (.bool false)=>some (.val (pev s b))
   | _=>none
 | .alloc e=>match Hg P e with
   | some z=>some (.new d (.box (ofV z).cells) (.ptr d 0))
   | none=>none
 | .box _ x=>if (pev s x).cells.all PV.cell=true then some (.new d (.box (PV.uC (dU d) (pev s x).cells)) (.ptr d 0)) else none
 | .build t parts=>match Hg P t with
   | some z=>match P.underlying t with
     | some (.struct fs)=>if fs.toList.all (fun f=>(P.info? f.type).isSome) then (Oz (fun i=>(fs[i]?).map fun f=>(f.offset,aJ P f.type)) (ofV z).cells (parts.toList.map fun (i,x)=>(i,pev s x))).map fun cs=>.val (.agg cs) else none
     | some (.array _ e)=>if (P.info? e).isSome then (Oz (fun i=>some (i*aJ P e,aJ P e)) (ofV z).cells (parts.toList.map fun (i,x)=>(i,pev s x))).map fun cs=>.val (.agg cs) else none
     | _=>none
   | none=>none
 | .buildSlice t len parts=>match kL P t with
   | some e=>if parts.toList.map (·.1)=s9 len∧0<aJ P e∧len*aJ P e≤16777216∧Hf P e=true∧(parts.toList.all fun (_,x)=>(pev s x).cells.length==aJ P e&&(pev s x).cells.all PV.still)=true then
    some (.val (.sl (parts.toList.map fun (_,x)=>(pev s x).cells))) else none
   | none=>none
 | .load t a=>match Hm P t with
   | some agg=>(Gu agg (aJ P t) s.h (pev s a)).map .val
   | none=>none
 | .store t a x=>match Hm P t with
   | some agg=>Lj agg (aJ P t) s.h (pev s a) (pev s x)
   | none=>none
 | .binOp op t x y _=>match pev s x,pev s y with
   | .agg xs,.agg ys =>
     if xs.length=eqn t∧0<xs.length then match Rq xs ys with
      | some b=>(match op with
        | .eql=>some (.val (.lit (.bool b)))
        | .neq=>some (.val (.lit (.bool !b)))
        | _=>none)
      | none=>none
     else none
   | px,py=>(FE P op t px py).map .val
 | .unOp op _ x=>(pun op (pev s x)).map .val
 | .convert src dst x=>match P.underlying src,OH P dst,pev s x with
   | some _,some k,.lit (.int _ n)=>some (.val (.lit (.int k (k.wrap n))))
   | _,_,_=>none
 | .makeFunc (.func f) first caps=>if first.size=0 then some (.val (.fn f (caps.toList.map (pev s)))) else none
 | .makeSlice t l h=>match kL P t,Li (pev s l),Li (pev s h) with
   | some e,some n,some m=>(match Hg P e with
     | some z=>if Hf P e=true∧n≤m∧m≤LIM∧(z.cells.toList.all Value.oneCell')=true then some (.new d (.row e [] (q8 n (z.cells.toList.map ofE))) (.row (.top d) e)) else none
     | none=>none)
   | _,_,_=>none
 | .slice t x lo hi none=>match kL P t with
   | some e=>if (P.info? e).isSome=true then (match Uc s lo,Ub s hi with
     | some l,some h=>(Gv (aJ P) (aJ P e) s.h (pev s x) l h).map .val
     | _,_=>none) else none
   | none=>none
 | .fieldAddr st x f=>match WY P st f with
   | some (off,ft)=>if aJ P ft=0 then none else (WB off (pev s x)).map .val
   | none=>none
 | .field st x f=>match WY P st f,pev s x with
   | some (off,ft),.agg cs=>(match Hm P ft with
     | some true=>(range? cs off (aJ P ft)).map fun l=>.val (.agg l)
     | some false=>(cs[off]?).map .val
     | none=>none)
   | _,_=>none
 | .indexAddr t x ix=>match kL P t,Li (pev s ix) with
   | some e,some i=>if (P.info? e).isSome=true then (nO (aJ P e) s.h (pev s x) i).map .val else none
   | none,some i=>(match WX P t with
     | some (n,e)=>if i<n∧(P.info? e).isSome=true then (WB (i*aJ P e) (pev s x)).map .val else none
     | none=>none)
   | _,_=>none
 | .index t x ix=>match WX P t,Li (pev s ix),pev s x with
   | some (n,e),some i,.agg cs=>if i<n then (match Hm P e with
     | some true=>(range? cs (i*aJ P e) (aJ P e)).map fun l=>.val (.agg l)
     | some false=>(cs[i*aJ P e]?).map .val
     | none=>none) else none
   | _,_,_=>none
 | .extract x i=>match pev s x with
   | .tup vs=>(vs[i]?).map .val
   | _=>none
 | .makeMap t none=>if GA P t=true then some (.new d (.map []) (.mp d)) else none
 | .lookup t x k ok=>if GA P t=true then (match (pev s x).entries s.h,(pev s k).int64 with
   | some m,some k=>if ok=true then some (.val (.tup [.lit (.int .i64 ((Rh m k).getD 0)),.lit (.bool (Rh m k).isSome)])) else some (.val (.lit (.int .i64 ((Rh m k).getD 0))))
   | _,_=>none) else none
 | .mapUpdate t x k v=>if GA P t=true then (match pev s x,(pev s k).int64,(pev s v).int64 with
   | .mp g,some k,some v=>(match s.h.get g with
     | some (.map m)=>some ⟨[],[(g,.map (Zd m k v))],.lit undef⟩
     | _=>none)
   | _,_,_=>none) else none
 | .insert t x k v=>if GA P t=true then (match pev s x,(pev s k).int64,(pev s v).int64 with
   | .mp g,some k,some v=>(match s.h.get g with
     | some (.map m)=>some ⟨[],[(g,.map (Zd m k v))],.lit undef⟩
     | _=>none)
   | _,_,_=>none) else none
 | .call c=>Tb P s d c
 | .nilCheck x=>(match pev s x with
   | .ptr g o=>some (.val (.ptr g o))
   | .vptr cs o=>some (.val (.vptr cs o))
   | .rptr k e i o=>some (.val (.rptr k e i o))
   | _=>none)
 | _=>none
def lY (ops:Array Oper) (s:St) (o:Oper):Option Bool:=
 match o.guard with
 | none=>some true
 | some (j,want)=>match (ops[j]?).bind (·.dst) with
   | some d=>match s.get d with
     | .lit (.bool b)=>some (b==want)
     | .lit _=>some false
     | _=>none
   | none=>some false
end Go.VI
namespace Go.VI
open Go.RowKit
def dV (es:List (List PV)) (i j:Nat):Option PV:=(es[i]?).bind (·[j]?)
theorem add_add (a:Addr) (i j:Nat):(a.add i).add j=a.add (i+j):=by
 unfold Addr.add
 by_cases hi:i=0 <;> by_cases hj:j=0 <;> simp [hi,hj,Nat.add_assoc]
theorem Jh (a:Addr) (n:Nat):(a.add n).block=a.block:=by unfold Addr.add;split <;> rfl
theorem add_lit (b o n:Nat):(⟨b,o,none⟩:Addr).add n=⟨b,o+n,none⟩:=by unfold Addr.add;split <;> simp_all
def Cg (w:World) (b:Nat) (m:List (Int×Int)):Prop:=
 ∃ es clock,w.heap[b]?=some (.map es clock)∧es.toList.map (fun e=>(e.key,e.val))=m.map (fun p=>(Value.int .i64 p.1,Value.int .i64 p.2))∧(es.toList.map (·.born)).Nodup∧∀ x ∈ es.toList,x.born<clock
theorem Cg.same {w w':World} {b:Nat} {m:List (Int×Int)} (h:Cg w b m) (hb:w'.heap[b]?=w.heap[b]?):Cg w' b m:=by
 obtain ⟨es,cl,h1,h2⟩:=h
 exact ⟨es,cl,hb.trans h1,h2⟩
def Qa (w:World) (S:Nat→Prop) (r:Nat) (left:List (Int×Int)) (cur:Option (Int×Int)):Prop:=
 ∃ b es clock since seen c0,S b∧w.heap[b]?=some (.map es clock)∧(es.toList.map (·.born)).Nodup∧(∀ x ∈ es.toList,x.born<since)∧since≤c0∧since≤clock∧w.heap[r]?=some (.mapIter (some b) since seen c0) ∧
   (es.toList.filter fun e=>!seen.contains e.born).map (fun e=>(e.key,e.val))=left.map (fun p=>(Value.int .i64 p.1,Value.int .i64 p.2)) ∧
   ∀ k v,cur=some (k,v)→∃ e seen',e ∈ es.toList∧seen=Array.push seen' e.born∧c0=clock∧e.key=.int .i64 k∧e.val=.int .i64 v
theorem Qa.same {w w':World} {S S':Nat→Prop} {r:Nat} {left:List (Int×Int)} {cur:Option (Int×Int)} (h:Qa w S r left cur) (hS:∀ b,S b→w'.heap[b]?=w.heap[b]?∧S' b) (hr:w'.heap[r]?=w.heap[r]?):Qa w' S' r left cur:=by
 obtain ⟨b,es,cl,since,seen,c0,h1,h2,h3,h4,h5,h6,h7,h8⟩:=h
 exact ⟨b,es,cl,since,seen,c0,(hS b h1).2,(hS b h1).1.trans h2,h3,h4,h5,h6,hr.trans h7,h8⟩
theorem Cg.lt {w:World} {b:Nat} {m:List (Int×Int)} (h:Cg w b m):b<w.heap.size:=by
 obtain ⟨es,cl,h1,_⟩:=h
 rcases G3 b w.heap.size with h | h
 ·exact h
 ·rw [Array.getElem?_eq_none h] at h1;cases h1
inductive RF (w:World) (S:Nat→Prop):PV→Value→Prop
 | undef (v:Value):RF w S .undef v
 | lit (v:Value):RF w S (.lit v) v
 | nl:RF w S .nl (.slice none 0 0)
 | fmap (m:List (Int×Int)) (b:Nat) (hb:S b) (hm:Cg w b m):RF w S (.fmap m) (.map (some b))
 | sl (es:List (List PV)) (k:Nat) (a:Option Addr) (n c:Nat) (vf:Nat→Nat→Value) (hn:n=es.length) (hk:∀ e ∈ es,e.length=k) (hk0:0<k) (hc:n≤c)
  (ha:es≠[]→∃ ad,a=some ad∧S ad.block)
  (hcell:∀ ad,a=some ad→∀ i j pv,dV es i j=some pv→w.cell? (ad.add (i*k+j))=some (vf i j))
  (h1:∀ i j pv,dV es i j=some pv→(vf i j).oneCell'=true)
  (hr:∀ i j pv,dV es i j=some pv→RF w S pv (vf i j)):RF w S (.sl es) (.slice a n c)
 | agg (cs:List PV) (vs:Array Value) (hn:vs.size=cs.length) (hr:∀ i pv,cs[i]?=some pv→RF w S pv (vs.getD i Go.undef)):RF w S (.agg cs) (.agg vs)
 | tup (cs:List PV) (vs:Array Value) (hn:vs.size=cs.length) (hr:∀ i pv,cs[i]?=some pv→RF w S pv (vs.getD i Go.undef)):RF w S (.tup cs) (.tuple vs)
 | vptr (cs:List PV) (off:Nat) (ad:Addr) (vf:Nat→Value) (hS:S ad.block)
  (hcell:∀ i pv,cs[i]?=some pv→w.cell? (ad.add i)=some (vf i))
  (hr:∀ i pv,cs[i]?=some pv→RF w S pv (vf i)):RF w S (.vptr cs off) (.pointer (some (ad.add off)))
 | fn (f:Nat) (cs:List PV) (vs:Array Value) (hn:vs.size=cs.length) (hr:∀ i pv,cs[i]?=some pv→RF w S pv (vs.getD i Go.undef)):RF w S (.fn f cs) (.func (.func f) #[] vs)
structure Ctx where
 S:Nat→Prop
 τ:Key→Nat
 hd:Key→Value
 ty:Key→TypeId
 D:Key→Prop
inductive RV (P:Program) (w:World) (c:Ctx):PV→Value→Prop
 | free (pv:PV) (v:Value) (h:RF w c.S pv v):RV P w c pv v
 | row (k:Key) (e:Nat) (he:c.ty k=e) (h1:(c.hd k).oneCell'=true):RV P w c (.row k e) (c.hd k)
 | part (k:Key) (e lo n:Nat) (A:Option Addr) (cc:Nat) (he:c.ty k=e) (hn:n≤cc) (hA:0<n→A=some ⟨c.τ k,lo*aJ P e,none⟩):RV P w c (.part k e lo n) (.slice A n cc)
 | ptr (g off:Nat):RV P w c (.ptr g off) (.pointer (some ⟨c.τ (.top g),off,none⟩))
 | rptr (k:Key) (e i off:Nat) (he:c.ty k=e):RV P w c (.rptr k e i off) (.pointer (some ⟨c.τ k,i*aJ P e+off,none⟩))
 | mp (g:Nat):RV P w c (.mp g) (.map (some (c.τ (.top g))))
 | agg (cs:List PV) (vs:Array Value) (hn:vs.size=cs.length) (hr:∀ i pv,cs[i]?=some pv→RV P w c pv (vs.getD i Go.undef)):RV P w c (.agg cs) (.agg vs)
 | tup (cs:List PV) (vs:Array Value) (hn:vs.size=cs.length) (hr:∀ i pv,cs[i]?=some pv→RV P w c pv (vs.getD i Go.undef)):RV P w c (.tup cs) (.tuple vs)
 | fn (f:Nat) (cs:List PV) (vs:Array Value) (hn:vs.size=cs.length) (hr:∀ i pv,cs[i]?=some pv→RV P w c pv (vs.getD i Go.undef)):RV P w c (.fn f cs) (.func (.func f) #[] vs)
structure jB (P:Program) (w:World) (c:Ctx) (k:Key) (e:Nat) (es:List (List PV)) (R:Nat→Nat→PV→Value→Prop) (xs:List Value):Prop where
 ty:c.ty k=e
 pos:0<aJ P e
 len:∀ l ∈ es,l.length=aJ P e
 own:w.ownsRow 0 e (aJ P e) (c.hd k) es.length xs
 blk:∀ b,(c.hd k).ownBlock=some b→c.D k∧c.τ k=b
 one:∀ i j pv,dV es i j=some pv→(xs.getD (i*aJ P e+j) undef).oneCell'=true
 rep:∀ i j pv,dV es i j=some pv→R i j pv (xs.getD (i*aJ P e+j) undef)
theorem jB.Bk {P:Program} {w:World} {c:Ctx} {k:Key} {e:Nat} {es:List (List PV)} {R:Nat→Nat→PV→Value→Prop} {xs:List Value} (r:jB P w c k e es R xs):(c.hd k).oneCell'=true:=by
 rcases r.own.2 with ⟨h0,_⟩ | ⟨g,cap,cur,h0,_⟩ <;> rw [h0] <;> rfl
def eL (P:Program) (w:World) (c:Ctx) (g:Nat) (J:List (Nat×Nat)) (i j:Nat) (pv:PV) (v:Value):Prop:=match Jat J j with
 | none=>RF w c.S pv v
 | some e'=>pv=.undef∨(v=c.hd (.sub g i j)∧∃ es' xs,pv=.sl es'∧jB P w c (.sub g i j) e' es' (fun _ _ pv v=>RF w c.S pv v) xs)
structure Hr (P:Program) (w:World) (c:Ctx) (g e:Nat) (l:List Int):Prop where
 ty:c.ty (.top g)=e
 size:aJ P e=1
 D:c.D (.top g)
 ex:∃ o cap cur,c.hd (.top g)=.slice (some ⟨c.τ (.top g),o,none⟩) l.length cap∧w.heap[c.τ (.top g)]?=some (.cells cur e (0,0))∧l.length≤cap∧cap≤maxLen∧o+cap≤cur.size∧∀ (i:Nat) n,l[i]?=some n→cur[o+i]?=some (.int .i64 n)
theorem Hr.move {P:Program} {w w':World} {c c':Ctx} {g g' e:Nat} {l:List Int} (h1:c'.τ (.top g')=c.τ (.top g)) (h2:c'.hd (.top g')=c.hd (.top g)) (h3:c'.ty (.top g')=c.ty (.top g)) (h4:c.D (.top g)→w'.heap[c.τ (.top g)]?=w.heap[c.τ (.top g)]?∧c'.D (.top g')) (r:Hr P w c g e l):Hr P w' c' g' e l:=by
 obtain ⟨a,b,d,o,cap,cur,q1,q2,q3⟩:=r
 exact ⟨h3.trans a,b,(h4 d).2,o,cap,cur,by rw [h2,h1];exact q1,by rw [h1,(h4 d).1];exact q2,q3⟩
def oW (P:Program) (w:World) (c:Ctx) (g:Nat):HO→Prop
 | .box cs=>c.D (.top g)∧∃ (vs:Array Value) (T:TypeId),w.heap[c.τ (.top g)]?=some (.cells vs T (0,0))∧vs.size=cs.length∧∀ (i:Nat) pv,cs[i]?=some pv→RV P w c pv (vs.getD i undef)
 | .row e J es=>∃ xs,jB P w c (.top g) e es (eL P w c g J) xs
 | .map m=>c.D (.top g)∧Cg w (c.τ (.top g)) m
 | .it l u=>c.D (.top g)∧Qa w c.S (c.τ (.top g)) l u
 | .tl e l=>Hr P w c g e l
structure Ctx.Ok (c:Ctx) (B:Nat→Prop) (w:World):Prop where
 hS:∀ b,c.S b→b<w.heap.size
 hD:∀ k,c.D k→B (c.τ k)∧c.τ k<w.heap.size∧¬ c.S (c.τ k)
 inj:∀ k k',c.D k→c.D k'→c.τ k=c.τ k'→k=k'
def Ext (w w':World):Prop:=w.heap.size≤w'.heap.size∧∀ b,b<w.heap.size→w'.heap[b]?=w.heap[b]?
theorem Ext.refl (w:World):Ext w w:=⟨v7 _,fun _ _=>rfl⟩
theorem Ext.trans {a b c:World} (h:Ext a b) (k:Ext b c):Ext a c:=⟨J1 h.1 k.1,fun i hi=>(k.2 i (D8 hi h.1)).trans (h.2 i hi)⟩
theorem Ext.alloc (w:World) (o:Obj):Ext w (w.alloc o):=⟨by simp,fun b hb=>Below.heap_alloc w o b hb⟩
theorem Ext.drew (w:World):Ext w w.drew:=⟨v7 _,fun _ _=>rfl⟩
theorem Ext.below {w w':World} (h:Below w.heap.size w w'):Ext w w':=⟨h.size,fun b hb=>h.block b hb⟩
theorem Ext.cell {w w':World} (h:Ext w w') {a:Addr} {v:Value} (hc:w.cell? a=some v):w'.cell? a=some v:=
 (World.cell?_of_block (h.2 _ (World.block_lt_of_cell? w a hc))).trans hc
def Ga (S:Nat→Prop) (w w':World):Prop:=∀ b,S b→w'.heap[b]?=w.heap[b]?
theorem RF.same {w w':World} {S S':Nat→Prop} (h:Ga S w w') (hS:∀ b,S b→S' b) {pv:PV} {v:Value} (r:RF w S pv v):RF w' S' pv v:=by
 induction r with
 | undef v=>exact .undef v
 | lit v=>exact .lit v
 | nl=>exact .nl
 | fmap m b hb hm=>exact .fmap m b (hS _ hb) (hm.same (h _ hb))
 | sl es k a n c vf hn hk hk0 hc ha hcell h1 hr ih =>
   refine .sl es k a n c vf hn hk hk0 hc (fun hne=>?_) (fun ad had i j pv hg=>?_) h1 ih
   ·obtain ⟨ad,h1,h2⟩:=ha hne
    exact ⟨ad,h1,hS _ h2⟩
   ·have hne:es≠[]:=by rintro rfl;simp [dV] at hg
    obtain ⟨ad',h1,h2⟩:=ha hne
    obtain rfl:ad'=ad:=by rw [h1] at had;injection had
    exact (World.cell?_of_block (by rw [Jh];exact h _ h2)).trans (hcell _ had i j pv hg)
 | agg cs vs hn hr ih=>exact .agg cs vs hn ih
 | tup cs vs hn hr ih=>exact .tup cs vs hn ih
 | vptr cs off ad vf hS' hcell hr ih =>
   exact .vptr cs off ad vf (hS _ hS') (fun i pv hg=>(World.cell?_of_block (by rw [Jh];exact h _ hS')).trans (hcell i pv hg)) ih
 | fn f cs vs hn hr ih=>exact .fn f cs vs hn ih
theorem Rn {w w':World} {base e size n:Nat} {v:Value} {xs:List Value} (h:w.ownsRow base e size v n xs) (hb:∀ b,v.ownBlock=some b→w'.heap[b]?=w.heap[b]?) :
  w'.ownsRow base e size v n xs:=by
 refine ⟨h.1, ?_⟩
 rcases h.2 with hn | ⟨g,cap,cur,rfl,hbb,hgg,rest⟩
 ·exact .inl hn
 ·exact .inr ⟨g,cap,cur,rfl,hbb,(hb g rfl).trans hgg,rest⟩
def Agree (c c':Ctx) (k:Key):Prop:=c'.τ k=c.τ k∧c'.hd k=c.hd k∧c'.ty k=c.ty k
theorem Agree.refl (c:Ctx) (k:Key):Agree c c k:=⟨rfl,rfl,rfl⟩
theorem Vd {p:Key→Bool} {cs:List PV} {i:Nat} {pv:PV} (h:cs[i]?=some pv) (hh:PV.Ca p cs=false):pv.has p=false:=by
 induction cs generalizing i with
 | nil=>simp at h
 | cons c cs ih =>
   simp only [PV.Ca,I7] at hh
   cases i with
   | zero=>simp at h;subst h;exact hh.1
   | succ i=>exact ih (by simpa using h) hh.2
theorem Qy {cs:List PV} (h:∀ (i:Nat) pv,cs[i]?=some pv→pv.free=true):PV.Ot cs=true:=by
 induction cs with
 | nil=>rfl
 | cons c cs ih=>simp only [PV.Ot,h 0 c (by simp),ih (fun i pv hi=>h (i+1) pv (by simpa using hi)),Bool.and_self]
theorem RV.keep {P:Program} {w w':World} {c c':Ctx} {p:Key→Bool} (hS:Ga c.S w w') (hSS:∀ b,c.S b→c'.S b) (hag:∀ k,p k=false→Agree c c' k) {pv:PV} {v:Value} (r:RV P w c pv v):pv.has p=false→RV P w' c' pv v:=by
 induction r with
 | free pv v h=>intro _;exact .free pv v (h.same hS hSS)
 | row k e he h1=>intro hp;obtain ⟨_,h2,h3⟩:=hag k (by rwa [PV.has] at hp);rw [← h2] at h1 ⊢;exact .row k e (h3.trans he) h1
 | part k e lo n A cc he hn hA=>intro hp;obtain ⟨h1,h2,h3⟩:=hag k (by rwa [PV.has] at hp);exact .part k e lo n A cc (h3.trans he) hn (fun h=>by rw [h1];exact hA h)
 | ptr g off=>intro hp;obtain ⟨h1,_⟩:=hag (.top g) (by rwa [PV.has] at hp);rw [← h1];exact .ptr g off
 | rptr k e i off he=>intro hp;obtain ⟨h1,h2,h3⟩:=hag k (by rwa [PV.has] at hp);rw [← h1];exact .rptr k e i off (h3.trans he)
 | mp g=>intro hp;obtain ⟨h1,_⟩:=hag (.top g) (by rwa [PV.has] at hp);rw [← h1];exact .mp g
 | agg cs vs hn hr ih=>intro hp;rw [PV.has] at hp;exact .agg cs vs hn fun i pv hg=>ih i pv hg (Vd hg hp)
 | tup cs vs hn hr ih=>intro hp;rw [PV.has] at hp;exact .tup cs vs hn fun i pv hg=>ih i pv hg (Vd hg hp)
 | fn f cs vs hn hr ih=>intro hp;rw [PV.has] at hp;exact .fn f cs vs hn fun i pv hg=>ih i pv hg (Vd hg hp)
theorem jB.keep {P:Program} {w w':World} {c c':Ctx} {k:Key} {e:Nat} {es:List (List PV)} {R R':Nat→Nat→PV→Value→Prop} {xs:List Value} (hag:Agree c c' k) (hD:c.D k→w'.heap[c.τ k]?=w.heap[c.τ k]?∧c'.D k)
  (hR:∀ i j pv v,R i j pv v→R' i j pv v) (r:jB P w c k e es R xs):jB P w' c' k e es R' xs:=by
 obtain ⟨h1,h2,h3⟩:=hag
 refine ⟨h3.trans r.ty,r.pos,r.len, ?_,fun b hb=>?_,r.one,fun i j pv hg=>hR _ _ _ _ (r.rep i j pv hg)⟩
 ·rw [h2]
  exact Rn r.own fun b hb=>by obtain ⟨q1,rfl⟩:=r.blk b hb;exact (hD q1).1
 ·rw [h2] at hb
  obtain ⟨q1,q2⟩:=r.blk b hb
  exact ⟨(hD q1).2,h1.trans q2⟩
theorem eL.keep {P:Program} {w w':World} {c c':Ctx} {g:Nat} {J:List (Nat×Nat)} (hS:Ga c.S w w') (hSS:∀ b,c.S b→c'.S b) (hag:∀ k,k.tag=g→Agree c c' k) (hD:∀ k,k.tag=g→c.D k→w'.heap[c.τ k]?=w.heap[c.τ k]?∧c'.D k)
  (i j:Nat) (pv:PV) (v:Value) (h:eL P w c g J i j pv v):eL P w' c' g J i j pv v:=by
 unfold eL at h ⊢
 split at h
 ·exact h.same hS hSS
 ·rcases h with h | ⟨h1,es',xs,h2,h3⟩
  ·exact .inl h
  refine .inr ⟨h1.trans (hag (.sub g i j) rfl).2.1.symm,es',xs,h2,h3.keep (hag _ rfl) (hD _ rfl) fun _ _ _ _ r=>r.same hS hSS⟩
mutual
theorem Wy (p:Key→Bool):∀ (v:PV),v.free=true→v.has p=false
 | .undef,_=>rfl
 | .lit _,_=>rfl
 | .nl,_=>rfl
 | .sl _,_=>rfl
 | .fmap _,_=>rfl
 | .vptr _ _,_=>rfl
 | .agg cs,h=>by rw [PV.has];exact Jz p cs (by rwa [PV.free] at h)
 | .tup cs,h=>by rw [PV.has];exact Jz p cs (by rwa [PV.free] at h)
 | .fn _ cs,h=>by rw [PV.has];exact Jz p cs (by rwa [PV.free] at h)
 | .row _ _,h=>by simp [PV.free] at h
 | .part _ _ _ _,h=>by simp [PV.free] at h
 | .ptr _ _,h=>by simp [PV.free] at h
 | .rptr _ _ _ _,h=>by simp [PV.free] at h
 | .mp _,h=>by simp [PV.free] at h
theorem Jz (p:Key→Bool):∀ (l:List PV),PV.Ot l=true→PV.Ca p l=false
 | [],_=>rfl
 | c::cs,h=>by
   simp only [PV.Ot,o8] at h
   simp [PV.Ca,Wy p c h.1,Jz p cs h.2]
end
mutual
theorem Co (p:Key→Bool):∀ (v:PV),v.has p=false→v.kill p=v
 | .undef,_=>rfl
 | .lit _,_=>rfl
 | .nl,_=>rfl
 | .sl _,_=>rfl
 | .fmap _,_=>rfl
 | .vptr _ _,_=>rfl
 | .agg cs,h=>by rw [PV.kill,Gq p cs (by rwa [PV.has] at h)]
 | .tup cs,h=>by rw [PV.kill,Gq p cs (by rwa [PV.has] at h)]
 | .fn _ cs,h=>by rw [PV.kill,Gq p cs (by rwa [PV.has] at h)]
 | .row _ _,h=>by simp [PV.has] at h;simp [PV.kill,h]
 | .part _ _ _ _,h=>by simp [PV.has] at h;simp [PV.kill,h]
 | .ptr _ _,h=>by simp [PV.has] at h;simp [PV.kill,h]
 | .rptr _ _ _ _,h=>by simp [PV.has] at h;simp [PV.kill,h]
 | .mp _,h=>by simp [PV.has] at h;simp [PV.kill,h]
theorem Gq (p:Key→Bool):∀ (l:List PV),PV.Ca p l=false→PV.uC p l=l
 | [],_=>rfl
 | c::cs,h=>by
   simp only [PV.Ca,I7] at h
   simp [PV.uC,Co p c h.1,Gq p cs h.2]
end
mutual
theorem Wz (p:Key→Bool):∀ (v:PV),(v.kill p).has p=false
 | .undef=>rfl
 | .lit _=>rfl
 | .nl=>rfl
 | .sl _=>rfl
 | .fmap _=>rfl
 | .vptr _ _=>rfl
 | .agg cs=>by rw [PV.kill,PV.has];exact Gm p cs
 | .tup cs=>by rw [PV.kill,PV.has];exact Gm p cs
 | .fn _ cs=>by rw [PV.kill,PV.has];exact Gm p cs
 | .row k _=>by by_cases h:p k=true <;> simp [PV.kill,h,PV.has]
 | .part k _ _ _=>by by_cases h:p k=true <;> simp [PV.kill,h,PV.has]
 | .rptr k _ _ _=>by by_cases h:p k=true <;> simp [PV.kill,h,PV.has]
 | .ptr g _=>by by_cases h:p (.top g)=true <;> simp [PV.kill,h,PV.has]
 | .mp g=>by by_cases h:p (.top g)=true <;> simp [PV.kill,h,PV.has]
theorem Gm (p:Key→Bool):∀ (l:List PV),PV.Ca p (PV.uC p l)=false
 | []=>rfl
 | c::cs=>by simp [PV.uC,PV.Ca,Wz p c,Gm p cs]
end
theorem Nt (p:Key→Bool) (l:List PV) (i:Nat):(PV.uC p l)[i]?=(l[i]?).map (PV.kill p):=by
 induction l generalizing i with
 | nil=>simp [PV.uC]
 | cons c cs ih=>cases i <;> simp [PV.uC,ih]
theorem Bn (p:Key→Bool) (l:List PV):(PV.uC p l).length=l.length:=by
 induction l <;> simp_all [PV.uC]
theorem RF.free {w:World} {S:Nat→Prop} {pv:PV} {v:Value} (r:RF w S pv v):pv.free=true:=by
 induction r with
 | agg cs vs hn hr ih=>rw [PV.free];exact Qy ih
 | tup cs vs hn hr ih=>rw [PV.free];exact Qy ih
 | fn f cs vs hn hr ih=>rw [PV.free];exact Qy ih
 | _=>simp [PV.free]
theorem RV.kill {P:Program} {w:World} {c:Ctx} (p:Key→Bool) {pv:PV} {v:Value} (r:RV P w c pv v):RV P w c (pv.kill p) v:=by
 have lst:∀ {cs:List PV} {vs:Array Value},(∀ (i:Nat) pv,cs[i]?=some pv→RV P w c (pv.kill p) (vs.getD i Go.undef))→∀ (i:Nat) pv,(PV.uC p cs)[i]?=some pv→RV P w c pv (vs.getD i Go.undef):=by
  intro cs vs ih i pv hg
  rw [Nt] at hg
  cases hc:cs[i]? <;> simp [hc] at hg
  subst hg;exact ih i _ hc
 induction r with
 | free pv v h=>rw [Co p pv (Wy p pv h.free)];exact .free pv v h
 | row k e he h1=>rw [PV.kill];split;exact .free _ _ (.undef _);exact .row k e he h1
 | part k e lo n A cc he hn hA=>rw [PV.kill];split;exact .free _ _ (.undef _);exact .part k e lo n A cc he hn hA
 | ptr g off=>rw [PV.kill];split;exact .free _ _ (.undef _);exact .ptr g off
 | rptr k e i off he=>rw [PV.kill];split;exact .free _ _ (.undef _);exact .rptr k e i off he
 | mp g=>rw [PV.kill];split;exact .free _ _ (.undef _);exact .mp g
 | agg cs vs hn hr ih=>rw [PV.kill];exact .agg _ vs (by rw [Bn,hn]) (lst ih)
 | tup cs vs hn hr ih=>rw [PV.kill];exact .tup _ vs (by rw [Bn,hn]) (lst ih)
 | fn f cs vs hn hr ih=>rw [PV.kill];exact .fn f _ vs (by rw [Bn,hn]) (lst ih)
theorem RV.Bm {P:Program} {w w':World} {c c':Ctx} {p:Key→Bool} (hS:Ga c.S w w') (hSS:∀ b,c.S b→c'.S b) (hag:∀ k,p k=false→Agree c c' k) {pv:PV} {v:Value} (r:RV P w c pv v):RV P w' c' (pv.kill p) v:=
 (r.kill p).keep hS hSS hag (Wz p pv)
theorem oW.Bm {P:Program} {w w':World} {c c':Ctx} {p:Key→Bool} {g:Nat} {o:HO} (hS:Ga c.S w w') (hSS:∀ b,c.S b→c'.S b) (hag:∀ k,p k=false→Agree c c' k) (hg:∀ k:Key,k.tag=g→p k=false)
  (hD:∀ k:Key,k.tag=g→c.D k→w'.heap[c.τ k]?=w.heap[c.τ k]?∧c'.D k) (r:oW P w c g o):oW P w' c' g (o.kill p):=by
 cases o with
 | box cs =>
   obtain ⟨h1,vs,T,h2,h3,h4⟩:=r
   obtain ⟨q1,q2⟩:=hD (.top g) rfl h1
   refine ⟨q2,vs,T,by rw [(hag _ (hg (.top g) rfl)).1,q1];exact h2,by rw [Bn,h3],fun i pv hgt=>?_⟩
   rw [Nt] at hgt
   cases hc:cs[i]? <;> simp [hc] at hgt
   subst hgt
   exact (h4 i _ hc).Bm hS hSS hag
 | row e J es =>
   obtain ⟨xs,r⟩:=r
   exact ⟨xs,r.keep (hag _ (hg (.top g) rfl)) (hD _ rfl) fun i j pv v=>eL.keep hS hSS (fun k hk=>hag k (hg k hk)) hD i j pv v⟩
 | map m =>
   obtain ⟨h1,h2⟩:=r
   obtain ⟨q1,q2⟩:=hD (.top g) rfl h1
   exact ⟨q2,by rw [(hag _ (hg (.top g) rfl)).1];exact h2.same q1⟩
 | it l u =>
   obtain ⟨h1,h2⟩:=r
   obtain ⟨q1,q2⟩:=hD (.top g) rfl h1
   exact ⟨q2,by rw [(hag _ (hg (.top g) rfl)).1];exact h2.same (fun b hb=>⟨hS b hb,hSS b hb⟩) q1⟩
 | tl e l =>
   have q:=hag _ (hg (.top g) rfl)
   exact Hr.move q.1 q.2.1 q.2.2 (hD _ rfl) r
def vY:Key→Bool:=fun _=>false
mutual
theorem Xa:∀ v:PV,v.has vY=false
 | .undef=>rfl
 | .lit _=>rfl
 | .nl=>rfl
 | .sl _=>rfl
 | .fmap _=>rfl
 | .vptr _ _=>rfl
 | .agg cs=>by rw [PV.has];exact Ra cs
 | .tup cs=>by rw [PV.has];exact Ra cs
 | .fn _ cs=>by rw [PV.has];exact Ra cs
 | .row _ _=>rfl
 | .part _ _ _ _=>rfl
 | .rptr _ _ _ _=>rfl
 | .ptr _ _=>rfl
 | .mp _=>rfl
theorem Ra:∀ l:List PV,PV.Ca vY l=false
 | []=>rfl
 | c::cs=>by simp [PV.Ca,Xa c,Ra cs]
end
theorem RV.Fm {P:Program} {w w':World} {c c':Ctx} (hS:Ga c.S w w') (hSS:∀ b,c.S b→c'.S b) (hag:∀ k,Agree c c' k) {pv:PV} {v:Value} (r:RV P w c pv v):RV P w' c' pv v:=
 r.keep (p:=vY) hS hSS (fun k _=>hag k) (Xa pv)
theorem CI (o:HO):o.kill vY=o:=by
 cases o with
 | box cs=>simp only [HO.kill];rw [Gq vY cs (Ra cs)]
 | _=>rfl
theorem oW.Fm {P:Program} {w w':World} {c c':Ctx} {g:Nat} {o:HO} (hS:Ga c.S w w') (hSS:∀ b,c.S b→c'.S b) (hag:∀ k,Agree c c' k) (hD:∀ k:Key,k.tag=g→c.D k→w'.heap[c.τ k]?=w.heap[c.τ k]?∧c'.D k) (r:oW P w c g o):oW P w' c' g o:=by
 have:=r.Bm (p:=vY) hS hSS (fun k _=>hag k) (fun _ _=>rfl) hD
 rwa [CI] at this
end Go.VI
namespace Go.VI
open Go.RowKit
theorem La {α:Type} {vs:Array α} {i:Nat} {d:α} (h:i<vs.size):vs[i]?=some (vs.getD i d):=by
 simp [o7,h]
theorem cV {α:Type} {l:List α} {i:Nat} {x:α} (h:l[i]?=some x):i<l.length:=by
 rcases G3 i l.length with q | q
 ·exact q
 ·rw [s5 q] at h;cases h
theorem VR {a b i c k:Nat} (hb:b<k) (hc:c<k) (h:a*k+b=i*k+c):a=i∧b=c:=by
 rcases Nat.lt_trichotomy a i with hl | rfl | hl
 ·have:=u7 k hl
  rw [N1] at this
  omega
 ·exact ⟨rfl,by omega⟩
 ·have:=u7 k hl
  rw [N1] at this
  omega
theorem kX {a b n k:Nat} (ha:a<n) (hb:b<k):a*k+b<n*k:=by
 have:=u7 k ha
 rw [N1] at this
 omega
theorem jQ {es:List (List PV)} {k a b:Nat} {pv:PV} (hk:∀ l ∈ es,l.length=k) (h:dV es a b=some pv):a<es.length∧b<k:=by
 unfold dV at h
 cases ha:es[a]? with
 | none=>simp [ha] at h
 | some l =>
   simp [ha] at h
   have:=hk l (m5 ha)
   have:=cV h
   exact ⟨cV ha,by omega⟩
theorem pM (l:List Value) (n i:Nat) (h:i<n):(l.take n).getD i undef=l.getD i undef:=by
 simp [h]
theorem Ct {w:World} {e size n:Nat} {v:Value} {xs:List Value} (ho:w.ownsRow 0 e size v n xs) {b:Nat} (hb:v.ownBlock=some b) (m:Nat) (hm:m<n*size) :
  w.cell? ((⟨b,0,none⟩:Addr).add m)=some (xs.getD m undef):=by
 have h:=World.ownsRow.cells ho hb m
 have hl:m<xs.length:=by rw [ho.1];exact hm
 exact h _ (by simp [l8 hl])
theorem RF.Tj (w:World) (S:Nat→Prop):RF w S (.sl []) (.slice none 0 0):=
 .sl [] 1 none 0 0 (fun _ _=>Go.undef) rfl (by simp) (by omega) (v7 _) (by simp) (by simp) (by simp [dV]) (by simp [dV])
theorem Yc {P:Program} {w:World} {c:Ctx} {S:Nat→Prop} {k:Key} {e:Nat} {es:List (List PV)} {R:Nat→Nat→PV→Value→Prop} {xs:List Value} (r:jB P w c k e es R xs)
  (hR:∀ i j pv v,R i j pv v→RF w S pv v) (hb:∀ b,(c.hd k).ownBlock=some b→S b):RF w S (.sl es) (c.hd k):=by
 rcases r.own.2 with ⟨h0,hn⟩ | ⟨g2,cap,cur,h0,hb2,hg2,hnc,rest⟩
 ·have:es=[]:=H6 hn
  subst this
  rw [h0]
  exact RF.Tj w S
 ·have hob:(c.hd k).ownBlock=some g2:=by rw [h0];rfl
  have hS:=hb g2 hob
  rw [h0]
  refine .sl es (aJ P e) _ _ cap (fun i j=>xs.getD (i*aJ P e+j) undef) rfl r.len r.pos hnc (fun _=>⟨_,rfl,hS⟩) (fun ad had i j pv hg=>?_) r.one (fun i j pv hg=>hR _ _ _ _ (r.rep i j pv hg))
  injection had with had
  subst had
  have hlt:=jQ r.len hg
  exact Ct r.own hob _ (kX hlt.1 hlt.2)
theorem NG {P:Program} {w:World} {c:Ctx} {S:Nat→Prop} {k:Key} {e lo n cc:Nat} {A:Option Addr} {es:List (List PV)} {R:Nat→Nat→PV→Value→Prop} {xs:List Value} (r:jB P w c k e es R xs)
  (hR:∀ i j pv v,R i j pv v→RF w S pv v) (hb:∀ b,(c.hd k).ownBlock=some b→S b) (hcc:n≤cc) (hA:0<n→A=some ⟨c.τ k,lo*aJ P e,none⟩) (hfit:lo+n≤es.length) :
  RF w S (.sl ((es.drop lo).take n)) (.slice A n cc):=by
 have hl:((es.drop lo).take n).length=n:=by rw [x7,K5];omega
 have hgE:∀ i j pv,dV ((es.drop lo).take n) i j=some pv→i<n∧dV es (lo+i) j=some pv:=by
  intro i j pv hg
  unfold dV at hg ⊢
  rw [D9] at hg
  split at hg
  ·rename_i hi
   rw [E8] at hg
   exact ⟨hi,hg⟩
  ·simp at hg
 rcases r.own.2 with ⟨h0,hn⟩ | ⟨g2,cap,cur,h0,hb2,hg2,hnc,rest⟩
 ·have h0n:n=0:=by omega
  subst h0n
  exact .sl _ 1 _ _ cc (fun _ _=>undef) (by simp) (by simp) (by omega) hcc (fun h=>absurd (H6 hl) h) (fun ad had i j pv hg=>by have:=(hgE i j pv hg).1;omega) (fun i j pv hg=>by have:=(hgE i j pv hg).1;omega) (fun i j pv hg=>by have:=(hgE i j pv hg).1;omega)
 ·have hob:(c.hd k).ownBlock=some g2:=by rw [h0];rfl
  obtain ⟨_,hτ⟩:=r.blk g2 hob
  refine .sl _ (aJ P e) _ _ cc (fun i j=>xs.getD ((lo+i)*aJ P e+j) undef) hl.symm (fun l hl=>r.len l (M6 (G4 hl))) r.pos hcc (fun hne=>?_) (fun ad had i j pv hg=>?_) (fun i j pv hg=>r.one _ _ _ (hgE i j pv hg).2) (fun i j pv hg=>hR _ _ _ _ (r.rep _ _ pv (hgE i j pv hg).2))
  ·have hn:0<n:=by
    rcases P5 n with h | h
    ·subst h;simp at hne
    ·exact h
   exact ⟨_,hA hn,by rw [hτ];exact hb g2 hob⟩
  ·obtain ⟨hi,hg⟩:=hgE i j pv hg
   rw [hA (by omega)] at had
   injection had with had
   subst had
   have hlt:=jQ r.len hg
   have:=Ct r.own hob _ (kX hlt.1 hlt.2)
   rw [add_lit] at this ⊢
   rw [hτ,← this]
   congr 2
   rw [I2,I5];omega
theorem Zt {P:Program} {w:World} {c:Ctx} {S:Nat→Prop} {g:Nat} {J:List (Nat×Nat)} (hS:∀ b,c.S b→S b) (hb:∀ k:Key,k.tag=g→c.D k→S (c.τ k)) (i j:Nat) (pv:PV) (v:Value) (h:eL P w c g J i j pv v):RF w S pv v:=by
 unfold eL at h
 split at h
 ·exact h.same (fun _ _=>rfl) hS
 ·rcases h with rfl | ⟨rfl,es',xs,rfl,r⟩
  ·exact .undef v
  exact Yc r (fun _ _ _ _ h=>h.same (fun _ _=>rfl) hS) fun b hb'=>by obtain ⟨q1,rfl⟩:=r.blk b hb';exact hb _ rfl q1
theorem rA {P:Program} {w:World} {c:Ctx} {h:HP} (fE:∀ g o,h.get g=some o→oW P w c g o) {k:Key} {es:List (List PV)} (hr:h.rowAt k=some es) :
  ∃ e xs,jB P w c k e es (match k with | .top g=>eL P w c g (h.Ft k) | .sub _ _ _=>fun _ _ pv v=>RF w c.S pv v) xs:=by
 cases k with
 | top g =>
   simp only [HP.rowAt] at hr
   split at hr
   ·rename_i e J es' hg
    injection hr with hr;subst hr
    obtain ⟨xs,r⟩:=fE g _ hg
    refine ⟨e,xs, ?_⟩
    simp only [HP.Ft,hg]
    exact r
   ·cases hr
 | sub g i j =>
   simp only [HP.rowAt] at hr
   split at hr
   case h_2=>cases hr
   rename_i e J es' hg
   split at hr
   case isFalse=>cases hr
   rename_i hJ
   split at hr
   case h_2=>cases hr
   rename_i cs hcs
   split at hr
   case h_2=>cases hr
   rename_i es2 hc
   injection hr with hr;subst hr
   obtain ⟨xs,r⟩:=fE g _ hg
   have:=r.rep i j (.sl es2) (by unfold dV;rw [hcs];exact hc)
   unfold eL at this
   cases hj:Jat J j with
   | none=>rw [hj] at hJ;cases hJ
   | some e' =>
     rw [hj] at this
     rcases this with h2 | ⟨_,es',xs',h2,r'⟩
     ·cases h2
     injection h2 with h2;subst h2
     exact ⟨e',xs',r'⟩
theorem Tc {h:HP} {k:Key} {es:List (List PV)} (hr:h.rowAt k=some es):∃ o,h.get k.tag=some o:=by
 cases k with
 | top g =>
   simp only [HP.rowAt] at hr
   split at hr
   ·exact ⟨_,by assumption⟩
   ·cases hr
 | sub g i j =>
   simp only [HP.rowAt] at hr
   split at hr
   ·exact ⟨_,by assumption⟩
   ·cases hr
theorem Mz {P:Program} {w:World} {c:Ctx} {S:Nat→Prop} {h:HP} {k:Key} (hS:∀ b,c.S b→S b) (hb:∀ k':Key,k'.tag=k.tag→c.D k'→S (c.τ k')) (i j:Nat) (pv:PV) (v:Value)
  (hr:(match k with | .top g=>eL P w c g (h.Ft k) | .sub _ _ _=>fun _ _ pv v=>RF w c.S pv v) i j pv v):RF w S pv v:=by
 cases k with
 | top g=>exact Zt hS hb i j pv v hr
 | sub g i' j'=>exact RF.same (w:=w) (fun _ _=>rfl) hS hr
theorem rZ (h:HP):∀ (n:Nat) (l:List PV),(PV.Km h n l).length=l.length
 | 0,l=>by simp [PV.Km]
 | n+1,[]=>by simp [PV.Km]
 | n+1,c::cs=>by simp [PV.Km,rZ h n cs]
theorem LK {P:Program} {w:World} {c:Ctx} {h:HP} {S:Nat→Prop} (hS:∀ b,c.S b→S b) (fE:∀ g o,h.get g=some o→oW P w c g o) (hb:∀ g o,h.get g=some o→∀ k:Key,k.tag=g→c.D k→S (c.τ k)) :
  ∀ n,(∀ pv v,RV P w c pv v→RF w S (PV.view h n pv) v)∧(∀ (cs:List PV) (vf:Nat→Value),(∀ (i:Nat) pv,cs[i]?=some pv→RV P w c pv (vf i))→∀ (i:Nat) pv,(PV.Km h n cs)[i]?=some pv→RF w S pv (vf i))
 | 0=>⟨fun pv v _=>by rw [PV.view];exact .undef v,fun cs vf _ i pv hg=>by
     simp only [PV.Km,p8,s6] at hg
     obtain ⟨_,_,rfl⟩:=hg
     exact .undef _⟩
 | n+1=>by
   obtain ⟨ih1,ih2⟩:=LK hS fE hb n
   have row:∀ (k:Key) (e:Nat) (es:List (List PV)),h.rowAt k=some es→RF w S (.sl es) (c.hd k):=fun k e es hr=>by
    obtain ⟨e',xs,r⟩:=rA fE hr
    obtain ⟨o,ho⟩:=Tc hr
    exact Yc r (fun i j pv v=>Mz hS (hb _ o ho) i j pv v) fun b hb'=>by obtain ⟨q1,rfl⟩:=r.blk b hb';exact hb _ o ho _ rfl q1
   refine ⟨fun pv v r=>?_,fun cs vf hr i pv hg=>?_⟩
   ·cases r with
    | free pv v hf =>
      have hf':=hf.same (w':=w) (S':=S) (fun _ _=>rfl) hS
      cases hf with
      | nl=>rw [PV.view];exact RF.Tj w S
      | agg cs vs hn hr=>rw [PV.view];exact .agg _ vs (by rw [rZ,hn]) (ih2 cs _ fun i pv hg=>.free _ _ (hr i pv hg))
      | tup cs vs hn hr=>rw [PV.view];exact .tup _ vs (by rw [rZ,hn]) (ih2 cs _ fun i pv hg=>.free _ _ (hr i pv hg))
      | fn f cs vs hn hr=>rw [PV.view];exact .fn f _ vs (by rw [rZ,hn]) (ih2 cs _ fun i pv hg=>.free _ _ (hr i pv hg))
      | undef=>rw [PV.view] <;> first | exact hf' | (intros;simp_all;done)
      | lit=>rw [PV.view] <;> first | exact hf' | (intros;simp_all;done)
      | fmap=>rw [PV.view] <;> first | exact hf' | (intros;simp_all;done)
      | sl=>rw [PV.view] <;> first | exact hf' | (intros;simp_all;done)
      | vptr=>rw [PV.view] <;> first | exact hf' | (intros;simp_all;done)
    | row k e he _ =>
      rw [PV.view]
      simp only [PV.elems]
      cases hr:h.rowAt k with
      | none=>exact .undef _
      | some es=>exact row k e es hr
    | part k e lo m A cc he hn hA =>
      rw [PV.view]
      simp only [PV.elems]
      cases hr:h.rowAt k with
      | none=>exact .undef _
      | some es =>
        simp only []
        split
        ·rename_i es' he'
         split at he'
         ·rename_i hfit
          injection he' with he';subst he'
          obtain ⟨e',xs,r⟩:=rA fE hr
          obtain rfl:e'=e:=r.ty.symm.trans he
          obtain ⟨o,ho⟩:=Tc hr
          exact NG r (fun i j pv v=>Mz hS (hb _ o ho) i j pv v) (fun b hb'=>by obtain ⟨q1,rfl⟩:=r.blk b hb';exact hb _ o ho _ rfl q1) hn hA hfit
         ·cases he'
        ·exact .undef _
    | ptr g off =>
      rw [PV.view]
      split
      ·rename_i cs hg
       obtain ⟨h1,vs,T,h2,h3,h4⟩:=fE g _ hg
       have he:(⟨c.τ (.top g),off,none⟩:Addr)=(⟨c.τ (.top g),0,none⟩:Addr).add off:=by rw [add_lit];simp
       rw [he]
       refine .vptr _ off ⟨c.τ (.top g),0,none⟩ (fun j=>vs.getD j undef) (hb g _ hg _ rfl h1) (fun j pv hgj=>?_) (ih2 cs _ h4)
       have hj:j<cs.length:=by have:=cV hgj;rwa [rZ] at this
       rw [add_lit,cell_of_row w (c.τ (.top g)) (0+j) vs T (0,0) h2,I2]
       exact La (by omega)
      ·exact .undef _
    | rptr k e i off he =>
      rw [PV.view]
      cases hr:h.rowAt k with
      | none=>exact .undef _
      | some es =>
        simp only []
        cases hi:es[i]? with
        | none=>exact .undef _
        | some cs =>
          simp only []
          obtain ⟨e',xs,r⟩:=rA fE hr
          obtain rfl:e'=e:=r.ty.symm.trans he
          obtain ⟨o,ho⟩:=Tc hr
          have hx:(⟨c.τ k,i*aJ P e'+off,none⟩:Addr)=(⟨c.τ k,i*aJ P e',none⟩:Addr).add off:=(add_lit _ _ _).symm
          rw [hx]
          rcases r.own.2 with ⟨h0,hn⟩ | ⟨g2,cap,cur,h0,hb2,hg2,hnc,rest⟩
          ·have:es=[]:=H6 hn
           subst this;simp at hi
          ·have hob:(c.hd k).ownBlock=some g2:=by rw [h0];rfl
           obtain ⟨hD,hτ⟩:=r.blk g2 hob
           refine .vptr cs off ⟨c.τ k,i*aJ P e',none⟩ (fun j=>xs.getD (i*aJ P e'+j) undef) (hb _ o ho _ rfl hD) (fun j pv hg=>?_) (fun j pv hg=>?_)
           all_goals have hgE:dV es i j=some pv:=by unfold dV;rw [hi];exact hg
           ·have hlt:=jQ r.len hgE
            have:=Ct r.own hob (i*aJ P e'+j) (kX hlt.1 hlt.2)
            rw [add_lit] at this ⊢
            rw [hτ]
            rwa [I2] at this
           ·exact Mz hS (hb _ o ho) i j pv _ (r.rep i j pv hgE)
    | mp g =>
      rw [PV.view]
      split
      ·rename_i m hg
       obtain ⟨h1,h2⟩:=fE g _ hg
       exact .fmap m _ (hb g _ hg _ rfl h1) h2
      ·exact .undef _
    | agg cs vs hn hr=>rw [PV.view];exact .agg _ vs (by rw [rZ,hn]) (ih2 cs _ hr)
    | tup cs vs hn hr=>rw [PV.view];exact .tup _ vs (by rw [rZ,hn]) (ih2 cs _ hr)
    | fn f cs vs hn hr=>rw [PV.view];exact .fn f _ vs (by rw [rZ,hn]) (ih2 cs _ hr)
   ·cases cs with
    | nil=>simp [PV.Km] at hg
    | cons x cs =>
      rw [PV.Km] at hg
      cases i with
      | zero=>simp at hg;subst hg;exact ih1 _ _ (hr 0 x (by simp))
      | succ i=>exact ih2 cs (fun i=>vf (i+1)) (fun i pv hg=>hr (i+1) pv (by simpa using hg)) i pv (by simpa using hg)
structure Ent where
 w:World
 M:Nat→Prop
 hM:∀ b,w.heap.size≤b→M b
 c:Ctx
structure Ent.Fr (E:Ent) (w:World):Prop where
 os:w.os=E.w.os
 tape:w.tape=E.w.tape
 output:w.output=E.w.output
 size:E.w.heap.size≤w.heap.size
 block:∀ k,k<E.w.heap.size→¬ E.M k→w.heap[k]?=E.w.heap[k]?
theorem Ent.Fr.mine {E:Ent} {w:World} (h:E.Fr w) {b:Nat} (hb:w.heap.size≤b):E.M b:=E.hM b (J1 h.size hb)
theorem Ent.Fr.below {E:Ent} {w w':World} (h:E.Fr w) (hb:Below w.heap.size w w'):E.Fr w':=
 ⟨hb.os.trans h.os,hb.tape.trans h.tape,hb.output.trans h.output,J1 h.size hb.size,fun k hk hm=>(hb.block k (D8 hk h.size)).trans (h.block k hk hm)⟩
def Pinned (c0 c:Ctx):Prop:=∀ g,PIN≤g→Agree c0 c (.top g)
def enters (P:Program) (f:FuncId):Bool:=match P.funcs[f]? with | some fn=>fn.body.isSome&&!(fn.name == "runtime.NumGoroutine") | none=>false
def QI (P:Program):Option Nat:=if P.globals.size=0 then none else some 0
def EG (P:Program) (M:Nat→Prop) (w:World):Prop:=∀ b,QI P=some b→b<w.heap.size∧¬ M b∧∃ m,w.cell? ⟨b,0,none⟩=some (.int .i64 m)
theorem EG.next {P:Program} {M M':Nat→Prop} {w w':World} (h:EG P M w) (hs:w.heap.size≤w'.heap.size) (hb:∀ k,k<w.heap.size→¬ M k→w'.heap[k]?=w.heap[k]?) (hM:∀ b,M' b→M b∨w'.heap.size≤b):EG P M' w':=fun b hg=>by
 obtain ⟨q1,q2,m,q3⟩:=h b hg
 exact ⟨D8 q1 hs,fun hm=>by rcases hM b hm with q | q;exact q2 q;omega,m,(World.cell?_of_block (hb b q1 q2)).trans q3⟩
def PC (P:Program) (f:FuncId) (args:List PV) (H0:HP) (r:PV) (H1:HP):Prop:=
 enters P f=true∧∀ (w:World) (c:Ctx) (vals:List Value),EG P (fun b=>w.heap.size≤b∨∃ k,c.D k∧c.τ k=b) w→c.Ok (fun _=>True) w→(∀ g o,H0.get g=some o→oW P w c g o)→vals.length=args.length→(∀ (i:Nat) pv,args[i]?=some pv→RV P w c pv (vals.getD i undef)) →
  Calls P f vals.toArray w fun e w'=>∃ v c',e=.returned v∧Ent.Fr ⟨w,fun b=>w.heap.size≤b∨∃ k,c.D k∧c.τ k=b,fun _ h=>.inl h,c⟩ w'∧(∀ b,c.S b→c'.S b)∧(∀ b,c'.S b→c.S b∨w.heap.size≤b∨∃ k,c.D k∧c.τ k=b) ∧
   c'.Ok (fun b=>w.heap.size≤b∨∃ k,c.D k∧c.τ k=b) w'∧Pinned c c'∧RV P w' c' r v∧∀ g o,H1.get g=some o→oW P w' c' g o
structure Inv (P:Program) (E:Ent) (S0:Nat→Prop) (N:Nat) (σ:St) (a:Act) (w:World) (c:Ctx):Prop where
 below:E.Fr w
 ok:c.Ok E.M w
 sub:∀ b,S0 b→c.S b
 sup:∀ b,c.S b→S0 b∨E.M b
 slots:∀ i,RV P w c (σ.get i) (a.tmps.getD i undef)
 fE:∀ g o,σ.hget g=some o→oW P w c g o
 pin:Pinned E.c c
 small:N≤PIN∧EG P E.M E.w
 size:a.tmps.size=N
 defers:a.defers=[]
theorem get_map (f:PV→PV) (hf:f .undef=.undef) (s:SL) (k:Nat):(s.map f).get k=f (s.get k):=by
 induction s with
 | nil=>simp [SL.map,SL.get,hf]
 | cons x s ih =>
   obtain ⟨i,v⟩:=x
   simp only [SL.map,SL.get]
   split <;> simp [ih]
theorem Fk (s:St) (d k:Nat) (v:PV):(s.set d v).get k=if d=k then v else s.get k:=by simp only [St.set,St.get,SL.get,eq_comm]
theorem Xb (s:St) (d g:Nat) (v:PV):(s.set d v).hget g=s.hget g:=rfl
theorem CC (s:St) (g k:Nat) (o:HO):(s.put g o).get k=s.get k:=rfl
theorem eH (s:St) (g k:Nat) (o:HO):(s.put g o).hget k=if k=g then some o else s.hget k:=by
 simp only [St.put,St.hget,HP.get]
 by_cases h:k=g
 ·subst h;simp
 ·have:E4 k g=false:=by cases hq:E4 k g with | false=>rfl | true=>exact absurd (t7 hq) h
  simp [h,this]
theorem Jy (p:Key→Bool) (s:St) (k:Nat):(s.kill p).get k=(s.get k).kill p:=get_map _ rfl _ _
theorem EP (p:Key→Bool) (h:HP) (g:Nat):(h.kill p).get g=if p (.top g)=true then none else (h.get g).map (HO.kill p):=by
 induction h with
 | nil=>simp [HP.kill,HP.get]
 | cons x h ih =>
   obtain ⟨g',o⟩:=x
   simp only [HP.kill]
   by_cases e:g=g'
   ·subst e
    split
    ·rename_i hp;rw [ih];simp [hp]
    ·rename_i hp;simp [HP.get,hp]
   ·have hb:E4 g g'=false:=by cases hq:E4 g g' with | false=>rfl | true=>exact absurd (t7 hq) e
    split
    ·rw [ih];simp [HP.get,hb]
    ·simp only [HP.get,hb,j9,if_false];rw [ih]
theorem Aq (p:Key→Bool) (s:St) (g:Nat):(s.kill p).hget g=if p (.top g)=true then none else (s.hget g).map (HO.kill p):=EP p s.h g
theorem SU (a:Act) (d:Option Nat) (v:Value):(a.put d v).tmps.size=a.tmps.size:=by cases d <;> simp [Act.put]
theorem put_defers (a:Act) (d:Option Nat) (v:Value):(a.put d v).defers=a.defers:=by cases d <;> rfl
theorem KX (a:Act) (d:Nat) (v:Value) (k:Nat) (h:d<a.tmps.size):(a.put (some d) v).tmps.getD k undef=if d=k then v else a.tmps.getD k undef:=by
 simp only [Act.put,o7,J7]
 by_cases hk:d=k
 ·subst hk;simp [h]
 ·simp [hk]
def mU (σ:St) (d:Option Nat) (v:PV):St:=match d with | some d=>σ.set d v | none=>σ
section
variable {P:Program} {E:Ent} {S0:Nat→Prop} {N:Nat} {σ:St} {a:Act} {w:World} {c:Ctx}
theorem Inv.put (h:Inv P E S0 N σ a w c) (d:Option Nat) (hd:∀ k,d=some k→k<N) {pv:PV} {v:Value} (r:RV P w c pv v) :
  Inv P E S0 N (mU σ d pv) (a.put d v) w c:=by
 refine ⟨h.below,h.ok,h.sub,h.sup,fun i=>?_, ?_,h.pin,h.small,by rw [SU,h.size],by rw [put_defers,h.defers]⟩
 ·cases d with
  | none=>exact h.slots i
  | some d =>
    rw [KX a d v i (by rw [h.size];exact hd d rfl)]
    simp only [mU,Fk]
    split
    ·exact r
    ·exact h.slots i
 ·cases d with
  | none=>exact h.fE
  | some d=>exact h.fE
theorem Inv.step (h:Inv P E S0 N σ a w c) {w':World} {c':Ctx} (p:Key→Bool) (X:Nat→Prop) (hfr:E.Fr w') (ok:c'.Ok E.M w') (hS:Ga c.S w w') (hSS:∀ b,c.S b→c'.S b) (hsup:∀ b,c'.S b→S0 b∨E.M b)
  (hpin:∀ k,PIN≤k.tag→p k=true→k.QW=false) (hag:∀ k,p k=false→Agree c c' k) (hD:∀ k,c.D k→¬ X k.tag→w'.heap[c.τ k]?=w.heap[c.τ k]?∧c'.D k) (hX:∀ k,p k=true→X k.tag)
  {σ':St} (hslots:σ'.s=(σ.kill p).s) (hobjs:∀ g o,¬ X g→σ'.hget g=some o→(σ.kill p).hget g=some o) (hnew:∀ g o,X g→σ'.hget g=some o→oW P w' c' g o):Inv P E S0 N σ' a w' c':=by
 refine ⟨hfr,ok,fun b hb=>hSS b (h.sub b hb),hsup,fun i=>?_,fun g o hg=>?_,fun g hg=>?_,h.small,h.size,h.defers⟩
 ·have:σ'.get i=(σ.kill p).get i:=by unfold St.get;rw [hslots]
  rw [this,Jy]
  exact (h.slots i).Bm hS hSS hag
 ·by_cases hx:X g
  ·exact hnew g o hx hg
  ·have hg':=hobjs g o hx hg
   rw [Aq] at hg'
   split at hg'
   ·cases hg'
   ·simp only [s6] at hg'
    obtain ⟨o',ho',rfl⟩:=hg'
    refine (h.fE g o' ho').Bm hS hSS hag (fun k hk=>?_) fun k hk hDk=>hD k hDk (hk ▸ hx)
    cases hp:p k with
    | false=>rfl
    | true=>exact absurd (hk ▸ hX k hp) hx
 ·have hp:p (.top g)=false:=by
   cases hq:p (.top g) with
   | false=>rfl
   | true=>have:=hpin (.top g) hg hq;cases this
  obtain ⟨q1,q2,q3⟩:=h.pin g hg
  obtain ⟨r1,r2,r3⟩:=hag _ hp
  exact ⟨r1.trans q1,r2.trans q2,r3.trans q3⟩
theorem Inv.ext (h:Inv P E S0 N σ a w c) {w':World} (hb:Below w.heap.size w w'):Inv P E S0 N σ a w' c:=
 have _hsz:=h.below.size
 have hS:Ga c.S w w':=fun b hS=>hb.block b (h.ok.hS b hS)
 ⟨h.below.below hb,⟨fun b hS=>D8 (h.ok.hS b hS) hb.size,fun k hg=>⟨(h.ok.hD k hg).1,D8 (h.ok.hD k hg).2.1 hb.size,(h.ok.hD k hg).2.2⟩,h.ok.inj⟩,h.sub,h.sup,
  fun i=>(h.slots i).Fm hS (fun _ h=>h) fun k=>Agree.refl c k,fun g o hg=>(h.fE g o hg).Fm hS (fun _ h=>h) (fun k=>Agree.refl c k) fun k _ hD=>⟨hb.block _ (h.ok.hD k hD).2.1,hD⟩,h.pin,h.small,h.size,h.defers⟩
theorem Inv.more (h:Inv P E S0 N σ a w c) (S':Nat→Prop) (h1:∀ b,c.S b→S' b) (h2:∀ b,S' b→b<w.heap.size)
  (h3:∀ b,S' b→S0 b∨E.M b) (h4:∀ k,c.D k→¬ S' (c.τ k)):Inv P E S0 N σ a w ⟨S',c.τ,c.hd,c.ty,c.D⟩:=
 ⟨h.below,⟨h2,fun k hg=>⟨(h.ok.hD k hg).1,(h.ok.hD k hg).2.1,h4 k hg⟩,h.ok.inj⟩,fun b hb=>h1 b (h.sub b hb),h3,
  fun i=>(h.slots i).Fm (c':=⟨S',c.τ,c.hd,c.ty,c.D⟩) (fun _ _=>rfl) h1 fun k=>⟨rfl,rfl,rfl⟩,fun g o hg=>(h.fE g o hg).Fm (c':=⟨S',c.τ,c.hd,c.ty,c.D⟩) (fun _ _=>rfl) h1 (fun k=>⟨rfl,rfl,rfl⟩) fun k _ hD=>⟨rfl,hD⟩,h.pin,h.small,h.size,h.defers⟩
theorem Inv.weak (h:Inv P E S0 N σ a w c) {σ':St} (hs:∀ i,σ'.get i=.undef∨σ'.get i=σ.get i) (ho:∀ g o,σ'.hget g=some o→σ.hget g=some o):Inv P E S0 N σ' a w c:=
 ⟨h.below,h.ok,h.sub,h.sup,fun i=>by rcases hs i with e | e <;> rw [e];exact .free _ _ (.undef _);exact h.slots i,fun g o hg=>h.fE g o (ho g o hg),h.pin,h.small,h.size,h.defers⟩
end
end Go.VI
namespace Go.VI
open Go.RowKit
theorem HN (w:World) (S:Nat→Prop) (v:Value):RF w S (ofC v) v:=by
 unfold ofC
 split
 ·exact .nl
 ·exact .undef _
 ·exact .undef _
 ·exact .lit _
theorem HQ (w:World) (S:Nat→Prop) (v:Value):RF w S (ofV v) v:=by
 cases v with
 | agg cs =>
   refine .agg _ cs (by simp) fun i pv hg=>?_
   simp only [p8] at hg
   cases hc:cs.toList[i]? with
   | none=>simp [hc] at hg
   | some u =>
     simp [hc] at hg
     subst hg
     have:cs.getD i Go.undef=u:=by
      rw [w9] at hc
      simp [o7,hc]
     rw [this]
     exact HN w S u
 | tuple vs =>
   simp only [ofV]
   split
   ·rename_i h
    have:vs=#[]:=by simpa using h
    subst this
    exact .lit _
   ·exact .undef _
 | func f first caps =>
   simp only [ofV]
   cases f with
   | func f =>
     simp only []
     split
     ·rename_i h
      have h1:first=#[]:=by simpa using h.1
      have h2:caps=#[]:=by simpa using h.2
      subst h1 h2
      exact .fn _ [] #[] rfl (by simp)
     ·exact .undef _
   | _=>exact HN w S _
 | _=>simp only [ofV];exact HN w S _
theorem RX (w:World) (S:Nat→Prop) (v:Value):RF w S (ofE v) v:=by
 unfold ofE
 split
 ·exact RF.Tj _ _
 ·exact .undef _
 ·exact .undef _
 ·exact .lit _
def Ctx.lay (c:Ctx) (g b:Nat) (v:Value) (e:TypeId) (q:Prop) (J:List (Nat×Nat):=[]):Ctx:=
 ⟨c.S,fun k=>if k=.top g then b else c.τ k,fun k=>if k=.top g then v else if k.tag=g then .slice none 0 0 else c.hd k,
  fun k=>if k=.top g then e else match k with | .sub g' _ j=>if g'=g then (Jat J j).getD 0 else c.ty k | k=>c.ty k,fun k=>if k.tag=g then k=.top g∧q else c.D k⟩
section
variable {c:Ctx} {g b:Nat} {v:Value} {e:TypeId} {q:Prop} {w:World} {J:List (Nat×Nat)}
theorem dP:(c.lay g b v e q J).τ (.top g)=b∧(c.lay g b v e q J).hd (.top g)=v∧(c.lay g b v e q J).ty (.top g)=e∧((c.lay g b v e q J).D (.top g)↔q):=by
 simp [Ctx.lay,Key.tag]
theorem kO {k:Key} (h:k.tag≠g):Agree c (c.lay g b v e q J) k:=by
 have:k≠.top g:=by rintro rfl;exact h rfl
 cases k with
 | top g'=>simp [Agree,Ctx.lay,this,h]
 | sub g' i j=>simp only [Key.tag] at h;simp [Agree,Ctx.lay,h,Key.tag]
theorem VV {i j:Nat}:(c.lay g b v e q J).hd (.sub g i j)=.slice none 0 0∧(c.lay g b v e q J).ty (.sub g i j)=(Jat J j).getD 0:=by
 simp [Ctx.lay,Key.tag]
theorem Gr {k:Key} (h:k.tag≠g):(c.lay g b v e q J).D k↔c.D k:=by simp [Ctx.lay,h]
theorem Iz {B:Nat→Prop} {w':World} (ok:c.Ok B w) (hsz:w.heap.size≤w'.heap.size) (hb:q→B b∧b<w'.heap.size∧¬ c.S b) (hne:q→∀ k',k'.tag≠g→c.D k'→c.τ k'≠b):(c.lay g b v e q J).Ok B w':=by
 refine ⟨fun b hS=>D8 (ok.hS b hS) hsz,fun k hk=>?_,fun k1 k2 h1 h2 he=>?_⟩
 ·by_cases e:k.tag=g
  ·simp only [Ctx.lay,e,if_true] at hk
   obtain ⟨rfl,hq⟩:=hk
   simpa [Ctx.lay] using hb hq
  ·have hk':=(Gr e).1 hk
   rw [(kO e).1]
   exact ⟨(ok.hD k hk').1,D8 (ok.hD k hk').2.1 hsz,(ok.hD k hk').2.2⟩
 ·by_cases e1:k1.tag=g <;> by_cases e2:k2.tag=g
  ·simp only [Ctx.lay,e1,e2,if_true] at h1 h2
   rw [h1.1,h2.1]
  ·simp only [Ctx.lay,e1,if_true] at h1
   obtain ⟨rfl,hq⟩:=h1
   rw [dP.1,(kO e2).1] at he
   exact absurd he.symm (hne hq k2 e2 ((Gr e2).1 h2))
  ·simp only [Ctx.lay,e2,if_true] at h2
   obtain ⟨rfl,hq⟩:=h2
   rw [dP.1,(kO e1).1] at he
   exact absurd he (hne hq k1 e1 ((Gr e1).1 h1))
  ·rw [(kO e1).1,(kO e2).1] at he
   exact ok.inj _ _ ((Gr e1).1 h1) ((Gr e2).1 h2) he
end
theorem gE {g:Nat} {k:Key}:dU g k=true↔k.tag=g:=by
 unfold dU
 exact ⟨t7,fun h=>by subst h;simp⟩
theorem lS {g:Nat} {k:Key}:dU g k=false↔k.tag≠g:=by
 rw [← Bool.not_eq_true];exact not_congr gE
section
variable {P:Program} {E:Ent} {S0:Nat→Prop} {N:Nat} {σ:St} {a:Act} {w:World} {c:Ctx}
theorem Inv.ev (h:Inv P E S0 N σ a w c) (x:Operand):RV P w c (pev σ x) (a.eval x):=by
 cases x with
 | tmp t=>exact h.slots t
 | const v=>exact .free _ _ (HQ w _ v)
 | global g=>exact .free _ _ (.undef _)
 | func f=>exact .free _ _ (.fn f [] #[] rfl (by simp))
def vJ (P:Program) (E:Ent) (S0:Nat→Prop) (N:Nat) (o:Oper) (a:Act) (w:World) (σ':St):Prop:=
 ∀ (next:Act→World→Prop) (Q:Exit→Act→World→Prop),(∀ a' w' c',Inv P E S0 N σ' a' w' c'→next a' w')→o.wp P a w next Q
theorem put_eq (σ:St) (d:Option Nat) (r:Res):r.put σ d=mU (r.base σ) d r.v:=by cases d <;> rfl
theorem mQ {o:Oper} {r:Res} {v:Value} {w':World} {c':Ctx} (hd:∀ k,o.dst=some k→k<N)
  (hrun:(execOp a.eval o).run P w=.ok (.value v) w'∨((execOp a.eval o).run P w=.ok .skip w'∧v=undef))
  (inv1:Inv P E S0 N (r.base σ) a w' c') (rv:RV P w' c' r.v v):vJ P E S0 N o a w (r.put σ o.dst):=by
 intro next Q hn
 unfold Oper.wp
 have fin:next (a.put o.dst v) w':=by
  refine hn _ _ c' ?_
  rw [put_eq]
  exact inv1.put o.dst hd rv
 rcases hrun with hrun | ⟨hrun,rfl⟩
 ·rw [hrun,Oper.upon_value];exact fin
 ·rw [hrun,Oper.upon_skip];exact fin
theorem bY {o:Oper} {pv:PV} {v:Value} (h:Inv P E S0 N σ a w c) (hd:∀ k,o.dst=some k→k<N) (hrun:(execOp a.eval o).run P w=.ok (.value v) w) (r:RV P w c pv v) :
 vJ P E S0 N o a w (Res.put σ o.dst (.val pv)):=mQ hd (.inl hrun) h r
theorem Js {o:Oper} {d:Nat} {ob:HO} {pv:PV} {v:Value} {w':World} {c':Ctx} (hdN:d<PIN) (h:Inv P E S0 N σ a w c) (hd:∀ k,o.dst=some k→k<N) (hrun:(execOp a.eval o).run P w=.ok (.value v) w')
  (hb:Below w.heap.size w w') (ok:c'.Ok E.M w') (hs:∀ b,c'.S b↔c.S b)
  (hc:∀ k,k.tag≠d→Agree c c' k∧(c.D k→c'.D k)) (hob:oW P w' c' d ob) (r:RV P w' c' pv v) :
  vJ P E S0 N o a w (Res.put σ o.dst (.new d ob pv)):=by
 refine mQ hd (.inl hrun) (c':=c') ?_ r
 refine h.step (dU d) (·=d) (h.below.below hb) ok (fun b hS=>hb.block b (h.ok.hS b hS)) (fun b hS=>(hs b).2 hS) (fun b hS=>h.sup b ((hs b).1 hS)) (fun k hk hp=>?_) (fun k hk=>(hc k (lS.1 hk)).1) (fun k hD hx=>⟨hb.block _ (h.ok.hD k hD).2.1,(hc k hx).2 hD⟩)
  (fun k hk=>gE.1 hk) rfl (fun g o hx hg=>?_) (fun g o hx hg=>?_)
 ·rw [gE.1 hp] at hk;omega
 ·simp only [Res.new,Res.base,y8,G2,eH] at hg
  rwa [if_neg hx] at hg
 ·simp only [Res.new,Res.base,y8,G2,eH] at hg
  rw [if_pos hx] at hg
  injection hg with hg
  subst hg hx
  exact hob
theorem Td {t:TypeId} {b:Bool} (h:Hm P t=some b) (w:World):(isAgg t).run P w=.ok b w:=by
 unfold Hm at h
 unfold isAgg
 cases hu:P.underlying t with
 | none=>simp [hu] at h
 | some d =>
   rw [hu] at h
   simp only [o5,run_underlying hu,m6]
   cases d <;> simp at h <;> subst h <;> rfl
theorem Ar {t:TypeId} {b:Bool} (h:Hm P t=some b):∃ i,P.info? t=some i:=by
 unfold Hm Program.underlying at h
 cases hi:P.info? t with
 | none=>simp [hi] at h
 | some i=>exact ⟨i,rfl⟩
theorem run_sizeOf {t:TypeId} (h:∃ i,P.info? t=some i) (w:World):(sizeOf t).run P w=.ok (aJ P t) w:=by
 obtain ⟨i,hi⟩:=h
 simp [sizeOf,typeInfo,hi,aJ,Program.cellsOf]
theorem run_loadCellsFrom (ad:Addr) (n:Nat):∀ (i:Nat) (acc:Array Value) (vf:Nat→Value),(∀ j,j<n→w.cell? (ad.add (i+j))=some (vf j)) →
  (loadCellsFrom ad i n acc).run P w=.ok (acc++((s9 n).map vf).toArray) w:=by
 induction n with
 | zero=>intro i acc vf _;simp [loadCellsFrom]
 | succ n ih =>
   intro i acc vf h
   have h0:w.cell? (ad.add i)=some (vf 0):=h 0 (by omega)
   simp only [loadCellsFrom,o5,load,L3,h0,m6]
   rw [ih (i+1) (acc.push (vf 0)) (fun j=>vf (j+1)) (fun j hj=>by have:=h (j+1) (by omega);rwa [show i+1+j=i+(j+1) from by omega])]
   simp [List.range_succ_eq_map,Function.comp_def]
theorem Uw {t:TypeId} (h:Hm P t=some true) (ad:Addr) (vf:Nat→Value) (hc:∀ j,j<aJ P t→w.cell? (ad.add j)=some (vf j)) :
  (loadVar t ad).run P w=.ok (.agg ((s9 (aJ P t)).map vf).toArray) w:=by
 simp only [loadVar,o5,Td h,m6,if_true,run_sizeOf (Ar h),loadCells]
 rw [run_loadCellsFrom ad (aJ P t) 0 #[] vf (by simpa using hc)]
 simp
theorem Te {t:TypeId} (h:Hm P t=some false) (ad:Addr) {v:Value} (hc:w.cell? ad=some v):(loadVar t ad).run P w=.ok v w:=by
 simp [loadVar,o5,Td h,m6,load,L3,hc]
theorem Ud {cs l:List PV} {off n:Nat} (h:range? cs off n=some l):off+n≤cs.length∧l.length=n∧∀ i pv,l[i]?=some pv→cs[off+i]?=some pv:=by
 unfold range? at h
 split at h
 ·rename_i hh
  injection h with h
  subst h
  refine ⟨hh,by simp;omega,fun i pv hg=>?_⟩
  rw [D9] at hg
  split at hg
  ·rwa [E8] at hg
  ·cases hg
 ·cases h
theorem Vh {t:TypeId} {agg:Bool} (hagg:Hm P t=some agg) {cs:List PV} {off:Nat} {pv:PV} (ad:Addr) (vf:Nat→Value)
  (hc:∀ (i:Nat) p,cs[i]?=some p→w.cell? (ad.add i)=some (vf i)∧RV P w c p (vf i)) (h:(if agg then (range? cs off (aJ P t)).map PV.agg else cs[off]?)=some pv) :
  ∃ v,(loadVar t (ad.add off)).run P w=.ok v w∧RV P w c pv v:=by
 cases agg with
 | true =>
   simp only [if_true] at h
   cases hr:range? cs off (aJ P t) with
   | none=>simp [hr] at h
   | some l =>
     simp [hr] at h
     subst h
     obtain ⟨h1,h2,h3⟩:=Ud hr
     have get:∀ j,j<aJ P t→∃ p,cs[off+j]?=some p:=fun j hj=>⟨cs[off+j]'(by omega),l8 (by omega)⟩
     refine ⟨_,Uw hagg _ (fun j=>vf (off+j)) (fun j hj=>?_),.agg l _ (by simp [h2]) fun i p hg=>?_⟩
     ·obtain ⟨p,hp⟩:=get j hj
      rw [add_add];exact (hc _ p hp).1
     ·have hi:i<aJ P t:=by
       rcases G3 i l.length with hh | hh
       ·omega
       ·rw [s5 hh] at hg;cases hg
      have hv:(((s9 (aJ P t)).map fun j=>vf (off+j)).toArray).getD i Go.undef=vf (off+i):=by simp [hi]
      rw [hv]
      exact (hc _ p (h3 i p hg)).2
 | false =>
   simp only [j9,if_false] at h
   exact ⟨_,Te hagg _ (hc _ pv h).1,(hc _ pv h).2⟩
theorem Ki (g i:Nat):∀ (J:List (Nat×Nat)) (cs:List PV),(owned g i J cs).length=cs.length
 | [],_=>rfl
 | (j,e)::J,cs=>by
   simp only [owned]
   split
   ·exact Ki g i J cs
   ·rw [v8];exact Ki g i J cs
theorem AV (g i:Nat):∀ (J:List (Nat×Nat)) (cs:List PV) (j:Nat),(owned g i J cs)[j]?=match Jat J j with
  | some e=>(match cs[j]? with
    | some .undef=>some .undef
    | some _=>some (.row (.sub g i j) e)
    | none=>none)
  | none=>cs[j]?
 | [],cs,j=>rfl
 | (j0,e)::J,cs,j=>by
   have ih:=AV g i J cs j
   simp only [owned,Jat]
   by_cases h:j0=j
   ·subst h
    simp only [Nat.beq_refl,if_true]
    cases hc:cs[j0]? with
    | none =>
      simp only
      rw [s5]
      rw [v8,Ki]
      exact List.getElem?_eq_none_iff.1 hc
    | some pv =>
      have hl:=cV hc
      cases pv with
      | undef =>
        simp only
        rw [hc] at ih
        cases hJ:Jat J j0 <;> rw [hJ] at ih <;> exact ih
      | _=>simp only;rw [List.getElem?_set_self (by rw [Ki];exact hl)]
   ·have hb:E4 j j0=false:=by cases hq:E4 j j0 with | false=>rfl | true=>exact absurd (t7 hq).symm h
    rw [hb]
    simp only [j9,if_false]
    rw [← ih]
    split
    ·rfl
    ·rw [K2 h]
theorem SW (h:HP) (g i j:Nat):h.Ft (.sub g i j)=[]:=rfl
theorem GU {h:HP} (fE:∀ g o,h.get g=some o→oW P w c g o) {k:Key} {e i:Nat} (he:c.ty k=e) {cs:List PV} (hc:h.elem k i=some cs) :
  cs.length=aJ P e∧∃ vf:Nat→Value,∀ (j:Nat) q,cs[j]?=some q→w.cell? (⟨c.τ k,i*aJ P e+j,none⟩)=some (vf j)∧RV P w c q (vf j):=by
 unfold HP.elem at hc
 cases hr:h.rowAt k with
 | none=>rw [hr] at hc;cases hc
 | some es =>
   rw [hr] at hc
   simp only [s6] at hc
   obtain ⟨l,hl,rfl⟩:=hc
   obtain ⟨e',xs,r⟩:=rA fE hr
   obtain rfl:e'=e:=r.ty.symm.trans he
   have hlen:=r.len l (m5 hl)
   have hol:(owned k.tag i (h.Ft k) l).length=l.length:=Ki _ _ _ _
   refine ⟨by rw [hol,hlen],fun j=>xs.getD (i*aJ P e'+j) undef,fun j q hq=>?_⟩
   have hj:j<l.length:=by have:=cV hq;rwa [hol] at this
   have hgE:dV es i j=some l[j]:=by unfold dV;rw [hl];simp [hj]
   have hlt:=jQ r.len hgE
   refine ⟨?_, ?_⟩
   ·rcases r.own.2 with ⟨h0,hn⟩ | ⟨g2,cap,cur,h0,hb2,hg2,hnc,rest⟩
    ·omega
    ·have hob:(c.hd k).ownBlock=some g2:=by rw [h0];rfl
     obtain ⟨_,hτ⟩:=r.blk g2 hob
     have:=Ct r.own hob (i*aJ P e'+j) (kX hlt.1 hlt.2)
     rw [add_lit,I2] at this
     rw [hτ];exact this
   ·have hcell:=r.rep i j _ hgE
    rw [AV] at hq
    cases k with
    | top g =>
      simp only [eL] at hcell
      cases hJ:Jat (h.Ft (.top g)) j with
      | none =>
        rw [hJ] at hq hcell
        simp only [l8 hj,n9] at hq
        subst hq
        exact .free _ _ hcell
      | some e2 =>
        rw [hJ] at hq hcell
        rw [l8 hj] at hq
        rcases hcell with hcell | ⟨h1,es',xs',hcell,r'⟩
        ·rw [hcell] at hq
         obtain rfl:=w7 hq
         exact .free _ _ (.undef _)
        rw [hcell] at hq
        obtain rfl:=w7 hq
        show RV P w c (.row (.sub g i j) e2) (xs.getD (i*aJ P e'+j) undef)
        rw [h1]
        exact .row _ e2 r'.ty r'.Bk
    | sub g i' j' =>
      rw [SW] at hq
      simp only [Jat,l8 hj,n9] at hq
      subst hq
      exact .free _ _ hcell
theorem Xz {t:TypeId} {agg:Bool} (hagg:Hm P t=some agg) (h:Inv P E S0 N σ a w c) {p pv:PV} {v:Value} (r:RV P w c p v) (hp:Gu agg (aJ P t) σ.h p=some pv) :
  ∃ u,(Instr.loadAt t v).run P w=.ok u w∧RV P w c pv u:=by
 unfold Gu at hp
 cases r with
 | free pv v hf =>
   cases hf with
   | vptr cs off ad vf hS hcell hr =>
     simpa [Instr.loadAt,Instr.sureAddr] using Vh hagg ad vf (fun i q hg=>⟨hcell i q hg,.free _ _ (hr i q hg)⟩) hp
   | _=>simp at hp
 | ptr g off =>
   simp only at hp
   cases hg:σ.h.get g with
   | none=>simp [hg] at hp
   | some ob =>
     cases ob with
     | box cs =>
       simp only [hg] at hp
       obtain ⟨h1,vs,T,h2,h3,h4⟩:=h.fE g _ hg
       have he:(⟨c.τ (.top g),off,none⟩:Addr)=(⟨c.τ (.top g),0,none⟩:Addr).add off:=by rw [add_lit];simp
       rw [he]
       simpa [Instr.loadAt,Instr.sureAddr] using Vh hagg ⟨c.τ (.top g),0,none⟩ (fun j=>vs.getD j undef) (fun i q hq=>⟨by
        rw [add_lit,cell_of_row w (c.τ (.top g)) (0+i) vs T (0,0) h2,I2]
        exact La (by have:=cV hq;omega),h4 i q hq⟩) hp
     | _=>simp [hg] at hp
 | rptr k e i off he =>
   simp only at hp
   cases hg:σ.h.elem k i with
   | none=>simp [hg] at hp
   | some cs =>
     simp only [hg] at hp
     obtain ⟨_,vf,hcs⟩:=GU h.fE he hg
     have hx:(⟨c.τ k,i*aJ P e+off,none⟩:Addr)=(⟨c.τ k,i*aJ P e,none⟩:Addr).add off:=(add_lit _ _ _).symm
     rw [hx]
     simpa [Instr.loadAt,Instr.sureAddr] using Vh hagg ⟨c.τ k,i*aJ P e,none⟩ vf (fun j q hq=>⟨by rw [add_lit];exact (hcs j q hq).1,(hcs j q hq).2⟩) hp
 | _=>simp at hp
end
end Go.VI
namespace Go.VI
open Go.RowKit
theorem Ln (ws cs:List PV) (off:Nat):(setAt cs off ws).length=cs.length:=by
 induction ws generalizing cs off with
 | nil=>rfl
 | cons v ws ih=>rw [setAt,ih];simp
theorem Ti (ws:List PV):∀ (cs:List PV) (off i:Nat),(setAt cs off ws)[i]?=if off≤i∧i<off+ws.length∧i<cs.length then ws[i-off]? else cs[i]?:=by
 induction ws with
 | nil=>intro cs off i;simp [setAt];intros;omega
 | cons v ws ih =>
   intro cs off i
   rw [setAt,ih]
   by_cases h:i=off
   ·subst h
    by_cases hl:i<cs.length
    ·rw [if_neg (by omega)];simp [hl]
    ·have:cs[i]?=none:=by simp;omega
     simp [hl]
   ·by_cases h1:off+1≤i∧i<off+1+ws.length∧i<cs.length
    ·rw [if_pos ⟨h1.1,h1.2.1,by simpa using h1.2.2⟩,if_pos ⟨by omega,by simp;omega,h1.2.2⟩]
     have:i-off=(i-(off+1))+1:=by omega
     rw [this,J6]
    ·rw [if_neg (by rintro ⟨a,b,c⟩;exact h1 ⟨a,b,by simpa using c⟩),if_neg (by rintro ⟨a,b,c⟩;exact h1 ⟨by omega,by simp at b;omega,c⟩)]
     rw [K2 (by omega)]
theorem yR (es:List (List PV)) (i off:Nat) (ws:List PV):(setRow es i off ws).length=es.length:=by simp [setRow]
theorem Cw {es:List (List PV)} {k:Nat} (hk:∀ l ∈ es,l.length=k) (i off:Nat) (ws:List PV):∀ l ∈ setRow es i off ws,l.length=k:=by
 intro l hl
 obtain ⟨j,hj⟩:=u6.1 hl
 rw [setRow,M4] at hj
 cases he:es[j]? with
 | none=>simp [he] at hj
 | some l' =>
   have:=hk l' (m5 he)
   simp only [he,T3,s8] at hj
   split at hj
   ·simp at hj;subst hj;rw [Ln];exact this
   ·simp at hj;subst hj;exact this
theorem Pv {es:List (List PV)} {k:Nat} (hk:∀ l ∈ es,l.length=k) {i off:Nat} {ws:List PV} (a b:Nat) (pv:PV) (h:dV (setRow es i off ws) a b=some pv) :
  (a=i∧off≤b∧b<off+ws.length∧ws[b-off]?=some pv)∨(¬ (a=i∧off≤b∧b<off+ws.length)∧dV es a b=some pv):=by
 have hlt:=jQ (Cw hk i off ws) h
 unfold dV setRow at h
 rw [M4] at h
 cases he:es[a]? with
 | none=>simp [he] at h
 | some l =>
   have hl:=hk l (m5 he)
   simp only [he,T3,s8] at h
   by_cases hai:i=a
   ·simp only [hai,if_true,i9] at h
    rw [Ti] at h
    split at h
    ·rename_i hh;exact .inl ⟨hai.symm,hh.1,hh.2.1,h⟩
    ·rename_i hh
     refine .inr ⟨fun hx=>hh ⟨hx.2.1,hx.2.2,by omega⟩, ?_⟩
     unfold dV;rw [he];exact h
   ·simp only [hai,if_false,i9] at h
    refine .inr ⟨fun hx=>hai hx.1.symm, ?_⟩
    unfold dV;rw [he];exact h
theorem Ks {v:Value} (h:v.oneCell'=true):v.cells=#[v]:=by cases v <;> first | rfl | simp [Value.oneCell'] at h
theorem Yf:∀ s:SL,s.map (PV.kill vY)=s
 | []=>rfl
 | (i,v)::s=>by simp only [SL.map];rw [Co vY v (Xa v),Yf s]
theorem Xe:∀ h:HP,h.kill vY=h
 | []=>rfl
 | (g,o)::h=>by simp only [HP.kill,vY,j9,if_false];rw [CI o,Xe h]
theorem Lr (σ:St):σ.kill vY=σ:=by simp only [St.kill,Yf,Xe]
section
variable {P:Program} {E:Ent} {S0:Nat→Prop} {N:Nat} {σ:St} {a:Act} {w:World} {c:Ctx}
theorem RV.DN {pv:PV} {v:Value} (r:RV P w c pv v) (hc:pv.cell=true):v.oneCell'=true:=by
 cases r with
 | free pv v hf =>
   cases hf with
   | undef=>simp [PV.cell] at hc
   | lit=>exact hc
   | agg=>simp [PV.cell] at hc
   | tup=>simp [PV.cell] at hc
   | _=>rfl
 | row k e he h1=>exact h1
 | agg=>simp [PV.cell] at hc
 | tup=>simp [PV.cell] at hc
 | _=>rfl
theorem RV.cells {x:PV} {X:Value} (r:RV P w c x X) (h:x.cells.all PV.cell=true) :
  X.cells.size=x.cells.length∧∀ (i:Nat) pv,x.cells[i]?=some pv→RV P w c pv (X.cells.getD i undef)∧(X.cells.getD i undef).oneCell'=true:=by
 have all:∀ (i:Nat) pv,x.cells[i]?=some pv→pv.cell=true:=fun i pv hg=>p7.1 h pv (m5 hg)
 by_cases ha:∃ cs,x=.agg cs
 ·obtain ⟨cs,rfl⟩:=ha
  have main:∃ vs:Array Value,X=.agg vs∧vs.size=cs.length∧∀ (i:Nat) pv,cs[i]?=some pv→RV P w c pv (vs.getD i undef):=by
   cases r with
   | free pv v hf=>cases hf with | agg cs vs hn hr=>exact ⟨vs,rfl,hn,fun i pv hg=>.free _ _ (hr i pv hg)⟩
   | agg cs vs hn hr=>exact ⟨vs,rfl,hn,hr⟩
  obtain ⟨vs,rfl,hn,hr⟩:=main
  exact ⟨hn,fun i pv hg=>⟨hr i pv hg,(hr i pv hg).DN (all i pv hg)⟩⟩
 ·have hc:x.cells=[x]:=by cases x <;> first | rfl | exact absurd ⟨_,rfl⟩ ha
  have h1:=r.DN (by rw [hc] at h;simpa using h)
  rw [hc,Ks h1]
  refine ⟨rfl,fun i pv hg=>?_⟩
  cases i with
  | zero=>simp at hg;subst hg;exact ⟨r,h1⟩
  | succ i=>simp at hg
theorem IX {pv:PV} (h:pv.still=true):pv.cell=true:=by cases pv <;> first | rfl | (simp [PV.still] at h;done) | exact h
theorem Py {pv:PV} (h:pv.still=true):pv.free=true:=by cases pv <;> first | rfl | (simp [PV.still] at h;done)
theorem Gc {l:List PV} (h:l.all PV.still=true):l.all PV.cell=true:=by
 rw [p7] at h ⊢
 exact fun x hx=>IX (h x hx)
def jF (cur:Array Value) (o:Nat) (news:List Value):Array Value:=(cur.toList.take o++news++cur.toList.drop (o+news.length)).toArray
theorem Ek {cur:Array Value} {o:Nat} {news:List Value} (h:o+news.length≤cur.size):(jF cur o news).size=cur.size:=by
 simp only [jF,List.size_toArray,E5,x7,K5,K6]
 omega
theorem Af {cur:Array Value} {o:Nat} {news:List Value} (h:o+news.length≤cur.size) (i:Nat) :
  (jF cur o news).getD i undef=if o≤i∧i<o+news.length then news.getD (i-o) undef else cur.getD i undef:=by
 have ht:(cur.toList.take o).length=o:=by simp;omega
 simp only [jF,o7,List.getElem?_toArray,m8]
 by_cases h1:i<o
 ·rw [K4,x6 (by omega),D9,if_pos h1,if_neg (by omega)]
  simp
 ·by_cases h2:i<o+news.length
  ·rw [K4,x8 (by omega),ht,x6 (by omega),if_pos ⟨by omega,h2⟩]
  ·rw [x8 (by simp;omega),E8,if_neg (by omega)]
   have:(List.take o cur.toList++news).length=o+news.length:=by simp;omega
   rw [this,show o+news.length+(i-(o+news.length))=i from by omega]
   simp
theorem Lm {t:TypeId} (hinfo:∃ i,P.info? t=some i) {g o:Nat} {T:TypeId} {cur:Array Value} {X:Value} (hh:w.heap[g]?=some (.cells cur T (0,0))) (hsz:X.cells.size=aJ P t)
  (hfit:o+X.cells.size≤cur.size) (h1:∀ v ∈ X.cells.toList,v.oneCell'=true) :
  (storeVar t ⟨g,o,none⟩ X).run P w=.ok () (w.setRow g (jF cur o X.cells.toList)):=by
 have hst:=run_storeCells_at (P:=P) g o T X.cells.toList 0 cur w hh (by simpa using hfit) h1
 simp only [Nat.add_zero] at hst
 simp only [storeVar,o5,run_sizeOf hinfo,m6,hsz,ne_eq,not_true_eq_false,if_false]
 simpa [jF] using hst
theorem RZ {X:Value} {l:List PV} (hn:X.cells.size=l.length) (h:∀ (i:Nat) pv,l[i]?=some pv→(X.cells.getD i undef).oneCell'=true):∀ v ∈ X.cells.toList,v.oneCell'=true:=by
 intro v hv
 obtain ⟨i,hi⟩:=u6.1 hv
 have hlt:i<X.cells.size:=by
  rcases G3 i X.cells.toList.length with h | h
  ·simpa using h
  ·rw [s5 h] at hi;cases hi
 have:=h i (l[i]'(by omega)) (l8 (by omega))
 rw [w9] at hi
 simpa [o7,hi] using this
theorem RV.ZQ {pv:PV} {v:Value} (r:RV P w c pv v):pv.free=true→RF w c.S pv v:=by
 have get:∀ {l:List PV},PV.Ot l=true→∀ {i:Nat} {pv:PV},l[i]?=some pv→pv.free=true:=by
  intro l
  induction l with
  | nil=>intro _ i pv hg;simp at hg
  | cons c cs ih =>
    intro h i pv hg
    simp only [PV.Ot,o8] at h
    cases i with
    | zero=>simp at hg;subst hg;exact h.1
    | succ i=>exact ih h.2 (by simpa using hg)
 induction r with
 | free pv v h=>intro _;exact h
 | agg cs vs hn hr ih=>intro h;rw [PV.free] at h;exact .agg cs vs hn fun i pv hg=>ih i pv hg (get h hg)
 | tup cs vs hn hr ih=>intro h;rw [PV.free] at h;exact .tup cs vs hn fun i pv hg=>ih i pv hg (get h hg)
 | fn f cs vs hn hr ih=>intro h;rw [PV.free] at h;exact .fn f cs vs hn fun i pv hg=>ih i pv hg (get h hg)
 | _=>intro h;simp [PV.free] at h
theorem BN (h:E.Fr w) {g:Nat} (hg:E.M g) (cs:Array Value):E.Fr (w.setRow g cs):=
 ⟨h.os,h.tape,h.output,J1 h.size (by simp [World.setRow]),fun k hk hm=>(setRow_other w g k cs (fun e=>hm (e ▸ hg))).trans (h.block k hk hm)⟩
theorem ND {c:Ctx} {B:Nat→Prop} (ok:c.Ok B w) (g:Nat) (cs:Array Value):c.Ok B (w.setRow g cs):=by
 have e:(w.setRow g cs).heap.size=w.heap.size:=by simp [World.setRow]
 exact ⟨fun b hb=>by rw [e];exact ok.hS b hb,fun k hg=>by rw [e];exact ok.hD k hg,ok.inj⟩
theorem Inv.write (h:Inv P E S0 N σ a w c) {k0:Key} (hk0:c.D k0) (cs:Array Value) {o:HO} (hob:oW P (w.setRow (c.τ k0) cs) c k0.tag o):Inv P E S0 N (σ.put k0.tag o) a (w.setRow (c.τ k0) cs) c:=by
 have hoth:∀ b,b≠c.τ k0→(w.setRow (c.τ k0) cs).heap[b]?=w.heap[b]?:=fun b hb'=>setRow_other w _ b _ hb'
 refine h.step vY (·=k0.tag) (BN h.below (h.ok.hD _ hk0).1 cs) (ND h.ok _ _) (fun b hS=>hoth b fun e=>(h.ok.hD _ hk0).2.2 (e ▸ hS)) (fun _ h=>h) h.sup (fun _ _ hp=>by cases hp) (fun k _=>Agree.refl c k)
  (fun k hD hx=>⟨hoth _ fun e=>hx (by rw [h.ok.inj _ _ hD hk0 e]),hD⟩) (fun _ hp=>by cases hp) (by rw [Lr];rfl) (fun g o' hx hg=>?_) (fun g o' hx hg=>?_)
 ·rw [Lr]
  rw [eH,if_neg hx] at hg
  exact hg
 ·rw [eH,if_pos hx] at hg
  injection hg with hg
  subst hg
  rw [hx];exact hob
theorem jB.upd {w':World} {k:Key} {e:Nat} {es:List (List PV)} {R R':Nat→Nat→PV→Value→Prop} {xs:List Value} (r:jB P w c k e es R xs) {i off:Nat} {ws:List PV} {c0 c1:Array Value} {T:TypeId} (hfit:off+ws.length≤aJ P e) (hi:i<es.length)
  (hh:w.heap[c.τ k]?=some (.cells c0 T (0,0))) (hh':w'.heap[c.τ k]?=some (.cells c1 T (0,0))) (hsz:c1.size=c0.size)
  (hold:∀ m,¬ (i*aJ P e+off≤m∧m<i*aJ P e+off+ws.length)→c1.getD m undef=c0.getD m undef)
  (hR:∀ a b pv v,¬ (a=i∧off≤b∧b<off+ws.length)→R a b pv v→R' a b pv v)
  (hnew:∀ (j:Nat) pv,ws[j]?=some pv→R' i (off+j) pv (c1.getD (i*aJ P e+off+j) undef)∧(c1.getD (i*aJ P e+off+j) undef).oneCell'=true) :
  ∃ xs',jB P w' c k e (setRow es i off ws) R' xs':=by
 obtain ⟨hl,⟨_,hn⟩ | ⟨g',cap',cur,hv,hb,hg,hnc,hcm,hcs,htake⟩⟩:=r.own
 ·omega
 ·have hob:(c.hd k).ownBlock=some g':=by rw [hv];rfl
  obtain ⟨hD,hτ⟩:=r.blk g' hob
  rw [hτ] at hh hh'
  rw [hh] at hg
  injection hg with hg
  injection hg with hg1 hg2 _
  subst hg1
  subst hg2
  have cell:∀ m,m<es.length*aJ P T→(c1.toList.take (es.length*aJ P T)).getD m undef=c1.getD m undef:=by
   intro m hm
   rw [pM _ _ _ hm]
   simp [o7]
  have cell0:∀ m,m<es.length*aJ P T→xs.getD m undef=c0.getD m undef:=by
   intro m hm
   rw [← htake,pM _ _ _ hm]
   simp [o7]
  have both:∀ a b pv,dV (setRow es i off ws) a b=some pv→R' a b pv (c1.getD (a*aJ P T+b) undef)∧(c1.getD (a*aJ P T+b) undef).oneCell'=true:=by
   intro a b pv hg
   have hlt:=jQ (Cw r.len i off ws) hg
   rw [yR] at hlt
   rcases Pv r.len a b pv hg with ⟨rfl,h2,h3,h4⟩ | ⟨h2,h3⟩
   ·have:=hnew (b-off) pv h4
    rwa [show a*aJ P T+off+(b-off)=a*aJ P T+b from by omega,show off+(b-off)=b from by omega] at this
   ·have hm:=kX hlt.1 hlt.2
    have hne:¬ (i*aJ P T+off≤a*aJ P T+b∧a*aJ P T+b<i*aJ P T+off+ws.length):=by
     rintro ⟨x,y⟩
     have:=VR (a:=a) (b:=b) (i:=i) (c:=a*aJ P T+b-i*aJ P T) (k:=aJ P T) hlt.2 (by omega) (by omega)
     exact h2 ⟨this.1,by omega,by omega⟩
    rw [hold _ hne,← cell0 _ hm]
    exact ⟨hR a b pv _ h2 (r.rep a b pv h3),r.one a b pv h3⟩
  refine ⟨c1.toList.take (es.length*aJ P T),r.ty,r.pos,Cw r.len i off ws, ?_,r.blk,fun a b pv hg=>?_,fun a b pv hg=>?_⟩
  ·rw [yR]
   refine ⟨?_,.inr ⟨g',cap',c1,hv,hb,hh',hnc,hcm,by rw [hsz,hcs],rfl⟩⟩
   simp only [x7,K6,hsz,hcs]
   have:=u7 (aJ P T) hnc
   omega
  ·have hlt:=jQ (Cw r.len i off ws) hg
   rw [yR] at hlt
   rw [cell _ (kX hlt.1 hlt.2)];exact (both a b pv hg).2
  ·have hlt:=jQ (Cw r.len i off ws) hg
   rw [yR] at hlt
   rw [cell _ (kX hlt.1 hlt.2)];exact (both a b pv hg).1
theorem JB {off sz b:Nat}:∀ {J:List (Nat×Nat)},J.all (fun x=>decide (x.1<off∨off+sz≤x.1))=true→off≤b→b<off+sz→Jat J b=none
 | [],_,_,_=>rfl
 | (j,e)::J,h,h1,h2=>by
   simp only [List.all_cons,o8,decide_eq_true_eq] at h
   have hb:E4 b j=false:=by cases hq:E4 b j with | false=>rfl | true=>have:=t7 hq;omega
   simp only [Jat,hb]
   exact JB h.2 h1 h2
theorem IG (h:Inv P E S0 N σ a w c) {k:Key} {es:List (List PV)} (hr:σ.h.rowAt k=some es) {e:Nat} (he:c.ty k=e) {i off:Nat} {ws:List PV} {o:HO} (hset:σ.h.Ep (setRow es i off ws) k=some o) (hi:i<es.length) (hfit:off+ws.length≤aJ P e)
  (hJ:(σ.h.Ft k).all (fun x=>decide (x.1<off∨off+ws.length≤x.1))=true) {X:Value} (hX:X.cells.size=ws.length) (hcs:∀ (j:Nat) pv,ws[j]?=some pv→RF w c.S pv (X.cells.getD j undef)∧(X.cells.getD j undef).oneCell'=true) :
  ∃ (cur:Array Value) (T:TypeId),c.D k∧w.heap[c.τ k]?=some (.cells cur T (0,0))∧i*aJ P e+off+X.cells.size≤cur.size∧oW P (w.setRow (c.τ k) (jF cur (i*aJ P e+off) X.cells.toList)) c k.tag o:=by
 obtain ⟨e',xs,r⟩:=rA h.fE hr
 obtain rfl:e'=e:=r.ty.symm.trans he
 obtain ⟨hl,⟨_,hn⟩ | ⟨g',cap',cur,hv,hb,hg,hnc,hcm,hcsz,htake⟩⟩:=r.own
 ·omega
 have hob:(c.hd k).ownBlock=some g':=by rw [hv];rfl
 obtain ⟨hD,hτ⟩:=r.blk g' hob
 have hDk:=h.ok.hD k hD
 have hfit2:i*aJ P e'+off+X.cells.size≤cur.size:=by
  have q1:=u7 (aJ P e') (show i+1≤cap' by omega)
  rw [N1] at q1
  omega
 rw [← hτ] at hg
 refine ⟨cur,e',hD,hg,hfit2, ?_⟩
 have hxl:X.cells.toList.length=ws.length:=by simpa using hX
 have hoth:∀ b,b≠c.τ k→(w.setRow (c.τ k) (jF cur (i*aJ P e'+off) X.cells.toList)).heap[b]?=w.heap[b]?:=fun b hb'=>setRow_other w _ b _ hb'
 have hSm:Ga c.S w (w.setRow (c.τ k) (jF cur (i*aJ P e'+off) X.cells.toList)):=fun b hS=>hoth b fun e=>hDk.2.2 (e ▸ hS)
 have hh':=setRow_heap w (c.τ k) cur (jF cur (i*aJ P e'+off) X.cells.toList) e' (0,0) hg
 have hold:∀ m,¬ (i*aJ P e'+off≤m∧m<i*aJ P e'+off+ws.length)→(jF cur (i*aJ P e'+off) X.cells.toList).getD m undef=cur.getD m undef:=fun m hm=>by
  rw [Af (by simpa using hfit2),if_neg (by rw [hxl];exact hm)]
 have hnw:∀ (j:Nat) pv,ws[j]?=some pv→RF (w.setRow (c.τ k) (jF cur (i*aJ P e'+off) X.cells.toList)) c.S pv ((jF cur (i*aJ P e'+off) X.cells.toList).getD (i*aJ P e'+off+j) undef)∧((jF cur (i*aJ P e'+off) X.cells.toList).getD (i*aJ P e'+off+j) undef).oneCell'=true:=fun j pv hgj=>by
  have hj:=cV hgj
  rw [Af (by simpa using hfit2),if_pos ⟨by omega,by omega⟩,show i*aJ P e'+off+j-(i*aJ P e'+off)=j from by omega]
  have e2:X.cells.toList.getD j undef=X.cells.getD j undef:=by simp [o7]
  rw [e2]
  exact ⟨(hcs j pv hgj).1.same hSm fun _ h=>h,(hcs j pv hgj).2⟩
 have hsz:=Ek (cur:=cur) (o:=i*aJ P e'+off) (news:=X.cells.toList) (by simpa using hfit2)
 cases k with
 | top g =>
   simp only [HP.Ep] at hset
   split at hset
   case h_2=>cases hset
   rename_i eR J esR hgR
   injection hset with hset
   subst hset
   simp only [HP.Ft,hgR] at hJ r
   have heR:eR=e':=by
    obtain ⟨xsR,rR⟩:=h.fE g _ hgR
    exact rR.ty.symm.trans he
   subst heR
   have:=r.upd (R':=eL P (w.setRow (c.τ (.top g)) (jF cur (i*aJ P eR+off) X.cells.toList)) c g J) hfit hi hg hh' hsz hold (fun a b pv v hne hc=>?_) (fun j pv hgj=>⟨?_,(hnw j pv hgj).2⟩)
   ·exact this
   ·unfold eL at hc ⊢
    split at hc
    ·exact hc.same hSm fun _ h=>h
    ·rename_i e2 hj
     rcases hc with hc | ⟨h1,es',xs',h2,h3⟩
     ·exact .inl hc
     exact .inr ⟨h1,es',xs',h2,h3.keep (Agree.refl c _) (fun hD2=>⟨hoth _ (fun e=>Key.noConfusion (h.ok.inj _ _ hD2 hD e)),hD2⟩) fun _ _ _ _ r=>r.same hSm fun _ h=>h⟩
   ·have hj:=cV hgj
    unfold eL
    rw [JB hJ (b:=off+j) (by omega) (by omega)]
    exact (hnw j pv hgj).1
 | sub g i0 j0 =>
   simp only [HP.Ep] at hset
   simp only [HP.rowAt] at hr
   split at hset
   case h_2=>cases hset
   rename_i eR J esT hgR
   injection hset with hset
   subst hset
   have hgR':σ.h.get g=some (.row eR J esT):=hgR
   rw [hgR'] at hr
   simp only at hr
   split at hr
   case isFalse=>cases hr
   rename_i hJ0
   split at hr
   case h_2=>cases hr
   rename_i cs0 hcs0
   split at hr
   case h_2=>cases hr
   rename_i es0 hc0
   injection hr with hr
   subst hr
   obtain ⟨xsT,rT⟩:=h.fE g _ hgR
   have hlt:j0<cs0.length:=cV hc0
   -- the row itself
   obtain ⟨xs2,r2⟩:=r.upd (R':=fun _ _ pv v=>RF (w.setRow (c.τ (.sub g i0 j0)) (jF cur (i*aJ P e'+off) X.cells.toList)) c.S pv v) hfit hi hg hh' hsz hold (fun _ _ _ _ _ hc=>RF.same hSm (fun _ h=>h) hc) hnw
   -- the row that bears it
   refine ⟨xsT,rT.ty,rT.pos,Cw rT.len _ _ _, ?_,rT.blk,fun a b pv hgE=>?_,fun a b pv hgE=>?_⟩
   ·rw [yR]
    exact Rn rT.own fun b hb=>by
     obtain ⟨q1,rfl⟩:=rT.blk b hb
     exact hoth _ fun e=>by have:=h.ok.inj _ _ q1 hD e;cases this
   all_goals
    have hold2:dV esT i0 j0=some (.sl es0):=by unfold dV;rw [hcs0];exact hc0
   ·rcases Pv rT.len a b pv hgE with ⟨rfl,h2,h3,h4⟩ | ⟨h2,h3⟩
    ·have:b=j0:=by simp at h3;omega
     subst this
     exact rT.one _ _ _ hold2
    ·exact rT.one _ _ _ h3
   ·rcases Pv rT.len a b pv hgE with ⟨rfl,h2,h3,h4⟩ | ⟨h2,h3⟩
    ·have:b=j0:=by simp at h3;omega
     subst this
     simp at h4
     subst h4
     have hc:=rT.rep _ _ _ hold2
     unfold eL at hc ⊢
     cases hj:Jat J b with
     | none=>rw [hj] at hJ0;cases hJ0
     | some e2 =>
       rw [hj] at hc
       rcases hc with hc | ⟨h1,es',xs',h2',h3'⟩
       ·cases hc
       obtain rfl:e2=e':=h3'.ty.symm.trans he
       exact .inr ⟨h1,_,xs2,rfl,r2⟩
    ·have hc:=rT.rep _ _ _ h3
     unfold eL at hc ⊢
     split at hc
     ·exact hc.same hSm fun _ h=>h
     ·rename_i e2 hj
      rcases hc with hc | ⟨h1,es',xs',h2',h3'⟩
      ·exact .inl hc
      refine .inr ⟨h1,es',xs',h2',h3'.keep (Agree.refl c _) (fun hD2=>⟨hoth _ fun e=>?_,hD2⟩) fun _ _ _ _ r=>r.same hSm fun _ h=>h⟩
      have:=h.ok.inj _ _ hD2 hD e
      injection this with _ q1 q2
      exact h2 ⟨q1,by omega,by simp;omega⟩
theorem NM {o:Oper} {t:TypeId} {ad x:Operand} {agg:Bool} {r:Res} (ho:o.op=.store t ad x) (hagg:Hm P t=some agg) (h:Inv P E S0 N σ a w c) (hd:∀ k,o.dst=some k→k<N)
  (hr:Lj agg (aJ P t) σ.h (pev σ ad) (pev σ x)=some r):vJ P E S0 N o a w (r.put σ o.dst):=by
 have rp:=h.ev ad
 have rx:=h.ev x
 have hexec:(execOp a.eval o).run P w=((Instr.storeAt t (a.eval ad) (a.eval x)).run P w).andThen (fun _ w'=>Result.ok Next.skip w'):=by
  unfold execOp
  simp only [ho,o5,o9]
 generalize pev σ ad=p at *
 generalize pev σ x=px at *
 generalize a.eval ad=vp at *
 generalize a.eval x=X at *
 unfold Lj at hr
 by_cases hlen0:px.cells.length=aJ P t∧px.isAgg=agg
 case neg=>rw [if_neg hlen0] at hr;cases hr
 rw [if_pos hlen0] at hr
 obtain ⟨hlen,_⟩:=hlen0
 cases rp with
 | ptr g off =>
   simp only at hr
   split at hr
   case h_2=>cases hr
   rename_i cs hg
   split at hr
   case isFalse=>cases hr
   rename_i hc
   obtain ⟨hfit,hcell⟩:=hc
   injection hr with hr
   subst hr
   obtain ⟨hn,hcs⟩:=rx.cells hcell
   obtain ⟨hb,vs,T,hh,hnv,hrv⟩:=h.fE g _ hg
   have hrun:=Lm (P:=P) (Ar hagg) (o:=off) (X:=X) hh (by omega) (by omega) (RZ hn fun i pv hg=>(hcs i pv hg).2)
   have hl:X.cells.toList.length=px.cells.length:=by simpa using hn
   have hDg:=h.ok.hD _ hb
   have hoth:∀ b,b≠c.τ (.top g)→(w.setRow (c.τ (.top g)) (jF vs off X.cells.toList)).heap[b]?=w.heap[b]?:=fun b hb'=>setRow_other w _ b _ hb'
   have hSm:Ga c.S w (w.setRow (c.τ (.top g)) (jF vs off X.cells.toList)):=fun b hS=>hoth b fun e=>hDg.2.2 (e ▸ hS)
   refine mQ (v:=undef) (c':=c) hd (.inr ⟨?_,rfl⟩) (h.write (k0:=.top g) hb (jF vs off X.cells.toList) ⟨hb,_,T,setRow_heap w _ vs _ T (0,0) hh, ?_,fun i pv hgi=>?_⟩) (.free _ _ (.lit _))
   ·rw [hexec]
    simp only [Instr.storeAt,Instr.sureAddr,o5,o9,m6,hrun]
   ·rw [Ek (by omega),Ln,hnv]
   ·rw [Ti] at hgi
    rw [Af (by omega)]
    split at hgi
    ·rename_i hi
     rw [if_pos ⟨hi.1,by omega⟩]
     have e:X.cells.toList.getD (i-off) undef=X.cells.getD (i-off) undef:=by simp [o7]
     rw [e]
     exact (hcs _ pv hgi).1.Fm hSm (fun _ h=>h) fun k=>Agree.refl c k
    ·rename_i hi
     have:=cV hgi
     rw [if_neg (fun q=>hi ⟨q.1,by omega,this⟩)]
     exact (hrv i pv hgi).Fm hSm (fun _ h=>h) fun k=>Agree.refl c k
 | rptr k e i off he =>
   simp only at hr
   split at hr
   case h_2=>cases hr
   rename_i es hrow
   split at hr
   case h_2=>cases hr
   rename_i cs hcs0
   split at hr
   case isFalse=>cases hr
   rename_i hc
   obtain ⟨hfit,hstill,hJ⟩:=hc
   split at hr
   case h_2=>cases hr
   rename_i ob hset
   injection hr with hr
   subst hr
   have hcell:=Gc hstill
   obtain ⟨hn,hcs⟩:=rx.cells hcell
   obtain ⟨e',xs,rr⟩:=rA h.fE hrow
   obtain rfl:e'=e:=rr.ty.symm.trans he
   have hcl:=rr.len cs (m5 hcs0)
   obtain ⟨cur,T,hD,hh,hfit2,hob⟩:=IG h hrow he hset (cV hcs0) (by omega) (by rw [hlen];exact hJ) hn fun j pv hg=>⟨(hcs j pv hg).1.ZQ (Py (p7.1 hstill pv (m5 hg))),(hcs j pv hg).2⟩
   have hrun:=Lm (P:=P) (Ar hagg) (o:=i*aJ P e'+off) (X:=X) hh (by omega) hfit2 (RZ hn fun i pv hg=>(hcs i pv hg).2)
   refine mQ (v:=undef) (c':=c) hd (.inr ⟨?_,rfl⟩) (h.write (k0:=k) hD _ hob) (.free _ _ (.lit _))
   rw [hexec]
   simp only [Instr.storeAt,Instr.sureAddr,o5,o9,m6,hrun]
 | free pv v hf=>cases hf <;> simp at hr
 | _=>simp at hr
end
end Go.VI
namespace Go.VI
open Go.RowKit
section
variable {P:Program} {E:Ent} {S0:Nat→Prop} {N:Nat} {σ:St} {a:Act} {w:World} {c:Ctx}
theorem kM {t e:TypeId} (h:kL P t=some e):P.underlying t=some (.slice e):=by
 unfold kL at h
 split at h
 ·rename_i he;injection h with h;subst h;exact he
 ·cases h
theorem vH {e:TypeId} (h:Hf P e=true):∃ i z,P.info? e=some i∧i.zero=some z∧0<i.size∧i.bytes≤65536∧z.cells.size=i.size∧i.size=aJ P e:=by
 unfold Hf at h
 cases hi:P.info? e with
 | none=>simp [hi] at h
 | some i =>
   simp only [hi,o8,decide_eq_true_eq] at h
   cases hz:i.zero with
   | none=>simp [hz] at h
   | some z =>
     simp only [hz,decide_eq_true_eq] at h
     exact ⟨i,z,rfl,hz,h.1.1,h.1.2,h.2,by simp [aJ,Program.cellsOf,hi]⟩
theorem RP {S:Nat→Prop} {es:List (List PV)} {k:Nat} (hk:∀ l ∈ es,l.length=k) (hk0:0<k) (A:Option Addr) (cc:Nat) (vf:Nat→Nat→Value) (hA:es≠[]→∃ ad,A=some ad)
  (hcell:∀ ad,A=some ad→∀ i j pv,dV es i j=some pv→w.cell? (ad.add (i*k+j))=some (vf i j)) (h1:∀ i j pv,dV es i j=some pv→(vf i j).oneCell'=true) (hr:∀ i j pv,dV es i j=some pv→RF w S pv (vf i j)) :
  ∃ news:List Value,news.length=es.length*k∧(∀ ad,A=some ad→∀ (j:Nat) u,news[j]?=some u→w.cell? (ad.add j)=some u) ∧
    (∀ u ∈ news,u.oneCell'=true)∧(∀ i j pv,dV es i j=some pv→RF w S pv (news.getD (i*k+j) undef)):=by
 have get:∀ q,q<es.length*k→∃ pv,dV es (q / k) (q%k)=some pv∧q=q / k*k+q%k:=by
  intro q hq
  have h1:q / k<es.length:=Nat.div_lt_of_lt_mul (by rwa [Nat.mul_comm])
  have h2:q%k<k:=Nat.mod_lt _ hk0
  have hl:=hk (es[q / k]) (F9 h1)
  refine ⟨(es[q / k])[q%k],by unfold dV;simp [h1,hl,h2], ?_⟩
  have:=Nat.div_add_mod q k
  rw [Nat.mul_comm];omega
 have nget:∀ q,q<es.length*k→((s9 (es.length*k)).map fun q=>vf (q / k) (q%k))[q]?=some (vf (q / k) (q%k)):=by
  intro q hq
  simp [hq]
 refine ⟨(s9 (es.length*k)).map fun q=>vf (q / k) (q%k),by simp,fun ad had j u hj=>?_,fun u hu=>?_,fun i j pv hg=>?_⟩
 ·have hlt:j<es.length*k:=by have:=cV hj;simpa using this
  rw [nget j hlt] at hj
  injection hj with hj
  subst hj
  obtain ⟨pv,hg,he⟩:=get j hlt
  have:=hcell ad had _ _ pv hg
  rwa [← he] at this
 ·rw [E3] at hu
  obtain ⟨q,hq,rfl⟩:=hu
  obtain ⟨pv,hg,_⟩:=get q (by simpa using hq)
  exact h1 _ _ pv hg
 ·have hlt:=jQ hk hg
  have hq:=kX hlt.1 hlt.2
  rw [m8,nget _ hq]
  have e1:(i*k+j) / k=i:=by rw [P2,Nat.add_mul_div_right _ _ hk0,Nat.div_eq_of_lt hlt.2];omega
  have e2:(i*k+j)%k=j:=by rw [P2,Q8,V2 hlt.2]
  rw [e1,e2]
  exact hr i j pv hg
theorem Px {es:List (List PV)} {lo n i j:Nat} {pv:PV} (hg:dV ((es.drop lo).take n) i j=some pv):i<n∧dV es (lo+i) j=some pv:=by
 unfold dV at hg ⊢
 rw [D9] at hg
 split at hg
 ·rename_i hi
  rw [E8] at hg
  exact ⟨hi,hg⟩
 ·simp at hg
theorem QG {h:HP} {k:Key} (hf:(h.Ft k).isEmpty=true) {i j:Nat} {pv:PV} {v:Value} (hr:(match k with | .top g=>eL P w c g (h.Ft k) | .sub _ _ _=>fun _ _ pv v=>RF w c.S pv v) i j pv v):RF w c.S pv v:=by
 cases k with
 | top g =>
   have:h.Ft (.top g)=[]:=by simpa using hf
   simp only [this] at hr
   exact hr
 | sub=>exact hr
theorem Np {h:HP} (fE:∀ g o,h.get g=some o→oW P w c g o) {x:PV} {X:Value} (r:RV P w c x X) {es:List (List PV)} (he:x.elems h=some es) (hf:x.flat h=true) {k:Nat} (hk:∀ l ∈ es,l.length=k) (hk0:0<k) :
  ∃ A cc,∃ news:List Value,X=.slice A es.length cc∧news.length=es.length*k∧(es≠[]→∃ ad,A=some ad)∧(∀ ad,A=some ad→∀ (j:Nat) u,news[j]?=some u→w.cell? (ad.add j)=some u) ∧
    (∀ u ∈ news,u.oneCell'=true)∧(∀ i j pv,dV es i j=some pv→RF w c.S pv (news.getD (i*k+j) undef)):=by
 have hnil:∀ (A:Option Addr) (cc:Nat),es=[]→∃ A' cc',∃ news:List Value,Value.slice A 0 cc=.slice A' es.length cc'∧news.length=es.length*k∧(es≠[]→∃ ad,A'=some ad)∧(∀ ad,A'=some ad→∀ (j:Nat) u,news[j]?=some u→w.cell? (ad.add j)=some u) ∧
   (∀ u ∈ news,u.oneCell'=true)∧(∀ i j pv,dV es i j=some pv→RF w c.S pv (news.getD (i*k+j) undef)):=by
  intro A cc h
  subst h
  exact ⟨A,cc,[],rfl,by simp,by simp,by simp,by simp,by simp [dV]⟩
 have sizeEq:∀ {es0:List (List PV)} {k0:Nat},(∀ l ∈ es0,l.length=k0)→(∀ l ∈ es,l ∈ es0)→es≠[]→k0=k:=fun h1 h2 hne=>by
  obtain ⟨l,hl⟩:=N2 es hne
  rw [← h1 l (h2 l hl),hk l hl]
 have fin:∀ (A:Option Addr) (cc:Nat) (vf:Nat→Nat→Value),(es≠[]→∃ ad,A=some ad)→(∀ ad,A=some ad→∀ i j pv,dV es i j=some pv→w.cell? (ad.add (i*k+j))=some (vf i j))→(∀ i j pv,dV es i j=some pv→(vf i j).oneCell'=true)→(∀ i j pv,dV es i j=some pv→RF w c.S pv (vf i j)) →
   ∃ A' cc',∃ news:List Value,Value.slice A es.length cc=.slice A' es.length cc'∧news.length=es.length*k∧(es≠[]→∃ ad,A'=some ad)∧(∀ ad,A'=some ad→∀ (j:Nat) u,news[j]?=some u→w.cell? (ad.add j)=some u) ∧
   (∀ u ∈ news,u.oneCell'=true)∧(∀ i j pv,dV es i j=some pv→RF w c.S pv (news.getD (i*k+j) undef)):=fun A cc vf h1 h2 h3 h4=>by
  obtain ⟨news,q1,q2,q3,q4⟩:=RP hk hk0 A cc vf h1 h2 h3 h4
  exact ⟨A,cc,news,rfl,q1,h1,q2,q3,q4⟩
 cases r with
 | free pv v h =>
   cases h with
   | nl=>simp [PV.elems] at he;exact hnil none 0 he
   | sl es' k' A n cc vf hn hk' hk0' hc ha hcell h1 hr =>
     simp [PV.elems] at he
     subst he
     subst hn
     by_cases hne:es'=[]
     ·subst hne;exact hnil A cc rfl
     ·obtain rfl:=sizeEq hk' (fun _ h=>h) hne
      exact fin A cc vf (fun h=>by obtain ⟨ad,h,_⟩:=ha h;exact ⟨ad,h⟩) hcell h1 hr
   | _=>simp [PV.elems] at he
 | row k' e he' _ =>
   simp only [PV.elems] at he
   obtain ⟨e',xs,r⟩:=rA fE he
   rcases r.own.2 with ⟨h0,hn⟩ | ⟨g2,cap,cur,h0,hb2,hg2,hnc,rest⟩
   ·rw [h0];exact hnil none 0 (H6 hn)
   ·by_cases hne:es=[]
    ·have vac:∀ (Q:Prop) (i j:Nat) (pv:PV),dV es i j=some pv→Q:=fun Q i j pv hg=>by rw [hne] at hg;simp [dV] at hg
     rw [h0];exact fin _ cap (fun _ _=>undef) (fun h=>absurd hne h) (fun _ _ i j pv hg=>vac _ i j pv hg) (fun i j pv hg=>vac _ i j pv hg) (fun i j pv hg=>vac _ i j pv hg)
    ·obtain rfl:=sizeEq r.len (fun _ h=>h) hne
     have hob:(c.hd k').ownBlock=some g2:=by rw [h0];rfl
     rw [h0]
     refine fin _ cap (fun i j=>xs.getD (i*aJ P e'+j) undef) (fun _=>⟨_,rfl⟩) (fun ad had i j pv hg=>?_) r.one (fun i j pv hg=>QG hf (r.rep i j pv hg))
     injection had with had
     subst had
     have hlt:=jQ r.len hg
     exact Ct r.own hob _ (kX hlt.1 hlt.2)
 | part k' e lo n A cc he' hn hA =>
   simp only [PV.elems] at he
   split at he
   case h_2=>cases he
   rename_i es0 hr
   split at he
   case isFalse=>cases he
   rename_i hfit
   injection he with he
   obtain ⟨e',xs,r⟩:=rA fE hr
   obtain rfl:e'=e:=r.ty.symm.trans he'
   have hlen:es.length=n:=by rw [← he,x7,K5];omega
   by_cases hne:es=[]
   ·have:n=0:=by rw [← hlen,hne];rfl
    subst this
    exact hnil A cc hne
   ·obtain rfl:=sizeEq r.len (fun l hl=>by rw [← he] at hl;exact M6 (G4 hl)) hne
    have hn0:0<n:=by rw [← hlen];exact List.length_pos_iff.2 hne
    rcases r.own.2 with ⟨h0,hn'⟩ | ⟨g2,cap,cur,h0,hb2,hg2,hnc,rest⟩
    ·omega
    ·have hob:(c.hd k').ownBlock=some g2:=by rw [h0];rfl
     obtain ⟨_,hτ⟩:=r.blk g2 hob
     rw [← hlen]
     refine fin A cc (fun i j=>xs.getD ((lo+i)*aJ P e'+j) undef) (fun _=>⟨_,hA hn0⟩) (fun ad had i j pv hg=>?_) (fun i j pv hg=>by rw [← he] at hg;exact r.one _ _ pv (Px hg).2) (fun i j pv hg=>by rw [← he] at hg;exact QG hf (r.rep _ _ pv (Px hg).2))
     rw [hA hn0] at had
     injection had with had
     subst had
     rw [← he] at hg
     obtain ⟨_,hg⟩:=Px hg
     have hlt:=jQ r.len hg
     have:=Ct r.own hob _ (kX hlt.1 hlt.2)
     rw [add_lit] at this ⊢
     rw [hτ,← this]
     congr 2
     rw [I2,I5];omega
 | _=>simp [PV.elems] at he
theorem Ch {es es2:List (List PV)} {k:Nat} (hk:∀ l ∈ es,l.length=k) (hk2:∀ l ∈ es2,l.length=k) {xs news:List Value} (hl:xs.length=es.length*k) {i j:Nat} {pv:PV}
  (h:dV (es++es2) i j=some pv):(dV es i j=some pv∧(xs++news).getD (i*k+j) undef=xs.getD (i*k+j) undef) ∨
   (∃ i',i=es.length+i'∧dV es2 i' j=some pv∧(xs++news).getD (i*k+j) undef=news.getD (i'*k+j) undef):=by
 have hall:∀ l ∈ es++es2,l.length=k:=fun l hl=>(q9.1 hl).elim (hk l) (hk2 l)
 have hlt:=jQ hall h
 by_cases hi:i<es.length
 ·left
  have hg:dV es i j=some pv:=by unfold dV at h ⊢;rwa [x6 hi] at h
  refine ⟨hg, ?_⟩
  have:=kX hi hlt.2
  simp only [m8]
  rw [x6 (by omega)]
 ·right
  refine ⟨i-es.length,by omega,by unfold dV at h ⊢;rwa [x8 (by omega)] at h, ?_⟩
  simp only [m8]
  have e:i*k+j=xs.length+((i-es.length)*k+j):=by
   rw [hl]
   have:es.length*k+(i-es.length)*k=i*k:=by rw [← I5];congr 1;omega
   omega
  rw [e,x8 (by omega)]
  congr 2
  omega
theorem Bu (base:Nat) (t ty e:TypeId) (i:TypeInfo) (z:Value) (size:Nat) (ht:P.underlying t=some (.slice e)) (hi:P.info? e=some i) (hz:i.zero=some z)
  (hsize:i.size=size) (hby:i.bytes≤65536) (hzs:z.cells.size=i.size) (hsz:0<size)
  (v:Value) (n:Nat) (xs:List Value) (hown:w.ownsRow base e size v n xs)
  (A:Option Addr) (m cc:Nat) (news:List Value) (hl:news.length=m*size) (hA:m≠0→∃ ad,A=some ad) (hnews:∀ ad,A=some ad→∀ (j:Nat) u,news[j]?=some u→w.cell? (ad.add j)=some u)
  (h1:∀ u ∈ news,u.oneCell'=true) (hlim:n+m≤LIM) (hbase:base≤w.heap.size) :
  ∃ v' w',(Builtin.append_ #[t,t] ty #[v,.slice A m cc]).run P w=.ok v' w'∧w'.ownsRow base e size v' (n+m) (xs++news)∧w.grownBy w' v.ownBlock ∧
    (v'.ownBlock=v.ownBlock∨v'.ownBlock=some w.heap.size):=by
 cases A with
 | some ad =>
   have hb:(n+m)*i.bytes≤140737488355328:=by
    have:=Nat.mul_le_mul hlim hby
    unfold LIM at this
    omega
   obtain ⟨v',w',q1,q2,q3,_,q5⟩:=run_append_own_at (P:=P) w base t ty e i z size i.bytes ht hi hz hsize rfl (by rw [hzs,hsize]) hsz v n xs hown ad m cc news hl (hnews ad rfl) h1 (by unfold LIM at hlim;unfold maxLen;omega) hb hbase
   exact ⟨v',w',q1,q2,q3,q5⟩
 | none =>
   have hm:m=0:=by
    rcases P5 m with h | h
    ·exact h
    ·obtain ⟨_,h⟩:=hA (by omega);cases h
   subst hm
   have hn:news=[]:=H6 (by simpa using hl)
   subst hn
   refine ⟨v,w, ?_,by simpa using hown,⟨rfl,rfl,rfl,v7 _,fun _ _ _=>rfl⟩,.inl rfl⟩
   rcases hown.2 with ⟨rfl,rfl⟩ | ⟨g,cap,cur,rfl,_,_,hnc,_⟩
   ·simp [Builtin.append_,run_underlying ht,sizeOf,typeInfo,hi,Builtin.lenOf,Builtin.firstCells]
   ·simp [Builtin.append_,run_underlying ht,sizeOf,typeInfo,hi,Builtin.lenOf,Builtin.firstCells,hnc,storeCells]
theorem KK {xs:List (List PV)} {k:Nat} (h:xs.all (fun c=>c.length==k)=true):∀ l ∈ xs,l.length=k:=by
 intro l hl
 have:=p7.1 h l hl
 simpa using this
theorem HU {o:Oper} {t e:TypeId} {s x:Operand} {r:Res} (ho:o.op=.call { callee:=.builtin .append,args:=#[s,x],argTypes:=#[t,t] }) (ht:kL P t=some e) (hrow:Hf P e=true)
  (h:Inv P E S0 N σ a w c) (hd:∀ k,o.dst=some k→k<N) (hr:Fq e (aJ P e) (o.dst.getD 0) σ.h (pev σ s) (pev σ x)=some r):vJ P E S0 N o a w (r.put σ o.dst):=by
 have rs:=h.ev s
 have rx:=h.ev x
 have hdN:o.dst.getD 0<PIN:=by
  cases hq:o.dst with
  | none=>decide
  | some k=>exact D8 (hd k hq) h.small.1
 obtain ⟨i,z,hi,hz,hsz,hby,hzs,hsize⟩:=vH hrow
 have hu:=kM ht
 have hexec:∀ v' w',(Builtin.append_ #[t,t] o.type #[a.eval s,a.eval x]).run P w=.ok v' w'→(execOp a.eval o).run P w=.ok (.value v') w':=by
  intro v' w' hrun
  unfold execOp
  simp only [ho,resolve,invoke,builtin,o5,o9,m6,List.map_toArray,E1,List.map_nil,hrun]
 generalize pev σ s=ps at *
 generalize pev σ x=px at *
 generalize a.eval s=V at *
 generalize a.eval x=X at *
 unfold Fq at hr
 cases hel:px.elems σ.h with
 | none=>simp [hel] at hr
 | some es2 =>
   simp only [hel] at hr
   split at hr
   case isFalse=>cases hr
   rename_i hall
   obtain ⟨hall,hflat⟩:=hall
   have hk2:=KK hall
   obtain ⟨A,cc,news,rfl,hnl,hA,hcell,h1,hrf⟩:=Np h.fE rx hel hflat hk2 (by omega)
   have hA':es2.length≠0→∃ ad,A=some ad:=fun hne=>hA (by rintro rfl;simp at hne)
   cases rs with
   | row k e0 he0 _ =>
     cases k with
     | sub=>simp at hr
     | top g =>
     simp only at hr
     split at hr
     case h_2=>cases hr
     rename_i eR es hgR
     split at hr
     case isFalse=>cases hr
     rename_i hc
     obtain ⟨rfl,hlim,hpin⟩:=hc
     injection hr with hr
     subst hr
     obtain ⟨xs,rr⟩:=h.fE g _ hgR
     obtain rfl:eR=e:=rr.ty.symm.trans he0
     have hRF:∀ i j pv,dV es i j=some pv→RF w c.S pv (xs.getD (i*aJ P eR+j) undef):=fun i j pv hg=>rr.rep i j pv hg
     obtain ⟨v',w',hrun,hown',hgrow,hblk⟩:=Bu (P:=P) 0 t o.type eR i z (aJ P eR) hu hi hz hsize hby hzs rr.pos (c.hd (.top g)) es.length xs rr.own A es2.length cc news hnl hA' hcell h1 hlim (M0 _)
     have hVb:∀ b,(c.hd (.top g)).ownBlock=some b→E.M b∧¬ c.S b∧∀ k',k'.tag≠g→c.D k'→c.τ k'≠b:=fun b hb'=>by
      obtain ⟨q1,q2⟩:=rr.blk b hb'
      have:=h.ok.hD _ q1
      rw [q2] at this
      exact ⟨this.1,this.2.2,fun k' hne hg' e=>hne (by rw [h.ok.inj _ _ hg' q1 (by rw [e,q2])];rfl)⟩
     have hsame:∀ b,b<w.heap.size→(c.hd (.top g)).ownBlock≠some b→w'.heap[b]?=w.heap[b]?:=fun b hb' hne=>hgrow.block b hb' (Ne.symm hne)
     have hS:Ga c.S w w':=fun b hS=>hsame b (h.ok.hS b hS) fun e=>(hVb b e).2.1 hS
     have below:E.Fr w':=⟨hgrow.os.trans h.below.os,hgrow.tape.trans h.below.tape,hgrow.output.trans h.below.output,J1 h.below.size hgrow.size,fun k hk' hm=>(hsame k (D8 hk' h.below.size) fun e=>hm (hVb k e).1).trans (h.below.block k hk' hm)⟩
     -- the block of the new row
     let b:=(v'.ownBlock).getD 0
     let c':=c.lay g b v' eR (v'.ownBlock.isSome=true)
     have hbb:v'.ownBlock.isSome=true→E.M b∧b<w'.heap.size∧¬ c.S b∧∀ k',k'.tag≠g→c.D k'→c.τ k'≠b:=fun hs=>by
      obtain ⟨b',hb'⟩:=u9.1 hs
      have hbe:b=b':=by simp [b,hb']
      rw [hbe]
      have hlt:b'<w'.heap.size:=(hown'.lt b' hb').2
      rcases hblk with hq | hq
      ·have:=hVb b' (by rw [← hq,hb'])
       exact ⟨this.1,hlt,this.2.1,this.2.2⟩
      ·rw [hb'] at hq
       injection hq with hq
       subst hq
       exact ⟨h.below.mine (v7 _),hlt,fun hS=>by have:=h.ok.hS _ hS;omega,fun k' _ hg' e=>by have:=(h.ok.hD k' hg').2.1;omega⟩
     have hok:c'.Ok E.M w':=Iz h.ok hgrow.size (fun q=>⟨(hbb q).1,(hbb q).2.1,(hbb q).2.2.1⟩) fun q=>(hbb q).2.2.2
     have hrep:oW P w' c' g (.row eR [] (es++es2)):=by
      refine ⟨xs++news,dP.2.2.1,rr.pos,fun l hl=>(q9.1 hl).elim (rr.len l) (hk2 l),by rw [dP.2.1,E5];exact hown',fun b' hb'=>?_,fun i j pv hg=>?_,fun i j pv hg=>?_⟩
      ·rw [dP.2.1] at hb'
       exact ⟨dP.2.2.2.2 (by rw [hb'];rfl),by rw [dP.1];simp [b,hb']⟩
      ·rcases Ch rr.len hk2 rr.own.1 (news:=news) hg with ⟨q1,q2⟩ | ⟨i',_,q1,q2⟩
       ·rw [q2];exact rr.one i j pv q1
       ·rw [q2]
        have hlt:=jQ hk2 q1
        have:=kX hlt.1 hlt.2
        exact h1 _ (by rw [m8,l8 (by omega)];exact F9 _)
      ·show RF w' c.S pv _
       rcases Ch rr.len hk2 rr.own.1 (news:=news) hg with ⟨q1,q2⟩ | ⟨i',_,q1,q2⟩
       ·rw [q2];exact (hRF i j pv q1).same hS fun _ h=>h
       ·rw [q2];exact (hrf i' j pv q1).same hS fun _ h=>h
     have hrv:RV P w' c' (.row (.top g) eR) v':=by
      obtain ⟨xs',r'⟩:=hrep
      have:=RV.row (P:=P) (w:=w') (c:=c') (.top g) eR r'.ty r'.Bk
      rwa [show c'.hd (.top g)=v' from dP.2.1] at this
     refine mQ hd (.inl (hexec _ _ hrun)) (c':=c') ?_ hrv
     refine h.step (dU g) (·=g) below hok hS (fun _ h=>h) h.sup (fun k hk hp=>?_) (fun k hk=>kO (lS.1 hk)) (fun k hD hx=>⟨hsame _ (h.ok.hD k hD).2.1 fun e=>(hVb _ e).2.2 k hx hD rfl,(Gr hx).2 hD⟩)
      (fun k hk=>gE.1 hk) rfl (fun g' o hx hg=>?_) (fun g' o hx hg=>?_)
     ·rw [gE.1 hp] at hk;omega
     ·simp only [Res.base,y8,G2,eH] at hg
      rwa [if_neg hx] at hg
     ·simp only [Res.base,y8,G2,eH] at hg
      rw [if_pos hx] at hg
      injection hg with hg
      subst hg hx
      exact hrep
   | free pv v hf =>
     cases hf with
     | nl =>
     simp only at hr
     split at hr
     case isFalse=>cases hr
     rename_i hlim
     injection hr with hr
     subst hr
     obtain ⟨v',w',hrun,hown',hgrow,hblk⟩:=Bu (P:=P) 0 t o.type e i z (aJ P e) hu hi hz hsize hby hzs (by omega) (.slice none 0 0) 0 [] (World.ownsRow_nil w 0 e _) A es2.length cc news hnl hA' hcell h1 (by omega) (M0 _)
     simp only [I2,List.nil_append] at hown'
     have hsame:∀ b,b<w.heap.size→w'.heap[b]?=w.heap[b]?:=fun b hb'=>hgrow.block b hb' (by simp [Value.ownBlock])
     have below:Below w.heap.size w w':=⟨hgrow.os,hgrow.tape,hgrow.output,hgrow.size,hsame⟩
     have hS:Ga c.S w w':=fun b hS=>hsame b (h.ok.hS b hS)
     let b:=(v'.ownBlock).getD 0
     let c':=c.lay (o.dst.getD 0) b v' e (v'.ownBlock.isSome=true)
     have hbb:v'.ownBlock.isSome=true→E.M b∧b<w'.heap.size∧¬ c.S b∧∀ k',k'.tag≠o.dst.getD 0→c.D k'→c.τ k'≠b:=fun hs=>by
      obtain ⟨b',hb'⟩:=u9.1 hs
      have hbe:b=b':=by simp [b,hb']
      rw [hbe]
      have hlt:b'<w'.heap.size:=(hown'.lt b' hb').2
      have hb2:b'=w.heap.size:=by
       rcases hblk with hq | hq
       ·rw [hb'] at hq;simp [Value.ownBlock] at hq
       ·rw [hb'] at hq;injection hq
      subst hb2
      exact ⟨h.below.mine (v7 _),hlt,fun hS=>by have:=h.ok.hS _ hS;omega,fun k' _ hg' e=>by have:=(h.ok.hD k' hg').2.1;omega⟩
     have hok:c'.Ok E.M w':=Iz h.ok hgrow.size (fun q=>⟨(hbb q).1,(hbb q).2.1,(hbb q).2.2.1⟩) fun q=>(hbb q).2.2.2
     have hrep:oW P w' c' (o.dst.getD 0) (.row e [] es2):=by
      refine ⟨news,dP.2.2.1,by omega,hk2,by rw [dP.2.1];exact hown',fun b' hb'=>?_,fun i j pv hg=>?_,fun i j pv hg=>?_⟩
      ·rw [dP.2.1] at hb'
       exact ⟨dP.2.2.2.2 (by rw [hb'];rfl),by rw [dP.1];simp [b,hb']⟩
      ·have hlt:=jQ hk2 hg
       have:=kX hlt.1 hlt.2
       exact h1 _ (by rw [m8,l8 (by omega)];exact F9 _)
      ·show RF w' c.S pv _
       exact (hrf i j pv hg).same hS fun _ h=>h
     have hrv:RV P w' c' (.row (.top (o.dst.getD 0)) e) v':=by
      obtain ⟨xs',r'⟩:=hrep
      have:=RV.row (P:=P) (w:=w') (c:=c') (.top (o.dst.getD 0)) e r'.ty r'.Bk
      rwa [show c'.hd (.top (o.dst.getD 0))=v' from dP.2.1] at this
     exact Js hdN h hd (hexec _ _ hrun) below hok (fun _=>Q9) (fun k hk=>⟨kO hk,(Gr hk).2⟩) hrep hrv
     | _=>simp at hr
   | _=>simp at hr
end
end Go.VI
namespace Go.VI
open Go.RowKit
def EqC (P:Program) (t:TypeId) (n:Nat):Prop:=
 P.eqGuardType P.depth t=false∧∀ (xs ys:List Int) (w:World),xs.length=n→ys.length=n→(Op.equal t (.agg (xs.map (Value.int .i64)).toArray) (.agg (ys.map (Value.int .i64)).toArray)).run P w=.ok (decide (xs=ys)) w
section
variable {P:Program} {E:Ent} {S0:Nat→Prop} {N:Nat} {σ:St} {a:Act} {w:World} {c:Ctx}
theorem RV.iB {u v:Value} (r:RV P w c (.lit u) v):v=u:=by cases r with | free _ _ h=>cases h;rfl
theorem RV.RQ {v:Value} (r:RV P w c .nl v):v=.slice none 0 0:=by cases r with | free _ _ h=>cases h;rfl
theorem WC {op:BinOp} {t:TypeId} {x y pv:PV} {X Y:Value} (rx:RV P w c x X) (ry:RV P w c y Y) (h:SD op x y=some pv) :
  ∃ v,(binOp op t X Y).run P w=.ok v w∧RV P w c pv v∧(∃ k n k' m,X=.int k n∧Y=.int k' m):=by
 unfold SD at h
 split at h
 ·rename_i k n k' m
  obtain rfl:=rx.iB
  obtain rfl:=ry.iB
  suffices hh:∃ v,(binOp op t (.int k n) (.int k' m)).run P w=.ok v w∧RV P w c pv v by
   obtain ⟨v,h1,h2⟩:=hh
   exact ⟨v,h1,h2,k,n,k',m,rfl,rfl⟩
  cases op <;> simp only at h <;> split at h <;> first
   | (cases h;done)
   | (rename_i hk
      injection h with h
      subst h
      refine ⟨_, ?_,.free _ _ (.lit _)⟩
      first
       | (subst hk;simp [binOp,Op.intArith,Op.intCmp,Op.intBits];done)
       | (obtain ⟨rfl,hk⟩:=hk;simp [binOp,Op.intDiv,hk];done)
       | (have hn:¬ m<0:=by omega
          simp [binOp,Op.shift,hn];done))
 ·cases h
theorem SE {op:BinOp} {t:TypeId} {x y pv:PV} {X Y:Value} (rx:RV P w c x X) (ry:RV P w c y Y) (h:FE P op t x y=some pv) :
  ∃ v,(binOp op t X Y).run P w=.ok v w∧RV P w c pv v∧∀ u v:Operand,(eqGuard op t u v X Y).run P w=.ok () w:=by
 unfold FE at h
 split at h
 ·obtain rfl:=rx.iB
  obtain rfl:=ry.iB
  split at h
  case isFalse=>cases h
  rename_i hb
  have hu:P.underlying t=some .bool:=by
   unfold XX at hb
   split at hb
   ·assumption
   ·cases hb
  have he:∀ a b:Bool,(Op.equal t (.bool a) (.bool b)).run P w=.ok (a==b) w:=fun a b=>by
   unfold Op.equal Op.maxDepth
   unfold Op.equalIn
   simp only [o5,run_underlying hu,m6,o9]
  have hg:∀ (a b:Bool) (u v:Operand),(eqGuard op t u v (.bool a) (.bool b)).run P w=.ok () w:=fun a b u v=>by
   unfold eqGuard
   cases op <;> simp <;> rfl
  split at h
  ·injection h with h;subst h
   exact ⟨_,by simp [binOp,he],.free _ _ (.lit _),hg _ _⟩
  ·injection h with h;subst h
   exact ⟨_,by simp [binOp,he],.free _ _ (.lit _),hg _ _⟩
  ·cases h
 ·obtain rfl:=rx.iB
  obtain rfl:=ry.iB
  have hg:∀ (a b:ByteArray) (u v:Operand),(eqGuard op t u v (.string a) (.string b)).run P w=.ok () w:=fun a b u v=>by
   unfold eqGuard
   cases op <;> simp <;> rfl
  cases op <;> simp only [reduceCtorEq] at h <;> first
   | (split at h
      ·rename_i hs
       injection h with h;subst h
       exact ⟨_,by simp only [binOp,Op.stringOp];rw [if_neg (by simp [IntKind.max,IntKind.signed,IntKind.bits];omega)];rfl,.free _ _ (.lit _),hg _ _⟩
      ·cases h)
   | (injection h with h;subst h;exact ⟨_,by first | (simp [binOp,Op.stringOp];done) | (simp [binOp,Op.stringOp];rfl),.free _ _ (.lit _),hg _ _⟩)
 ·obtain ⟨v,h1,h2,k,n,k',m,rfl,rfl⟩:=WC (t:=t) rx ry h
  refine ⟨v,h1,h2,fun u v=>?_⟩
  unfold eqGuard
  cases op <;> simp <;> rfl
theorem ZB {op:UnOp} {x pv:PV} {X:Value} (rx:RV P w c x X) (h:pun op x=some pv):∃ v,(Op.unary op X).run P w=.ok v w∧RV P w c pv v:=by
 unfold pun at h
 split at h
 ·obtain rfl:=rx.iB
  injection h with h;subst h
  exact ⟨_,by simp [Op.unary,Op.intArith],.free _ _ (.lit _)⟩
 ·obtain rfl:=rx.iB
  injection h with h;subst h
  exact ⟨_,by simp [Op.unary],.free _ _ (.lit _)⟩
 ·cases h
theorem CS:∀ {xs ys:List PV} {b:Bool},Rq xs ys=some b→∃ as bs:List Int,xs=as.map (fun n=>PV.lit (.int .i64 n))∧ys=bs.map (fun n=>PV.lit (.int .i64 n))∧b=decide (as=bs)
 | [],[],b,h=>by simp [Rq] at h;exact ⟨[],[],rfl,rfl,by simp [h]⟩
 | .lit (.int .i64 a)::xs,.lit (.int .i64 b')::ys,b,h=>by
   simp only [Rq,s6] at h
   obtain ⟨b1,h1,h2⟩:=h
   obtain ⟨as,bs,q1,q2,q3⟩:=CS h1
   refine ⟨a::as,b'::bs,by simp [q1],by simp [q2], ?_⟩
   subst h2 q3
   by_cases e:a=b' <;> by_cases e':as=bs <;> simp [e,e']
 | [],_::_,_,h=>by simp [Rq] at h
 | .lit (.int .i64 _)::_,[],_,h=>by simp [Rq] at h
 | x::xs,y::ys,b,h=>by
   unfold Rq at h
   split at h
   ·simp_all
   ·rename_i a' xs' b' ys' e1 e2
    simp only [s6] at h
    obtain ⟨b1,h1,h2⟩:=h
    injection e1 with e1 e1'
    injection e2 with e2 e2'
    subst e1 e1' e2 e2'
    obtain ⟨as,bs,q1,q2,q3⟩:=CS h1
    refine ⟨a'::as,b'::bs,by simp [q1],by simp [q2], ?_⟩
    subst h2 q3
    by_cases e:a'=b' <;> by_cases e':as=bs <;> simp [e,e']
   ·cases h
 | x::xs,[],b,h=>by unfold Rq at h;split at h <;> simp_all
theorem DF {as:List Int} {X:Value} (r:RV P w c (.agg (as.map fun n=>PV.lit (.int .i64 n))) X):X=.agg (as.map (Value.int .i64)).toArray:=by
 have main:∃ vs:Array Value,X=.agg vs∧vs.size=as.length∧∀ (i:Nat) pv,(as.map fun n=>PV.lit (.int .i64 n))[i]?=some pv→RV P w c pv (vs.getD i undef):=by
  cases r with
  | free pv v hf=>cases hf with | agg cs vs hn hr=>exact ⟨vs,rfl,by simpa using hn,fun i pv hg=>.free _ _ (hr i pv hg)⟩
  | agg cs vs hn hr=>exact ⟨vs,rfl,by simpa using hn,hr⟩
 obtain ⟨vs,rfl,hn,hr⟩:=main
 congr 1
 apply Array.ext
 ·simp [hn]
 ·intro i h1 h2
  have hi:i<as.length:=by omega
  have:=(hr i (.lit (.int .i64 as[i])) (by simp [hi])).iB
  simp only [o7,h1,getElem?_pos,H2] at this
  simp [this]
theorem rO {x:PV} {X:Value} {i:Nat} (r:RV P w c x X) (h:Li x=some i):∃ k,X=.int k i:=by
 unfold Li at h
 split at h
 ·rename_i k n
  split at h
  ·injection h with h
   subst h
   exact ⟨k,by rw [r.iB,Int.toNat_of_nonneg (by assumption)]⟩
  ·cases h
 ·cases h
theorem Zq {cs:List PV} {X:Value} (r:RV P w c (.agg cs) X):∃ vs:Array Value,X=.agg vs∧vs.size=cs.length∧∀ (i:Nat) pv,cs[i]?=some pv→RV P w c pv (vs.getD i undef):=by
 cases r with
 | free pv v hf=>cases hf with | agg cs vs hn hr=>exact ⟨vs,rfl,hn,fun i pv hg=>.free _ _ (hr i pv hg)⟩
 | agg cs vs hn hr=>exact ⟨vs,rfl,hn,hr⟩
theorem OI {cs:List PV} {X:Value} (r:RV P w c (.tup cs) X):∃ vs:Array Value,X=.tuple vs∧vs.size=cs.length∧∀ (i:Nat) pv,cs[i]?=some pv→RV P w c pv (vs.getD i undef):=by
 cases r with
 | free pv v hf=>cases hf with | tup cs vs hn hr=>exact ⟨vs,rfl,hn,fun i pv hg=>.free _ _ (hr i pv hg)⟩
 | tup cs vs hn hr=>exact ⟨vs,rfl,hn,hr⟩
theorem KU {t:TypeId} {agg:Bool} (hagg:Hm P t=some agg) {cs:List PV} {vs:Array Value} (hn:vs.size=cs.length) (hr:∀ (i:Nat) pv,cs[i]?=some pv→RV P w c pv (vs.getD i undef)) {off:Nat} {pv:PV}
  (h:(if agg=true then (range? cs off (aJ P t)).map PV.agg else cs[off]?)=some pv):∃ v,(part t vs off).run P w=.ok v w∧RV P w c pv v:=by
 unfold part
 simp only [o5,Td hagg,m6]
 cases agg with
 | true =>
   simp only [if_true] at h ⊢
   cases hg:range? cs off (aJ P t) with
   | none=>simp [hg] at h
   | some l =>
     simp [hg] at h
     subst h
     obtain ⟨h1,h2,h3⟩:=Ud hg
     simp only [o5,run_sizeOf (Ar hagg),m6,o9]
     refine ⟨_,rfl,.agg l _ (by simp;omega) fun i p hp=>?_⟩
     have hi:i<aJ P t:=by
      rcases G3 i l.length with hh | hh
      ·omega
      ·rw [s5 hh] at hp;cases hp
     have:(vs.extract off (off+aJ P t)).getD i undef=vs.getD (off+i) undef:=by
      simp only [o7,Array.getElem?_extract]
      rw [if_pos (by omega)]
     rw [this]
     exact hr _ p (h3 i p hp)
 | false =>
   simp only [j9,if_false] at h ⊢
   have hi:off<cs.length:=by
    rcases G3 off cs.length with hh | hh
    ·exact hh
    ·rw [s5 hh] at h;cases h
   rw [La (d:=undef) (show off<vs.size by omega)]
   exact ⟨_,rfl,hr _ pv h⟩
theorem KT {n:Nat} {p q:PV} {v:Value} (r:RV P w c p v) (h:WB n p=some q):∃ ad:Addr,v=.pointer (some ad)∧RV P w c q (.pointer (some (ad.add n))):=by
 unfold WB at h
 cases r with
 | free pv v hf =>
   cases hf with
   | vptr cs off ad vf hS hcell hr =>
     injection h with h;subst h
     exact ⟨_,rfl,by rw [add_add];exact .free _ _ (.vptr cs (off+n) ad vf hS hcell hr)⟩
   | _=>simp at h
 | ptr g off=>injection h with h;subst h;exact ⟨_,rfl,by rw [add_lit];exact .ptr g (off+n)⟩
 | rptr k e i off he=>injection h with h;subst h;exact ⟨_,rfl,by rw [add_lit,Nat.add_assoc];exact .rptr k e i (off+n) he⟩
 | _=>simp at h
theorem Zl {t e:TypeId} (ht:kL P t=some e) (hinfo:∃ i,P.info? e=some i) {h:HP} (fE:∀ g o,h.get g=some o→oW P w c g o) {x q:PV} {X:Value} {i:Nat} {k:IntKind} (r:RV P w c x X) (hp:nO (aJ P e) h x i=some q) :
  ∃ v,(Instr.indexAt t X (.int k i)).run P w=.ok v w∧RV P w c q v:=by
 have hu:=kM ht
 have run:∀ (ad:Addr) (n cc:Nat),i<n→(Instr.indexAt t (.slice (some ad) n cc) (.int k i)).run P w=.ok (.pointer (some (ad.add (i*aJ P e)))) w:=by
  intro ad n cc hi
  have h2:(0:Int)≤(i:Int)∧(i:Int)<(n:Int):=by omega
  simp only [Instr.indexAt,asIntOf,o5,o9,m6,run_underlying hu,h2,and_self,if_true,run_sizeOf hinfo,y9]
 unfold nO at hp
 cases r with
 | free pv v hf =>
   cases hf with
   | sl es k' A n cc vf hn hk hk0 hc ha hcell h1 hr =>
     simp only at hp
     split at hp
     case h_2=>cases hp
     rename_i l he
     split at hp
     case isFalse=>cases hp
     rename_i hl
     injection hp with hp
     subst hp
     have hi:=cV he
     subst hn
     obtain ⟨ad,rfl,hS⟩:=ha (by rintro rfl;simp at he)
     obtain rfl:k'=aJ P e:=by rw [← hk l (m5 he),hl]
     refine ⟨_,run ad _ cc hi,.free _ _ ?_⟩
     have hx:ad.add (i*aJ P e)=(ad.add (i*aJ P e)).add 0:=by rw [add_add];rfl
     rw [hx]
     refine .vptr l 0 (ad.add (i*aJ P e)) (fun j=>vf i j) (by rw [Jh];exact hS) (fun j pv hg=>?_) (fun j pv hg=>?_)
     ·rw [add_add];exact hcell ad rfl i j pv (by unfold dV;rw [he];exact hg)
     ·exact hr i j pv (by unfold dV;rw [he];exact hg)
   | _=>simp at hp
 | row k' e0 he0 _ =>
   simp only at hp
   split at hp
   case h_2=>cases hp
   rename_i es hr
   split at hp
   case h_2=>cases hp
   rename_i l hl
   split at hp
   case isFalse=>cases hp
   rename_i hsz
   injection hp with hp
   subst hp
   obtain ⟨e',xs,rr⟩:=rA fE hr
   obtain rfl:e'=e0:=rr.ty.symm.trans he0
   have hs:aJ P e'=aJ P e:=by rw [← rr.len l (m5 hl),hsz]
   have hi:=cV hl
   rcases rr.own.2 with ⟨h0,hn⟩ | ⟨g2,cap,cur,h0,hb2,hg2,hnc,rest⟩
   ·omega
   ·obtain ⟨_,hτ⟩:=rr.blk g2 (by rw [h0];rfl)
    rw [h0]
    refine ⟨_,run _ _ cap hi, ?_⟩
    rw [add_lit,← hs,I2,← hτ]
    exact .rptr k' e' i 0 he0
 | part k' e0 lo n A cc he0 hn hA =>
   simp only at hp
   split at hp
   case h_2=>cases hp
   rename_i es hr
   split at hp
   case h_2=>cases hp
   rename_i l hl
   split at hp
   case isFalse=>cases hp
   rename_i hc
   obtain ⟨hsz,hi⟩:=hc
   injection hp with hp
   subst hp
   obtain ⟨e',xs,rr⟩:=rA fE hr
   obtain rfl:e'=e0:=rr.ty.symm.trans he0
   have hs:aJ P e'=aJ P e:=by rw [← rr.len l (m5 hl),hsz]
   rw [hA (by omega)]
   refine ⟨_,run _ _ cc hi, ?_⟩
   rw [add_lit,← hs,← I5]
   exact .rptr k' e' (lo+i) 0 he0
 | _=>simp at hp
theorem WI {t e:TypeId} (ht:P.underlying t=some (.slice e)) {h:HP} (fE:∀ g o,h.get g=some o→oW P w c g o) {x:PV} {X:Value} {n:Int} (r:RV P w c x X) (hp:Us h x=some n) (ty:TypeId) :
  (Builtin.len_ #[t] ty #[X]).run P w=.ok (.int .i64 n) w:=by
 have slice:∀ A (m cc:Nat),(Builtin.len_ #[t] ty #[.slice A m cc]).run P w=.ok (.int .i64 m) w:=by
  intro A m cc
  simp [Builtin.len_,run_underlying ht,goInt]
 unfold Us at hp
 cases r with
 | free pv v hf =>
   cases hf with
   | sl es k' A n cc vf hn=>injection hp with hp;subst hp hn;exact slice _ _ _
   | nl=>injection hp with hp;subst hp;exact slice none 0 0
   | _=>simp at hp
 | row k e he _ =>
   simp only [PV.elems,s6] at hp
   obtain ⟨es,hr,rfl⟩:=hp
   obtain ⟨e',xs,rr⟩:=rA fE hr
   rcases rr.own.2 with ⟨h0,hn⟩ | ⟨g2,cap,cur,h0,_⟩
   ·rw [h0,hn];exact slice none 0 0
   ·rw [h0];exact slice _ _ _
 | part k e lo n A cc=>injection hp with hp;subst hp;exact slice _ _ _
 | _=>simp at hp
theorem SK {t:TypeId} (ht:P.underlying t=some .string) {x:PV} {X:Value} {n:Int} (r:RV P w c x X) (h:SJ x=some n) (ty:TypeId) :
  (Builtin.len_ #[t] ty #[X]).run P w=.ok (.int .i64 n) w:=by
 unfold SJ at h
 split at h
 ·injection h with h
  subst h
  rw [r.iB]
  simp [Builtin.len_,run_underlying ht,goInt]
 ·cases h
theorem Jt {o:Oper} (h:Inv P E S0 N σ a w c) (hd:∀ k,o.dst=some k→k<N):o.dst.getD 0<PIN:=by
 cases hq:o.dst with
 | none=>decide
 | some k=>exact D8 (hd k hq) h.small.1
theorem EA {o:Oper} {cs:List PV} {T:TypeId} {vs:Array Value} (h:Inv P E S0 N σ a w c) (hd:∀ k,o.dst=some k→k<N)
  (hrun:(execOp a.eval o).run P w=.ok (.value (.pointer (some ⟨w.heap.size,0,none⟩))) (w.alloc (.cells vs T))) (hn:vs.size=cs.length)
  (hr:∀ (i:Nat) pv,cs[i]?=some pv→RV P w c pv (vs.getD i undef)) (hno:PV.Ca (dU (o.dst.getD 0)) cs=false) :
  vJ P E S0 N o a w (Res.put σ o.dst (.new (o.dst.getD 0) (.box cs) (.ptr (o.dst.getD 0) 0))):=by
 have hb:Below w.heap.size w (w.alloc (.cells vs T)):=(Below.refl _ _).alloc (v7 _) _
 let c':=c.lay (o.dst.getD 0) w.heap.size undef 0 True
 have hok:c'.Ok E.M (w.alloc (.cells vs T)):=Iz h.ok hb.size (fun _=>⟨h.below.mine (v7 _),by simp,fun hS=>by have:=h.ok.hS _ hS;omega⟩) fun _ k' _ hg' e=>by have:=(h.ok.hD k' hg').2.1;omega
 have e1:c'.τ (.top (o.dst.getD 0))=w.heap.size:=dP.1
 refine Js (Jt h hd) h hd hrun hb hok (fun _=>Q9) (fun k hk=>⟨kO hk,(Gr hk).2⟩) ⟨dP.2.2.2.2 trivial,vs,T,by rw [e1];exact heap_alloc_new w _,hn,fun i pv hg=>?_⟩ ?_
 ·exact (hr i pv hg).keep (c':=c') (p:=dU (o.dst.getD 0)) (fun b hS=>hb.block b (h.ok.hS b hS)) (fun _ h=>h) (fun k hk=>kO (lS.1 hk)) (Vd hg hno)
 ·have:=RV.ptr (P:=P) (w:=w.alloc (.cells vs T)) (c:=c') (o.dst.getD 0) 0
  rwa [e1] at this
theorem Yo {z:Value}:(ofV z).cells.length=z.cells.size∧∀ (i:Nat) pv,(ofV z).cells[i]?=some pv→RF w c.S pv (z.cells.getD i undef):=by
 have hz:=HQ w c.S z
 by_cases ha:∃ cs,z=.agg cs
 ·obtain ⟨cs,rfl⟩:=ha
  cases hz with
  | agg l vs hn hr=>exact ⟨hn.symm,hr⟩
 ·have e1:z.cells=#[z]:=by cases z <;> first | rfl | exact absurd ⟨_,rfl⟩ ha
  have e2:(ofV z).cells=[ofV z]:=by
   have:∀ l,ofV z≠.agg l:=by
    intro l e
    rw [e] at hz
    cases hz
    exact ha ⟨_,rfl⟩
   revert this
   cases ofV z <;> first | (intro _;rfl) | (intro h;exact absurd rfl (h _))
  rw [e1,e2]
  refine ⟨rfl,fun i pv hg=>?_⟩
  cases i with
  | zero=>simp at hg;subst hg;exact hz
  | succ i=>simp at hg
end
end Go.VI
namespace Go.VI
open Go.RowKit
theorem BF {P:Program} {t:TypeId} (h:GA P t=true):∃ k e,P.underlying t=some (.map k e)∧P.underlying k=some (.int .i64)∧∀ w,(zeroValue e).run P w=.ok (.int .i64 0) w:=by
 unfold GA at h
 split at h
 ·rename_i k e hu
  split at h
  ·rename_i hk hz
   refine ⟨k,e,hu, ?_,fun w=>?_⟩
   ·unfold OH at hk
    split at hk
    ·rename_i he;injection hk with hk;subst hk;exact he
    ·cases hk
   ·unfold Hg at hz
    cases hi:P.info? e with
    | none=>simp [hi] at hz
    | some i=>simp [hi] at hz;simp [zeroValue,typeInfo,hi,hz]
  ·cases h
 ·cases h
def mat (m:List (Int×Int)) (k:Int):Nat→Option (Nat×Int)
 | i=>match m with
   | []=>none
   | (a,b)::m=>if k==a then some (i,b) else mat m k (i+1)
theorem EZ:∀ (m:List (Int×Int)) (k:Int) (i:Nat),(mat m k i).map (·.2)=Rh m k
 | [],_,_=>rfl
 | (a,b)::m,k,i=>by
   simp only [mat,Rh]
   split
   ·rfl
   ·exact EZ m k (i+1)
theorem HM:∀ (m:List (Int×Int)) (k:Int) (i:Nat) {j:Nat} {v:Int},mat m k i=some (j,v)→i≤j
 | [],_,_,_,_,h=>by cases h
 | (a,b)::m,k,i,j,v,h=>by
   simp only [mat] at h
   split at h
   ·injection h with h;injection h with h _;omega
   ·have:=HM m k (i+1) h;omega
theorem KN:∀ (m:List (Int×Int)) (k v:Int) (i:Nat),Zd m k v=match mat m k i with
  | some (j,_)=>m.set (j-i) (k,v)
  | none=>m++[(k,v)]
 | [],_,_,_=>rfl
 | (a,b)::m,k,v,i=>by
   simp only [mat,Zd]
   split
   ·simp
   ·have ih:=KN m k v (i+1)
    rw [ih]
    cases hm:mat m k (i+1) with
    | none=>rfl
    | some p =>
      obtain ⟨j,u⟩:=p
      have:=HM m k (i+1) hm
      simp only
      rw [show j-i=(j-(i+1))+1 from by omega,List.set_cons_succ]
theorem Wu (k:Int):∀ (es:List MapEntry) (m:List (Int×Int)) (i:Nat),es.map (fun e=>(e.key,e.val))=m.map (fun p=>(Value.int .i64 p.1,Value.int .i64 p.2))→Instr.findNow (.int .i64) (.int .i64 k) es i=some ((mat m k i).map fun p=>(p.1,.int .i64 p.2))
 | [],[],_,_=>rfl
 | [],_::_,_,h=>by simp at h
 | _::_,[],_,h=>by simp at h
 | e::es,(a,b)::m,i,h=>by
   simp only [E1,List.cons.injEq,Prod.mk.injEq] at h
   obtain ⟨⟨h1,h2⟩,h3⟩:=h
   simp only [Instr.findNow,h1,h2,Instr.sameNow,if_true,mat]
   cases hk:(k==a) with
   | true=>simp
   | false=>simpa using Wu k es m (i+1) h3
section
variable {P:Program} {w:World}
theorem Po {t:TypeId} (hu:P.underlying t=some (.int .i64)) {k:Int} {es:List MapEntry} {m:List (Int×Int)} (h:es.map (fun e=>(e.key,e.val))=m.map (fun p=>(Value.int .i64 p.1,Value.int .i64 p.2))):(Instr.findKey t (.int .i64 k) es).run P w=.ok ((mat m k 0).map fun p=>(p.1,Value.int .i64 p.2)) w:=by
 unfold Instr.findKey
 simp only [o5,run_underlying hu,m6,Wu k es m 0 h,o9]
theorem Me {t:TypeId} (hu:P.underlying t=some (.int .i64)) (b:Bool) (n:Nat) (v:Value):(Instr.checkKey b (n+1) t v).run P w=.ok () w:=by
 unfold Instr.checkKey
 simp only [o5,run_underlying hu,m6]
 cases v <;> rfl
theorem MY {t:TypeId} (ht:GA P t=true) {b:Nat} {m:List (Int×Int)} (hm:Cg w b m) (k:Int) (ok:Bool):(Instr.lookup t (.map (some b)) (.int .i64 k) ok).run P w=.ok (if ok=true then .tuple #[.int .i64 ((Rh m k).getD 0),.bool (Rh m k).isSome] else .int .i64 ((Rh m k).getD 0)) w:=by
 obtain ⟨kt,e,hu,hk,hz⟩:=BF ht
 obtain ⟨es,cl,h1,h2,_⟩:=hm
 unfold Instr.lookup
 simp only [o5,run_underlying hu,m6,getObj,L3,h1,o9,Me hk,Po hk h2]
 rw [← EZ m k 0]
 cases hm:mat m k 0 with
 | none =>
   simp only [N4,o5,hz,m6,o9,P0,Option.isSome_none]
 | some p=>simp only [s8,o5,o9,m6,H2,Option.isSome_some]
theorem ET (k:Int):(Instr.keyThatStays (.int .i64 k) (.int .i64 k)).run P w=.ok (.int .i64 k) w:=by
 unfold Instr.keyThatStays
 have:Instr.sameBits 10000 (.int .i64 k) (.int .i64 k)=true:=by simp [Instr.sameBits]
 rw [this];rfl
theorem KM:∀ (m:List (Int×Int)) (k:Int) (i:Nat) {j:Nat} {v:Int},mat m k i=some (j,v)→m[j-i]?=some (k,v)
 | [],_,_,_,_,h=>by cases h
 | (a,b)::m,k,i,j,v,h=>by
   simp only [mat] at h
   split at h
   ·rename_i hk
    injection h with h;injection h with h h'
    subst h h'
    have:k=a:=by simpa using hk
    subst this
    simp
   ·have h1:=HM m k (i+1) h
    have:=KM m k (i+1) h
    rw [show j-i=(j-(i+1))+1 from by omega,J6]
    exact this
theorem BH {t:TypeId} (ht:GA P t=true) {b:Nat} {m:List (Int×Int)} (hm:Cg w b m) (k v:Int):∃ w',(Instr.mapUpdate t (.map (some b)) (.int .i64 k) (.int .i64 v)).run P w=.ok () w'∧Cg w' b (Zd m k v)∧w'.heap.size=w.heap.size∧(∀ b',b'≠b→w'.heap[b']?=w.heap[b']?)∧w'.os=w.os∧w'.tape=w.tape∧w'.output=w.output:=by
 obtain ⟨kt,e,hu,hk,hz⟩:=BF ht
 have hlt:=hm.lt
 obtain ⟨es,cl,h1,h2,hnd,hbn⟩:=hm
 have set_:∀ es' cl',(setObj b (.map es' cl')).run P w=.ok () { w with heap:=w.heap.set! b (.map es' cl') }:=fun es' cl'=>by
  simp [setObj,L3,h1]
 have fin:∀ es' cl',es'.toList.map (fun e=>(e.key,e.val))=(Zd m k v).map (fun p=>(Value.int .i64 p.1,Value.int .i64 p.2))→((es'.toList.map (·.born)).Nodup∧∀ x ∈ es'.toList,x.born<cl') →
   Cg { w with heap:=w.heap.set! b (.map es' cl') } b (Zd m k v)∧({ w with heap:=w.heap.set! b (.map es' cl') }:World).heap.size=w.heap.size∧(∀ b',b'≠b→({ w with heap:=w.heap.set! b (.map es' cl') }:World).heap[b']?=w.heap[b']?)∧True:=fun es' cl' he hst=>by
  refine ⟨⟨es',cl',by simp [hlt],he,hst⟩,by simp,fun b' hne=>?_,trivial⟩
  simp [J7,Ne.symm hne]
 have hput:=KN m k v 0
 cases hm:mat m k 0 with
 | none =>
   rw [hm] at hput
   have hE:(es.push { key:=.int .i64 k,val:=.int .i64 v,born:=cl }).toList.map (fun e=>(e.key,e.val))=(Zd m k v).map (fun p=>(Value.int .i64 p.1,Value.int .i64 p.2)):=by
    rw [hput];simp [h2]
   obtain ⟨q1,q2,q3,_⟩:=fin _ (cl+1) hE ⟨by
    simp only [U1,List.map_append,E1,List.map_nil]
    rw [List.nodup_append]
    refine ⟨hnd,by simp,fun a ha b hb=>?_⟩
    simp only [J4] at hb
    subst hb
    obtain ⟨x,hx,rfl⟩:=E3.1 ha
    have:=hbn x hx
    omega,fun x hx=>by
    simp only [U1,q9,J4] at hx
    rcases hx with hx | rfl
    ·have:=hbn x hx;omega
    ·exact Nat.lt_succ_self _⟩
   refine ⟨_, ?_,q1,q2,q3,rfl,rfl,rfl⟩
   unfold Instr.mapUpdate
   simp only [o5,run_underlying hu,m6,getObj,L3,h1,o9,Me hk,Po hk h2,hm,N4,set_]
 | some p =>
   obtain ⟨j,u⟩:=p
   rw [hm] at hput
   simp only [Nat.sub_zero] at hput
   have hj:=KM m k 0 hm
   simp only [Nat.sub_zero] at hj
   have hel:(es.toList.map (fun e=>(e.key,e.val)))[j]?=some (.int .i64 k,.int .i64 u):=by rw [h2,p8,hj];rfl
   rw [p8] at hel
   have hkey:((es[j]?).map (·.key)).getD (.int .i64 k)=.int .i64 k:=by
    rw [← w9]
    cases hq:es.toList[j]? with
    | none=>rfl
    | some e'=>rw [hq] at hel;simp at hel;simp [hel.1]
   have hE:(es.modify j fun e=>{ e with key:=.int .i64 k,val:=.int .i64 v }).toList.map (fun e=>(e.key,e.val))=(Zd m k v).map (fun p=>(Value.int .i64 p.1,Value.int .i64 p.2)):=by
    rw [hput]
    apply G0
    intro i
    rw [T0,p8,M4,p8,List.getElem?_set]
    have hi:(es.toList[i]?).map (fun e=>(e.key,e.val))=(m[i]?).map (fun p=>(Value.int .i64 p.1,Value.int .i64 p.2)):=by rw [← p8,← p8,h2]
    by_cases e:j=i
    ·subst e
     rw [hj] at hi
     have hl:=(List.getElem?_eq_some_iff.1 hj).1
     cases hq:es.toList[j]? with
     | none=>rw [hq] at hi;simp at hi
     | some e'=>simp [hl]
    ·simp only [e,if_false]
     rw [← hi]
     cases es.toList[i]? <;> rfl
   have hB:(es.modify j fun e=>{ e with key:=.int .i64 k,val:=.int .i64 v }).toList.map (·.born)=es.toList.map (·.born):=by
    apply G0
    intro i
    rw [T0,p8,M4,p8]
    by_cases e:j=i
    ·subst e;cases es.toList[j]? <;> simp
    ·simp [e]
   obtain ⟨q1,q2,q3,_⟩:=fin _ cl hE ⟨by rw [hB];exact hnd,fun x hx=>by
    have:x.born ∈ es.toList.map (·.born):=by rw [← hB];exact E3.2 ⟨x,hx,rfl⟩
    obtain ⟨y,hy,hyx⟩:=E3.1 this
    have:=hbn y hy
    omega⟩
   refine ⟨_, ?_,q1,q2,q3,rfl,rfl,rfl⟩
   unfold Instr.mapUpdate
   simp only [o5,run_underlying hu,m6,getObj,L3,h1,o9,Me hk,Po hk h2,hm,s8,hkey,ET,set_]
end
section
variable {P:Program} {E:Ent} {S0:Nat→Prop} {N:Nat} {σ:St} {a:Act} {w:World} {c:Ctx}
theorem Inv.turn (h:Inv P E S0 N σ a w c) {k0:Key} (hk0:c.D k0) {w':World} (hsz:w'.heap.size=w.heap.size) (hoth:∀ b,b≠c.τ k0→w'.heap[b]?=w.heap[b]?) (hos:w'.os=w.os) (ht:w'.tape=w.tape) (ho:w'.output=w.output) {o:HO} (hob:oW P w' c k0.tag o):Inv P E S0 N (σ.put k0.tag o) a w' c:=by
 refine h.step vY (·=k0.tag) ⟨hos.trans h.below.os,ht.trans h.below.tape,ho.trans h.below.output,by rw [hsz];exact h.below.size,fun k hk hm=>(hoth k fun e=>hm (e ▸ (h.ok.hD _ hk0).1)).trans (h.below.block k hk hm)⟩
  ⟨fun b hb=>by rw [hsz];exact h.ok.hS b hb,fun k hk=>by rw [hsz];exact h.ok.hD k hk,h.ok.inj⟩ (fun b hS=>hoth b fun e=>(h.ok.hD _ hk0).2.2 (e ▸ hS)) (fun _ h=>h) h.sup (fun _ _ hp=>by cases hp) (fun k _=>Agree.refl c k)
  (fun k hD hx=>⟨hoth _ fun e=>hx (by rw [h.ok.inj _ _ hD hk0 e]),hD⟩) (fun _ hp=>by cases hp) (by rw [Lr];rfl) (fun g o' hx hg=>?_) (fun g o' hx hg=>?_)
 ·rw [Lr]
  rw [eH,if_neg hx] at hg
  exact hg
 ·rw [eH,if_pos hx] at hg
  injection hg with hg
  subst hg
  rw [hx];exact hob
theorem Mr {x:PV} {X:Value} {n:Int} (r:RV P w c x X) (h:x.int64=some n):X=.int .i64 n:=by
 unfold PV.int64 at h
 split at h
 ·injection h with h;subst h;exact r.iB
 ·cases h
theorem EC {h:HP} (fE:∀ g o,h.get g=some o→oW P w c g o) {x:PV} {X:Value} (r:RV P w c x X) {m:List (Int×Int)} (he:x.entries h=some m):∃ b,X=.map (some b)∧Cg w b m:=by
 cases r with
 | free _ _ hf =>
   cases hf with
   | fmap m' b hb hm=>simp only [PV.entries,n9] at he;subst he;exact ⟨b,rfl,hm⟩
   | _=>simp [PV.entries] at he
 | mp g =>
   simp only [PV.entries] at he
   split at he
   ·rename_i m' hg
    injection he with he;subst he
    exact ⟨_,rfl,(fE g _ hg).2⟩
   ·cases he
 | _=>simp [PV.entries] at he
theorem HL {o:Oper} {t:TypeId} (ho:o.op=.makeMap t none) (h:Inv P E S0 N σ a w c) (hd:∀ k,o.dst=some k→k<N):vJ P E S0 N o a w (Res.put σ o.dst (.new (o.dst.getD 0) (.map []) (.mp (o.dst.getD 0)))):=by
 have hb:Below w.heap.size w (w.alloc (.map #[] 0)):=(Below.refl _ _).alloc (v7 _) _
 have hexec:(execOp a.eval o).run P w=.ok (.value (.map (some w.heap.size))) (w.alloc (.map #[] 0)):=by
  unfold execOp
  simp only [ho,N4,Instr.makeMap,o5,o9,m6,newObj,L3]
  rfl
 let c':=c.lay (o.dst.getD 0) w.heap.size undef 0 True
 have hok:c'.Ok E.M (w.alloc (.map #[] 0)):=Iz h.ok hb.size (fun _=>⟨h.below.mine (v7 _),by simp,fun hS=>by have:=h.ok.hS _ hS;omega⟩) fun _ k' _ hg' e=>by have:=(h.ok.hD k' hg').2.1;omega
 have e1:c'.τ (.top (o.dst.getD 0))=w.heap.size:=dP.1
 refine Js (Jt h hd) h hd hexec hb hok (fun _=>Q9) (fun k hk=>⟨kO hk,(Gr hk).2⟩) ⟨dP.2.2.2.2 trivial,⟨#[],0,by rw [e1];exact heap_alloc_new w _,rfl,by simp,by simp⟩⟩ ?_
 have:=RV.mp (P:=P) (w:=w.alloc (.map #[] 0)) (c:=c') (o.dst.getD 0)
 rwa [e1] at this
end
end Go.VI
namespace Go.VI
open Go.RowKit
section
variable {P:Program} {E:Ent} {S0:Nat→Prop} {N:Nat} {σ:St} {a:Act} {w:World} {c:Ctx}
theorem Ue (vs:List Value):∀ (cs:Array Value) (off j0 i:Nat),off+j0+vs.length≤cs.size →
  ((vs.zipIdx j0).foldl (fun cs (p:Value×Nat)=>cs.setIfInBounds (off+p.2) p.1) cs).size=cs.size ∧
  ((vs.zipIdx j0).foldl (fun cs (p:Value×Nat)=>cs.setIfInBounds (off+p.2) p.1) cs).getD i undef=if off+j0≤i∧i<off+j0+vs.length then vs.getD (i-(off+j0)) undef else cs.getD i undef:=by
 induction vs with
 | nil=>intro cs off j0 i _;simp;intros;omega
 | cons v vs ih =>
   intro cs off j0 i h
   simp only [List.length_cons] at h
   simp only [List.zipIdx_cons,y8]
   obtain ⟨q1,q2⟩:=ih (cs.setIfInBounds (off+j0) v) off (j0+1) i (by simp;omega)
   refine ⟨by rw [q1];simp, ?_⟩
   rw [q2]
   by_cases e:i=off+j0
   ·subst e
    rw [if_neg (by omega),if_pos ⟨v7 _,by simp⟩]
    simp only [o7,J7]
    simp [show off+j0<cs.size by omega]
   ·by_cases h1:off+(j0+1)≤i∧i<off+(j0+1)+vs.length
    ·rw [if_pos h1,if_pos ⟨by omega,by simp;omega⟩]
     rw [show i-(off+j0)=(i-(off+(j0+1)))+1 from by omega]
     simp
    ·rw [if_neg h1,if_neg (by simp;omega)]
     simp only [o7,J7]
     rw [if_neg (by omega)]
theorem Xw {place:Nat→Option (Nat×Nat)}:∀ {parts:List (Nat×Operand)} {cells:List PV} {arr:Array Value} {cs:List PV},Inv P E S0 N σ a w c→arr.size=cells.length →
  (∀ (i:Nat) pv,cells[i]?=some pv→RV P w c pv (arr.getD i undef))→Oz place cells (parts.map fun p=>(p.1,pev σ p.2))=some cs →
  ∃ out:Array Value,Instr.fill place arr (parts.map fun p=>(p.1,a.eval p.2))=some out∧out.size=cs.length∧∀ (i:Nat) pv,cs[i]?=some pv→RV P w c pv (out.getD i undef)
 | [],cells,arr,cs,_,hn,hr,h=>by
   simp [Oz] at h
   subst h
   exact ⟨arr,rfl,hn,hr⟩
 | (i,x)::parts,cells,arr,cs,inv,hn,hr,h=>by
   simp only [E1,Oz] at h
   cases hp:place i with
   | none=>simp [hp] at h
   | some os =>
     obtain ⟨off,size⟩:=os
     simp only [hp] at h
     split at h
     case isFalse=>cases h
     rename_i hc
     obtain ⟨h1,h2,h3⟩:=hc
     obtain ⟨q1,q2⟩:=(inv.ev x).cells h3
     have hl:(a.eval x).cells.toList.length=size:=by simp;omega
     have st:=fun i=>Ue (a.eval x).cells.toList arr off 0 i (by rw [hl];omega)
     have e:(a.eval x).cells.zipIdx.foldl (fun cs (p:Value×Nat)=>cs.setIfInBounds (off+p.2) p.1) arr=((a.eval x).cells.toList.zipIdx 0).foldl (fun cs (p:Value×Nat)=>cs.setIfInBounds (off+p.2) p.1) arr:=by
      rw [← Array.foldl_toList,Array.toList_zipIdx]
     simp only [E1,Instr.fill,hp]
     have hsz:(a.eval x).cells.size=size:=by simpa using hl
     rw [if_neg (by simp only [F6,decide_eq_true_eq];omega)]
     refine Xw inv ?_ ?_ h
     ·rw [e,(st 0).1,Ln,hn]
     ·intro j pv hg
      rw [Ti] at hg
      rw [e,(st j).2]
      simp only [Nat.add_zero,hl]
      split at hg
      ·rename_i hh
       rw [if_pos (by omega)]
       have:(a.eval x).cells.toList.getD (j-off) undef=(a.eval x).cells.getD (j-off) undef:=by simp [o7]
       rw [this]
       exact (q2 _ pv hg).1
      ·rename_i hh
       have hj:j<cells.length:=by
        rcases G3 j cells.length with hh | hh
        ·exact hh
        ·rw [s5 hh] at hg;cases hg
       rw [if_neg (by omega)]
       exact hr j pv hg
theorem FM {α β:Type} {f:α→Sem β} {g:α→β}:∀ (l:List α),(∀ x ∈ l,(f x).run P w=.ok (g x) w)→(l.mapM f).run P w=.ok (l.map g) w
 | [],_=>by simp [List.mapM_nil]
 | x::l,h=>by
   simp only [List.mapM_cons,o5,h x (by simp),m6,FM l (fun y hy=>h y (by simp [hy])),o9,E1]
theorem NR {α β:Type} {f:α→Sem β} {g:α→β} (l:Array α) (h:∀ x ∈ l.toList,(f x).run P w=.ok (g x) w):(l.mapM f).run P w=.ok (l.map g) w:=by
 rw [Array.mapM_eq_mapM_toList]
 simp only [o5,map_eq_pure_bind,FM l.toList h,m6,o9]
 congr 1
 apply Array.ext'
 simp
theorem PF {t:TypeId} {z:Value} (hz:Hg P t=some z) {parts:Array (Nat×Operand)} {cs:List PV} (inv:Inv P E S0 N σ a w c)
  (h:(match P.underlying t with
   | some (.struct fs)=>if fs.toList.all (fun f=>(P.info? f.type).isSome) then (Oz (fun i=>(fs[i]?).map fun f=>(f.offset,aJ P f.type)) (ofV z).cells (parts.toList.map fun p=>(p.1,pev σ p.2))) else none
   | some (.array _ e)=>if (P.info? e).isSome then (Oz (fun i=>some (i*aJ P e,aJ P e)) (ofV z).cells (parts.toList.map fun p=>(p.1,pev σ p.2))) else none
   | _=>none)=some cs) :
  ∃ v,(Instr.build t (parts.map fun p=>(p.1,a.eval p.2))).run P w=.ok v w∧RV P w c (.agg cs) v:=by
 have hzv:(zeroValue t).run P w=.ok z w:=by
  unfold Hg at hz
  cases hi:P.info? t with
  | none=>simp [hi] at hz
  | some i=>simp [hi] at hz;simp [zeroValue,typeInfo,hi,hz]
 obtain ⟨z1,z2⟩:=Yo (w:=w) (c:=c) (z:=z)
 have hzr:∀ (i:Nat) pv,(ofV z).cells[i]?=some pv→RV P w c pv (z.cells.getD i undef):=fun i pv hg=>.free _ _ (z2 i pv hg)
 have hparts:(parts.map fun p=>(p.1,a.eval p.2)).toList=parts.toList.map fun p=>(p.1,a.eval p.2):=by simp
 split at h
 ·rename_i fs hu
  split at h
  case isFalse=>cases h
  rename_i hall
  obtain ⟨out,q1,q2,q3⟩:=Xw inv z1.symm hzr h
  refine ⟨.agg out, ?_,.agg cs out q2 q3⟩
  have hm:(fs.mapM fun (f:Field)=>do pure (f.offset,← sizeOf f.type)).run P w=.ok (fs.map fun f=>(f.offset,aJ P f.type)) w:=by
   refine NR (g:=fun f=>(f.offset,aJ P f.type)) fs fun f hf=>?_
   have:=p7.1 hall f hf
   simp only [o5,run_sizeOf (u9.1 this),m6,o9]
  have hp:(fun (i:Nat)=>(fs.map fun (f:Field)=>(f.offset,aJ P f.type))[i]?)=fun (i:Nat)=>(fs[i]?).map fun (f:Field)=>(f.offset,aJ P f.type):=by funext i;simp
  unfold Instr.build
  simp only [o5,hzv,m6,run_underlying hu,hm,hparts,hp,q1,o9]
 ·rename_i n e hu
  split at h
  case isFalse=>cases h
  rename_i hall
  obtain ⟨out,q1,q2,q3⟩:=Xw inv z1.symm hzr h
  refine ⟨.agg out, ?_,.agg cs out q2 q3⟩
  unfold Instr.build
  simp only [o5,hzv,m6,run_underlying hu,run_sizeOf (u9.1 hall),hparts,q1,o9]
 ·cases h
theorem XH {op:BinOp} {t:TypeId} {xs ys:List PV} {b:Bool} {X Y:Value} {x y:Operand} (hE:EqC P t xs.length) (rx:RV P w c (.agg xs) X) (ry:RV P w c (.agg ys) Y) (h:Rq xs ys=some b) (hop:op=.eql∨op=.neq) :
  (do eqGuard op t x y X Y;binOp op t X Y:Sem Value).run P w=.ok (.bool (if op=.eql then b else !b)) w:=by
 obtain ⟨as,bs,rfl,rfl,rfl⟩:=CS h
 rw [List.length_map] at hE
 have e1:=DF rx
 have e2:=DF ry
 have hl : bs.length=as.length:=by
  have:∀ (as bs:List Int) b,Rq (as.map fun n=>PV.lit (.int .i64 n)) (bs.map fun n=>PV.lit (.int .i64 n))=some b→bs.length=as.length:=by
   intro as
   induction as with
   | nil=>intro bs b h;cases bs <;> simp [Rq] at h ⊢
   | cons a as ih =>
     intro bs b h
     cases bs with
     | nil=>simp [Rq] at h
     | cons b' bs =>
       simp only [E1,Rq,s6] at h
       obtain ⟨b1,h1,_⟩:=h
       simp [ih bs b1 h1]
  exact this as bs _ h
 subst e1 e2
 obtain ⟨hg,heq⟩:=hE
 have hq:=heq as bs w rfl hl
 rcases hop with rfl | rfl <;> simp [eqGuard,binOp,hg,hq,program,L3]
theorem KL {o:Oper} {t e:TypeId} {l m:Operand} {n k:Nat} {z:Value} (ho:o.op=.makeSlice t l m) (ht:kL P t=some e) (hl:Li (pev σ l)=some n) (hm:Li (pev σ m)=some k) (hz:Hg P e=some z)
  (hrow:Hf P e=true) (hnk:n≤k) (hk:k≤LIM) (hone:z.cells.toList.all Value.oneCell'=true) {J:List (Nat×Nat)} (hJ:∀ j e',Jat J j=some e'→0<aJ P e'∧(j<aJ P e→z.cells.getD j undef=.slice none 0 0)) (h:Inv P E S0 N σ a w c) (hd:∀ k,o.dst=some k→k<N) :
  vJ P E S0 N o a w (Res.put σ o.dst (.new (o.dst.getD 0) (.row e J (q8 n (z.cells.toList.map ofE))) (.row (.top (o.dst.getD 0)) e))):=by
 obtain ⟨i,z',hi,hz',hsz,hby,hzs,hsize⟩:=vH hrow
 obtain rfl:z'=z:=by unfold Hg at hz;simp [hi,hz'] at hz;exact hz
 obtain ⟨k1,e1⟩:=rO (h.ev l) hl
 obtain ⟨k2,e2⟩:=rO (h.ev m) hm
 have hb:(i.bytes:Int)*(k:Int)≤281474976710656:=by
  have:=Nat.mul_le_mul hby hk
  unfold LIM at this
  have h2:((i.bytes*k:Nat):Int)≤281474976710656:=by omega
  rwa [Int.natCast_mul] at h2
 have hr:=run_make (P:=P) w t e i z' (kM ht) hi hz' k1 k2 n k (by omega) (by omega) hb (by unfold LIM at hk;omega)
 simp only [y9] at hr
 have hexec:(execOp a.eval o).run P w=.ok (.value (.slice (some ⟨w.heap.size,0,none⟩) n k)) (w.alloc (.cells (madeCells z'.cells (k*i.size)) e)):=by
  unfold execOp
  simp only [ho,o5,o9,e1,e2,hr,m6]
 have hbel:Below w.heap.size w (w.alloc (.cells (madeCells z'.cells (k*i.size)) e)):=(Below.refl _ _).alloc (v7 _) _
 have hzl:(z'.cells.toList.map ofE).length=aJ P e:=by simp [hzs,hsize]
 have hcell:∀ q,q<n*aJ P e→((madeCells z'.cells (k*i.size)).toList.take (n*aJ P e)).getD q undef=z'.cells.getD (q%aJ P e) undef:=by
  intro q hq
  have hq2:q<k*i.size:=by
   have:=u7 i.size hnk
   rw [hsize] at this ⊢;omega
  rw [pM _ _ _ hq]
  have hmod:q%z'.cells.size<z'.cells.size:=Nat.mod_lt _ (by omega)
  simp only [madeCells,Array.toList_map,Array.toList_range,m8,p8,List.getElem?_range hq2,s8,H2]
  rw [← hsize,← hzs]
  simp [o7,hmod]
 have hz0:∀ q,q<aJ P e→z'.cells.getD q undef ∈ z'.cells.toList:=by
  intro q hq
  have:q<z'.cells.size:=by omega
  simp [o7,this]
 have hgE:∀ i j pv,dV (q8 n (z'.cells.toList.map ofE)) i j=some pv→i<n∧j<aJ P e∧pv=ofE (z'.cells.getD j undef):=by
  intro i j pv hg
  unfold dV at hg
  rw [List.getElem?_replicate] at hg
  split at hg
  ·rename_i hi'
   simp only [i9,p8] at hg
   cases hc:z'.cells.toList[j]? with
   | none=>simp [hc] at hg
   | some u =>
     simp [hc] at hg
     have hj:j<aJ P e:=by
      rcases G3 j z'.cells.toList.length with hh | hh
      ·simp at hh;omega
      ·rw [s5 hh] at hc;cases hc
     refine ⟨hi',hj, ?_⟩
     rw [← hg]
     congr 1
     rw [w9] at hc
     simp [o7,hc]
  ·cases hg
 have hidx:∀ i j,j<aJ P e→(i*aJ P e+j)%aJ P e=j:=by
  intro i j hj
  rw [P2,Q8,V2 hj]
 let c':=c.lay (o.dst.getD 0) w.heap.size (.slice (some ⟨w.heap.size,0,none⟩) n k) e True J
 have hok:c'.Ok E.M (w.alloc (.cells (madeCells z'.cells (k*i.size)) e)):=Iz h.ok hbel.size (fun _=>⟨h.below.mine (v7 _),by simp,fun hS=>by have:=h.ok.hS _ hS;omega⟩) fun _ k' _ hg' e=>by have:=(h.ok.hD k' hg').2.1;omega
 have hhd:c'.hd (.top (o.dst.getD 0))=.slice (some ⟨w.heap.size,0,none⟩) n k:=dP.2.1
 have hrep:oW P (w.alloc (.cells (madeCells z'.cells (k*i.size)) e)) c' (o.dst.getD 0) (.row e J (q8 n (z'.cells.toList.map ofE))):=by
  refine ⟨(madeCells z'.cells (k*i.size)).toList.take (n*aJ P e),dP.2.2.1,by omega,fun l hl=>by rw [List.eq_of_mem_replicate hl];exact hzl, ?_,fun b hb'=>?_,fun i j pv hg=>?_,fun i j pv hg=>?_⟩
  ·rw [hhd]
   refine ⟨?_,.inr ⟨w.heap.size,k,madeCells z'.cells (k*i.size), ?_,M0 _,heap_alloc_new w _, ?_, ?_, ?_, ?_⟩⟩
   ·rw [x7,K6,size_madeCells,L8,hsize]
    have:=u7 (aJ P e) hnk
    omega
   ·rw [L8]
   ·rw [L8];exact hnk
   ·unfold LIM at hk;unfold maxLen;omega
   ·rw [size_madeCells,hsize]
   ·rw [L8]
  ·rw [hhd] at hb'
   simp [Value.ownBlock] at hb';subst hb'
   exact ⟨dP.2.2.2.2 trivial,dP.1⟩
  ·obtain ⟨q1,q2,q3⟩:=hgE i j pv hg
   rw [hcell _ (kX q1 q2),hidx i j q2]
   exact p7.1 hone _ (hz0 j q2)
  ·obtain ⟨q1,q2,rfl⟩:=hgE i j pv hg
   rw [hcell _ (kX q1 q2),hidx i j q2]
   unfold eL
   cases hj:Jat J j with
   | none=>exact RX _ _ _
   | some e' =>
     obtain ⟨p1,p2⟩:=hJ j e' hj
     rw [p2 q2]
     have ls:c'.hd (.sub (o.dst.getD 0) i j)=.slice none 0 0∧c'.ty (.sub (o.dst.getD 0) i j)=(Jat J j).getD 0:=VV
     refine .inr ⟨ls.1.symm,[],[],rfl,by rw [ls.2,hj];rfl,p1,by simp, ?_,fun b hb'=>?_,by simp [dV],by simp [dV]⟩
     ·rw [ls.1];exact World.ownsRow_nil _ 0 e' _
     ·rw [ls.1] at hb';simp [Value.ownBlock] at hb'
 refine Js (Jt h hd) h hd hexec hbel hok (fun _=>Q9) (fun k hk=>⟨kO hk,(Gr hk).2⟩) hrep ?_
 obtain ⟨xs',r'⟩:=hrep
 have:=RV.row (P:=P) (w:=w.alloc (.cells (madeCells z'.cells (k*i.size)) e)) (c:=c') (.top (o.dst.getD 0)) e r'.ty r'.Bk
 rwa [hhd] at this
theorem Pp {es:List (List PV)} {n l i j:Nat} {pv:PV} (hg:dV ((es.take n).drop l) i j=some pv):dV es (i+l) j=some pv:=by
 unfold dV at hg ⊢
 rw [E8,D9] at hg
 rw [P2 i l]
 split at hg
 ·exact hg
 ·simp at hg
theorem TM {o:Oper} {t e:TypeId} {x:Operand} {lo hi:Option Operand} {l:Nat} {h':Option Nat} {r:PV} (ho:o.op=.slice t x lo hi none) (ht:kL P t=some e) (hinfo:∃ i,P.info? e=some i)
  (hl:Uc σ lo=some l) (hh:Ub σ hi=some h') (h:Inv P E S0 N σ a w c) (hd:∀ k,o.dst=some k→k<N) (hr:Gv (aJ P) (aJ P e) σ.h (pev σ x) l h'=some r):vJ P E S0 N o a w (Res.put σ o.dst (.val r)):=by
 have rx:=h.ev x
 have hu:=kM ht
 have hlow:(lo.map a.eval=none∧l=0)∨∃ k,lo.map a.eval=some (.int k l):=by
  unfold Uc at hl
  cases lo with
  | none=>simp at hl;exact .inl ⟨rfl,hl.symm⟩
  | some y=>obtain ⟨k,e⟩:=rO (h.ev y) hl;exact .inr ⟨k,by simp [e]⟩
 have hhi:(hi.map a.eval=none∧h'=none)∨∃ k m,hi.map a.eval=some (.int k (m:Nat))∧h'=some m:=by
  unfold Ub at hh
  cases hi with
  | none=>simp at hh;exact .inl ⟨rfl,hh.symm⟩
  | some y =>
    simp only [s6] at hh
    obtain ⟨m,hm,rfl⟩:=hh
    obtain ⟨k,e⟩:=rO (h.ev y) hm
    exact .inr ⟨k,m,by simp [e],rfl⟩
 have run:∀ (A:Option Addr) (n cc:Nat),l≤h'.getD n→h'.getD n≤n→n≤cc→(Instr.sliceAt t (.slice A n cc) (lo.map a.eval) (hi.map a.eval) none).run P w=.ok (.slice (if cc=l then A else A.map (·.add (l*aJ P e))) (h'.getD n-l) (cc-l)) w:=by
  intro A n cc h1 h2 h3
  have bnd:(Instr.sliceBounds true n cc (lo.map a.eval) (hi.map a.eval) none).run P w=.ok (l,h'.getD n,cc) w:=by
   rcases hhi with ⟨e1,rfl⟩ | ⟨k,m,e1,rfl⟩ <;> rcases hlow with ⟨e2,rfl⟩ | ⟨k2,e2⟩ <;> rw [e1,e2] <;> simp only [P0,H2] at h1 h2
   ·simp [Instr.sliceBounds]
   ·have:=run_sliceBound (P:=P) (w:=w) k2 (l:Int) n .sliceB (by omega) (by omega)
    simp [Instr.sliceBounds,this]
   ·have:=run_sliceBound (P:=P) (w:=w) k (m:Int) cc .sliceAcap (by omega) (by omega)
    simp [Instr.sliceBounds,this]
   ·have q1:=run_sliceBound (P:=P) (w:=w) k (m:Int) cc .sliceAcap (by omega) (by omega)
    have q2:=run_sliceBound (P:=P) (w:=w) k2 (l:Int) m .sliceB (by omega) (by omega)
    simp [Instr.sliceBounds,q1,q2]
  have e0:(none:Option Operand).map a.eval=none:=rfl
  simp only [Instr.sliceAt,Instr.slice,o5,run_underlying hu,m6,bnd,run_sizeOf hinfo,o9]
 have hexec:∀ v w',(Instr.sliceAt t (a.eval x) (lo.map a.eval) (hi.map a.eval) none).run P w=.ok v w'→(execOp a.eval o).run P w=.ok (.value v) w':=by
  intro v w' hrun
  unfold execOp
  simp only [ho,o5,o9,N4,hrun,m6]
 generalize pev σ x=px at *
 generalize a.eval x=X at *
 unfold Gv at hr
 cases rx with
 | free pv v hf =>
   cases hf with
   | sl es k A n cc vf hn hk hk0 hcc ha hcell h1 hrr =>
     simp only at hr
     split at hr
     case isFalse=>cases hr
     rename_i hc
     obtain ⟨c1,c2,c3⟩:=hc
     injection hr with hr
     subst hr
     subst hn
     have hlt1:(es.take (h'.getD es.length)).drop l≠[]→l<h'.getD es.length:=fun hne=>by
      rcases G3 l (h'.getD es.length) with q | q
      ·exact q
      ·exact absurd (List.drop_eq_nil_of_le (by rw [x7];omega)) hne
     have hlt2:∀ i j pv,dV ((es.take (h'.getD es.length)).drop l) i j=some pv→l<h'.getD es.length:=fun i j pv hg=>hlt1 (by intro e;rw [e] at hg;simp [dV] at hg)
     refine bY h hd (hexec _ _ (run A es.length cc c1 c2 hcc)) (.free _ _ ?_)
     refine .sl _ k _ _ _ (fun i j=>vf (i+l) j) (by rw [K5,x7];omega) (fun e he=>hk e (G4 (M6 he))) hk0 (by omega) (fun hne=>?_) (fun ad had i j pv hg=>?_) (fun i j pv hg=>?_) (fun i j pv hg=>?_)
     ·have hlt:=hlt1 hne
      obtain ⟨ad,e1,e2⟩:=ha (by intro e;subst e;simp only [L5] at c2 hlt;omega)
      rw [if_neg (by omega),e1]
      exact ⟨_,rfl,by rw [Jh];exact e2⟩
     ·have hlt:=hlt2 i j pv hg
      have hg':=Pp hg
      rw [if_neg (by omega)] at had
      simp only [s6] at had
      obtain ⟨ad0,e1,rfl⟩:=had
      have hks:l=0∨k=aJ P e:=by
       simp only [F6,beq_iff_eq] at c3
       rcases c3 with q | q
       ·exact .inl q
       ·right
        have hne:es≠[]:=by intro e;subst e;simp [dV] at hg'
        obtain ⟨x,hx⟩:=N2 es hne
        rw [← hk x hx,KK q x hx]
      rw [add_add]
      have:l*aJ P e+(i*k+j)=(i+l)*k+j:=by
       rcases hks with q | q
       ·subst q;simp
       ·rw [← q,I5];omega
      rw [this]
      exact hcell _ e1 _ _ _ hg'
     ·exact h1 _ _ _ (Pp hg)
     ·exact hrr _ _ _ (Pp hg)
   | _=>simp at hr
 | row k e0 he0 _ =>
   simp only at hr
   split at hr
   case h_2=>cases hr
   rename_i es hrow
   split at hr
   case isFalse=>cases hr
   rename_i hc
   obtain ⟨c1,c2,hsz⟩:=hc
   injection hr with hr
   subst hr
   obtain ⟨e',xs,rr⟩:=rA h.fE hrow
   obtain rfl:e'=e0:=rr.ty.symm.trans he0
   rcases rr.own.2 with ⟨h0,hn⟩ | ⟨g2,cap,cur,h0,hb2,hg2,hnc,hcm,hcs,htake⟩
   ·have hz:h'.getD es.length=0:=by omega
    have hl0:l=0:=by omega
    have hrun:=hexec _ _ (by rw [h0];exact run none 0 0 (by omega) (by rw [hn] at c2 hz;omega) (v7 _))
    have hz0:h'.getD 0=0:=by rw [hn] at hz;exact hz
    refine bY h hd hrun ?_
    rw [hz,hz0,hl0]
    exact .part k e' 0 (0-0) _ _ he0 (by omega) (fun h=>by omega)
   ·obtain ⟨_,hτ⟩:=rr.blk g2 (by rw [h0];rfl)
    have hrun:=hexec _ _ (by rw [h0];exact run (some ⟨g2,0,none⟩) es.length cap c1 c2 hnc)
    refine bY h hd hrun (.part k e' l _ _ _ he0 (by omega) fun hpos=>?_)
    rw [if_neg (by omega)]
    have hs:es≠[]→aJ P e'=aJ P e:=fun hne=>by
     obtain ⟨x,hx⟩:=N2 es hne
     rw [← rr.len x hx]
     have:=p7.1 hsz x hx
     simpa using this
    rw [hs (fun hne=>by subst hne;simp only [L5] at c2 hpos;omega),hτ]
    simp [add_lit]
 | part k e0 lo n A cc he0 hn hA =>
   simp only at hr
   split at hr
   case isFalse=>cases hr
   rename_i hc
   obtain ⟨c1,c2,hsz⟩:=hc
   injection hr with hr
   subst hr
   refine bY h hd (hexec _ _ (run A n cc c1 c2 hn)) (.part k e0 (lo+l) _ _ _ he0 (by omega) fun hpos=>?_)
   rw [if_neg (by omega),hA (by omega)]
   simp only [s8,add_lit,n9]
   rw [← hsz,I5]
 | _=>simp at hr
end
end Go.VI
