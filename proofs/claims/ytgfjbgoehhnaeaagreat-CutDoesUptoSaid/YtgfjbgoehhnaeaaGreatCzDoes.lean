/- The state at the start. The law CutDoes, on the models. -/
import Derived.Test.YtgfjbgoehhnaeaaGreatCzDo2
set_option linter.unusedVariables false
set_option linter.unusedSimpArgs false
set_option linter.unusedSectionVars false
namespace Go.SM
open Go Go.VI Go.Cells
def st0 (l:LayoutT) (n:Nat):RS:=⟨List.replicate n false,l.Pieces.map fun x=>List.replicate x.Cuts.length false,List.replicate l.Pieces.length false,List.replicate l.Pieces.length 0,List.replicate l.Pieces.length false⟩
theorem Xl {α:Type} (n:Nat) (z:α) (h:n≤1048576):mk (n:Int) z=some (List.replicate n z):=by
  unfold mk
  rw [if_pos ⟨by omega,by simp [LIM];omega⟩,Int.toNat_natCast]
section
variable {l:LayoutT} (n8:l.Pieces.length≤8) (hc:∀ x ∈ l.Pieces,x.Cuts.length≤1048576)
include n8 hc
theorem WO (n:Nat) (hn:n≤200000):Ko l (n:Int)=some (toC (st0 l n)):=by
  have key:aM (zW l) (0,[])=some (l.Pieces.map fun x=>List.replicate x.Cuts.length false):=by
    refine Le l.Pieces (fun x=>List.replicate x.Cuts.length false) (zW l) (by omega) (fun k x acc hx=>?_) (fun acc=>by simp [zW])
    have hk:=bC hx
    unfold zW
    have hd:decide ((k:Int)<(l.Pieces.length:Int))=true:=by simp [hk]
    simp only [hd,if_true,aP hx,Option.bind_some,Xl _ false (hc x (List.mem_of_getElem? hx)),aZ k (by omega)]
  unfold Ko
  rw [Xl n false (by omega),Xl _ false (show l.Pieces.length≤1048576 by omega),Xl _ (0:Int) (show l.Pieces.length≤1048576 by omega)]
  simp only [Option.bind_some,key]
  rfl
theorem QX {es:List EdgeT} (he:fE l=some es) (hn:es.length≤200000):qO l=some (st0 l es.length):=by
  have key:aM (jQ l) (0,[])=some (l.Pieces.map fun x=>List.replicate x.Cuts.length false):=by
    refine Le l.Pieces (fun x=>List.replicate x.Cuts.length false) (jQ l) (by omega) (fun k x acc hx=>?_) (fun acc=>by simp [jQ])
    have hk:=bC hx
    unfold jQ
    have hd:decide ((k:Int)<(l.Pieces.length:Int))=true:=by simp [hk]
    simp only [hd,if_true,aP hx,Option.bind_some,Xl _ false (hc x (List.mem_of_getElem? hx)),aZ k (by omega)]
  unfold qO
  rw [he]
  simp only [Option.bind_some]
  rw [Xl es.length false (by omega),Xl _ false (show l.Pieces.length≤1048576 by omega),Xl _ (0:Int) (show l.Pieces.length≤1048576 by omega)]
  simp only [Option.bind_some,key]
  rfl
theorem H5 {n:Nat} (hn:n≤200000):SL1 (st0 l n):=by
  refine ⟨by simp [st0];omega,by simp [st0];omega,fun t ht=>?_,by simp [st0];omega,by simp [st0];omega,by simp [st0];omega⟩
  obtain ⟨x,hx,rfl⟩:=List.mem_map.1 ht
  rw [List.length_replicate];exact hc x hx
end
theorem Ah (a:List Bool) (h:a.length≤1048576):dZ a a=some true:=by
  unfold dZ
  simp only [bne_self_eq_false,Bool.false_eq_true,if_false]
  rw [Ld a (jU a a) (fun _=>true) (.inl ()) (.inr ()) (fun k x hx=>?s) ?f]
  · simp
  case s =>
    have h1:=bC hx
    unfold jU
    simp [h1,aP hx,aZ k (show (k:Int)<9223372036854775807 by omega)]
  case f=>simp [jU]
theorem CX (a:List Int) (h:a.length≤1048576):gL a a=some true:=by
  unfold gL
  simp only [bne_self_eq_false,Bool.false_eq_true,if_false]
  rw [Ld a (kR a a) (fun _=>true) (.inl ()) (.inr ()) (fun k x hx=>?s) ?f]
  · simp
  case s =>
    have h1:=bC hx
    unfold kR
    simp [h1,aP hx,aZ k (show (k:Int)<9223372036854775807 by omega)]
  case f=>simp [kR]
theorem EI {s:RS} (h:SL1 s):nP (toC s) s=some true:=by
  have h1:=h.c;have h2:=h.d;have h3:=h.j;have h4:=h.f;have h5:=h.h
  have key:aM (kH s s) 0=some (.inr ()):=by
    have:=Ld s.Holes (kH s s) (fun _=>true) (.inl ()) (.inr ()) (fun k x hx=>?_) ?_
    · rw [this];simp
    · have h1:=bC hx
      unfold kH
      simp [h1,aP hx,Ah x (h.hh x (List.mem_of_getElem? hx)),aZ k (show (k:Int)<9223372036854775807 by omega)]
    · simp [kH]
  show (sP s s).bind _=_
  unfold sP
  simp [Ah _ h1,Ah _ h2,Ah _ h4,CX _ h3,key]
theorem LM:SL1 noS:=⟨by simp [noS],by simp [noS],fun t ht=>by simp [noS] at ht,by simp [noS],by simp [noS],by simp [noS]⟩
theorem TI {l:LayoutT} {es:List EdgeT} {s s':RS} {x:ItemT} (hd:Does l es s x s') (hf:Fit l es.length s):Fit l es.length s':=by
  cases hd with
  | @hole p h y t hp hh hj hy hfl ht hb =>
    refine ⟨hf.c,by show (s.Holes.set p _).length=_;rw [List.length_set];exact hf.h,hf.d,hf.j,wX _ _ _,fun k u z h1 h2=>?_⟩
    have h1':(s.Holes.set p (t.set h true))[k]?=some u:=h1
    rw [List.getElem?_set] at h1'
    split at h1'
    · rename_i e
      subst e
      split at h1'
      · injection h1' with h1'
        rw [← h1',List.length_set]
        exact hf.hh p t z ht h2
      · cases h1'
    · exact hf.hh k u z h1' h2
  | @line p y t hp hh hj hy hfl hdn ht ha hn =>
    exact ⟨wX _ _ _,hf.h,by show (s.Done.set p true).length=_;rw [List.length_set];exact hf.d,by show (s.Joints.set p x.Joints).length=_;rw [List.length_set];exact hf.j,wX _ _ _,hf.hh⟩
theorem D7 {l:LayoutT} (n8:l.Pieces.length≤8) (hc:∀ x ∈ l.Pieces,x.Cuts.length≤1048576) {n:Nat} (hn:n≤200000) {s:RS} (hf:Fit l n s):SL1 s:=by
  have h1:=hf.c;have h2:=hf.d;have h3:=hf.j;have h4:=hf.f;have h5:=hf.h
  refine ⟨by omega,by omega,fun t ht=>?_,by omega,by omega,by omega⟩
  obtain ⟨k,hk⟩:=List.mem_iff_getElem?.1 ht
  have hkl:=bC hk
  have hx:l.Pieces[k]?=some (l.Pieces[k]'(by omega)):=List.getElem?_eq_getElem (by omega)
  rw [hf.hh k t _ hk hx]
  exact hc _ (List.mem_of_getElem? hx)
theorem NF {l:LayoutT} (h:Az l):∀ x ∈ l.Pieces,x.Cuts.length≤1048576:=fun x hx=>by
  obtain ⟨_,_,_,_,_,r2,_⟩:=h.2.2 x hx
  exact r2.1
theorem N7 {s:RS} (h:tJ s):SL1 s:=⟨h.1.1,h.2.1.1,fun t ht=>(h.2.1.2 t ht).1,h.2.2.1.1,h.2.2.2.1.1,h.2.2.2.2.1⟩
theorem KM (l:LayoutT) (h:Az l):∃ s b,Qh l=some (toC s,b)∧qJ l=some (s,b)∧SL1 s:=by
  obtain ⟨es,b,v1,v2,e1,e2,e3,e4,e5⟩:=Yx l h
  unfold Qh qJ
  rw [e1,v2]
  simp only [Option.bind_some]
  by_cases hb:b=0
  · subst hb
    obtain ⟨hl,g1,g2,_⟩:=e5 rfl
    have hc:=NF h
    simp only [bne_self_eq_false,Bool.false_eq_true,if_false,WO hl.n hc es.length e3,QX hl.n hc g2 e3,Option.bind_some]
    exact ⟨_,0,rfl,rfl,H5 hl.n hc e3⟩
  · have hb':(b != 0)=true:=by rw [bne_iff_ne];exact hb
    simp only [hb',if_true]
    exact ⟨noS,b,rfl,rfl,LM⟩
theorem JD (l:LayoutT) (st:sheetmetalref07_State) (x:ItemT) (h:Az l) (h2:tJ st) (_:GM x):uM l st x=some true:=by
  obtain ⟨s,b,s1,s2,s3⟩:=KM l h
  obtain ⟨es,c,v1,v2,e1,e2,e3,e4,e5⟩:=Yx l h
  have hst:=N7 h2
  have main:∃ s' g,Zn l (toC st) x=some (toC s',g,s'.Holes)∧uZ l st x=some (s',g,s'.Holes)∧SL1 s':=by
    unfold Zn uZ
    rw [e1,v2]
    simp only [Option.bind_some]
    by_cases hb:c=0
    · subst hb
      obtain ⟨hl,g1,g2,_⟩:=e5 rfl
      obtain ⟨e,r1,r2⟩:=XG hl (show es.length≤1000000 by omega) hst x
      simp only [bne_self_eq_false,Bool.false_eq_true,if_false,g2,Option.bind_some,r1]
      rcases r2 with ⟨he,r2⟩ | ⟨he,hf,s',hd,r2,r3⟩
      · have he':(e != 0)=true:=by rw [bne_iff_ne];exact he
        simp only [he',if_true,r2,Option.bind_some]
        exact ⟨noS,e,rfl,rfl,LM⟩
      · subst he
        simp only [bne_self_eq_false,Bool.false_eq_true,if_false,r2,r3,Option.bind_some]
        exact ⟨s',0,rfl,rfl,D7 hl.n (NF h) e3 (TI hd hf)⟩
    · have hb':(c != 0)=true:=by rw [bne_iff_ne];exact hb
      simp only [hb',if_true]
      exact ⟨noS,c,rfl,rfl,LM⟩
  obtain ⟨s',g,d1,d2,d3⟩:=main
  have d1':Zn l (cut_State.mk st.Cut st.Holes st.Done st.Joints st.Fallen) x=some (toC s',g,s'.Holes):=d1
  have sm:nP (cut_State.mk (toC s').Cut (toC s').Holes (toC s').Done (toC s').Joints (toC s').Fallen) (sheetmetalref07_State.mk s'.Cut s'.Holes s'.Done s'.Joints s'.Fallen)=some true:=EI d3
  unfold uM
  rw [s1,s2]
  simp only [Option.bind_some,bne_self_eq_false,Bool.false_eq_true,if_false,EI s3,Bool.not_true,d1',d2,beq_self_eq_true,if_true,sm,QG]
end Go.SM
