/- Placed pieces are valid pieces of a layout. -/
import Derived.Test.YtgfjbgoehhnaeaaGreatCzChecks
set_option linter.unusedVariables false
set_option linter.unusedSimpArgs false
set_option linter.unusedSectionVars false
namespace Go.SM
open Go Go.VI
theorem Quarter_trn {x : Piece} (hx : nest_ValidatePiece x=some 0) (n : Nat) (hn : n≤3) : flat_Quarter ⟨x.Rects,x.Cuts,x.Forms,[]⟩ (n : Int)=some (⟨trn n x.Rects x.Rects,trn n x.Rects x.Cuts,trn n x.Rects x.Forms,[]⟩,0)∧∃ a b,Good a b (trn n x.Rects x.Rects)∧Good a b (trn n x.Rects x.Cuts)∧Good a b (trn n x.Rects x.Forms):=by
  obtain ⟨z,hz,_,hv⟩:=Piece_facts x
  have h:=hv (Option.some.inj (hz.symm.trans hx))
  have g1 : Good 0 0 x.Rects:=⟨h.n1,h.v1⟩
  have g2 : Good 0 0 x.Cuts:=⟨h.n2,h.v2⟩
  have g3 : Good 0 0 x.Forms:=⟨h.n3,h.v3⟩
  obtain ⟨r,t,hc⟩ : ∃ r t,tq n x.Rects=r::t:=by
    cases e : tq n x.Rects with
    | nil=>exact absurd e (tq_ne n h.n0)
    | cons r t=>exact ⟨r,t,rfl⟩
  obtain ⟨⟨lx1,lx2,lx3,lx4⟩,ly1,ly2,ly3,ly4⟩:=low_in (g1.tq n) hc
  have k1:=good_back (g1.tq n) ⟨lx1,lx2⟩ ⟨ly1,ly2⟩ ⟨lx3,lx4⟩ ⟨ly3,ly4⟩
  have k2:=good_back (g2.tq n) ⟨lx1,lx2⟩ ⟨ly1,ly2⟩ ⟨lx3,lx4⟩ ⟨ly3,ly4⟩
  have k3:=good_back (g3.tq n) ⟨lx1,lx2⟩ ⟨ly1,ly2⟩ ⟨lx3,lx4⟩ ⟨ly3,ly4⟩
  have hlo : lo (tq n x.Rects)=(lowX (tq n x.Rects) r.X,lowY (tq n x.Rects) r.Y):=by
    rw [show lo (tq n x.Rects)=lo (r::t) by rw [hc],lo,hc]
  have hQ:=Quarter_eq h n hn hc
  rw [tr_mv (g1.tq n) ⟨lx3,lx4⟩ ⟨ly3,ly4⟩,tr_mv (g2.tq n) ⟨lx3,lx4⟩ ⟨ly3,ly4⟩,tr_mv (g3.tq n) ⟨lx3,lx4⟩ ⟨ly3,ly4⟩] at hQ
  rw [tr_mv (g1.tq n) ⟨lx3,lx4⟩ ⟨ly3,ly4⟩] at k1
  rw [tr_mv (g2.tq n) ⟨lx3,lx4⟩ ⟨ly3,ly4⟩] at k2
  rw [tr_mv (g3.tq n) ⟨lx3,lx4⟩ ⟨ly3,ly4⟩] at k3
  have e1 : trn n x.Rects x.Rects=(tq n x.Rects).map (trR (-(lowX (tq n x.Rects) r.X)) (-(lowY (tq n x.Rects) r.Y))):=by unfold trn nrm; rw [hlo]
  have e2 : trn n x.Rects x.Cuts=(tq n x.Cuts).map (trR (-(lowX (tq n x.Rects) r.X)) (-(lowY (tq n x.Rects) r.Y))):=by unfold trn nrm; rw [hlo]
  have e3 : trn n x.Rects x.Forms=(tq n x.Forms).map (trR (-(lowX (tq n x.Rects) r.X)) (-(lowY (tq n x.Rects) r.Y))):=by unfold trn nrm; rw [hlo]
  rw [← e1,← e2,← e3] at hQ
  rw [← e1] at k1
  rw [← e2] at k2
  rw [← e3] at k3
  exact ⟨hQ,_,_,k1,k2,k3⟩
theorem Put_form {x : Piece} {p : Placement} {q : Piece} {n m g h} (hx : nest_ValidatePiece x=some 0) (hp : nest_Put x p=some (q,0,n,m,g,h)) :
    ∃ k : Nat,k≤3∧(-1048576≤p.X∧p.X≤1048576)∧(-1048576≤p.Y∧p.Y≤1048576)∧q=⟨x.Name,x.Material,x.Gauge,x.Grain,(trn k x.Rects x.Rects).map (mvR p.X p.Y),(trn k x.Rects x.Cuts).map (mvR p.X p.Y),(trn k x.Rects x.Forms).map (mvR p.X p.Y)⟩∧(∀ r ∈ q.Rects,vR r):=by
  obtain ⟨_,t1,t2⟩:=Put_bad hp rfl
  obtain ⟨k,hk⟩ : ∃ k : Nat,p.Turn=k:=⟨p.Turn.toNat,by omega⟩
  have hk3 : k≤3:=by omega
  obtain ⟨hQ,a,b,g1,g2,g3⟩:=Quarter_trn hx k hk3
  unfold nest_Put at hp
  simp only [hx,Option.bind_some,bne_self_eq_false,Bool.false_eq_true,if_false,from_eq,show (0≤p.Turn∧p.Turn≤3) by omega,and_self,decide_true,Bool.not_true] at hp
  by_cases q3 : -1048576≤p.X∧p.X≤1048576
  · by_cases q4 : -1048576≤p.Y∧p.Y≤1048576
    · unfold nest_put at hp
      have n1:=g1.1; have n2:=g2.1; have n3:=g3.1
      simp only [q3,q4,and_self,decide_true,if_true,Bool.not_true,Option.bind_some,Bool.false_eq_true,if_false,hk,hQ,bne_self_eq_false,moved_eq g1.1,moved_eq g2.1,moved_eq g3.1,valid_eq _ (show ((trn k x.Rects x.Rects).map (mvR p.X p.Y)).length≤9223372036854775806 by rw [List.length_map]; omega),valid_eq _ (show ((trn k x.Rects x.Cuts).map (mvR p.X p.Y)).length≤9223372036854775806 by rw [List.length_map]; omega),valid_eq _ (show ((trn k x.Rects x.Forms).map (mvR p.X p.Y)).length≤9223372036854775806 by rw [List.length_map]; omega)] at hp
      refine ⟨k,hk3,q3,q4, ?_⟩
      cases c1 : ((trn k x.Rects x.Rects).map (mvR p.X p.Y)).any fun x=>!decide (vR x)
      · cases c2 : ((trn k x.Rects x.Cuts).map (mvR p.X p.Y)).any fun x=>!decide (vR x)
        · cases c3 : ((trn k x.Rects x.Forms).map (mvR p.X p.Y)).any fun x=>!decide (vR x)
          · simp only [c1,c2,c3,Bool.not_false,Bool.not_true,if_true,Option.bind_some,Bool.false_eq_true,if_false] at hp
            injection hp with hp
            injection hp with hp _
            subst hp
            refine ⟨rfl,fun r hr=>?_⟩
            have:=List.any_eq_false.1 c1 r hr
            simpa using this
          · simp only [c1,c2,c3,Bool.not_false,Bool.not_true,if_true,Option.bind_some,Bool.false_eq_true,if_false] at hp
            have:=congrArg (fun o=>(o.getD (q,0,n,m,g,h)).2.1) hp
            exact absurd this (show ¬ ((4 : Int)=0) by decide)
        · simp only [c1,c2,Bool.not_false,Bool.not_true,if_true,Option.bind_some,Bool.false_eq_true,if_false] at hp
          have:=congrArg (fun o=>(o.getD (q,0,n,m,g,h)).2.1) hp
          exact absurd this (show ¬ ((4 : Int)=0) by decide)
      · simp only [c1,Bool.not_false,Bool.not_true,if_true,Option.bind_some,Bool.false_eq_true,if_false] at hp
        have:=congrArg (fun o=>(o.getD (q,0,n,m,g,h)).2.1) hp
        exact absurd this (show ¬ ((4 : Int)=0) by decide)
    · simp only [q3,q4,and_self,decide_true,decide_false,if_true,Bool.not_false,Option.bind_some] at hp
      have:=congrArg (fun o=>(o.getD (q,0,n,m,g,h)).2.1) hp
      exact absurd this (show ¬ ((4 : Int)=0) by decide)
  · simp only [q3,decide_false,Bool.false_eq_true,if_false,Option.bind_some,if_true] at hp
    have:=congrArg (fun o=>(o.getD (q,0,n,m,g,h)).2.1) hp
    exact absurd this (show ¬ ((4 : Int)=0) by decide)
theorem bk_mv {X Y : Int} (hX : -1048576≤X∧X≤1048576) (hY : -1048576≤Y∧Y≤1048576) {r : Rect} (hr : vR r) : bkR X Y (mvR X Y r)=r:=by
  unfold vR at hr
  unfold mvR bkR
  rw [iadd_eq (by omega) (by omega),iadd_eq (by omega) (by omega)]
  rw [if_neg (by simp only; omega)]
  simp only
  rw [isub_eq (by omega) (by omega),isub_eq (by omega) (by omega)]
  cases r
  simp only [Rect.mk.injEq,and_true]
  omega
theorem placed_right {x : Piece} {p : Placement} {q : Piece} {n m g h} (hx : nest_ValidatePiece x=some 0) (hp : nest_Put x p=some (q,0,n,m,g,h)) : cut_pieceError q=some 0:=by
  obtain ⟨k,hk,hX,hY,rfl,hv⟩:=Put_form hx hp
  obtain ⟨_,a,b,g1,g2,g3⟩:=Quarter_trn hx k hk
  obtain ⟨_,pv⟩:=Put_at0 hx k hk
  obtain ⟨z,hz,_,hvp⟩:=Piece_facts x
  have vp:=hvp (Option.some.inj (hz.symm.trans hx))
  have hne : 0 < (trn k x.Rects x.Rects).length:=by unfold trn nrm; rw [List.length_map,tq_length]; exact vp.n0
  have hl0 : lo (trn k x.Rects x.Rects)=(0,0):=lo_nrm (tq_ne k vp.n0 : tq k x.Rects≠[])
  generalize trn k x.Rects x.Rects=A at *
  generalize trn k x.Rects x.Cuts=B at *
  generalize trn k x.Rects x.Forms=C at *
  have n1:=g1.1; have n2:=g2.1; have n3:=g3.1
  have mt : A.map (mvR p.X p.Y)=A.map (trR p.X p.Y):=List.map_congr_left fun r hr=>by
    have:=(g1.2 r hr).1
    unfold vR at this
    unfold mvR trR
    rw [iadd_eq (by omega) (by omega),iadd_eq (by omega) (by omega)]
  have bk : ∀ {l : List Rect},Good a b l→(l.map (mvR p.X p.Y)).map (bkR p.X p.Y)=l:=fun {l} gl=>by
    rw [List.map_map]
    conv=>rhs; rw [← List.map_id l]
    exact List.map_congr_left fun r hr=>bk_mv hX hY (gl.2 r hr).1
  have hlo : lo (A.map (mvR p.X p.Y))=(p.X,p.Y):=by
    rw [mt,lo_tr (by intro e; rw [e] at hne; simp at hne),hl0]
    refine Prod.ext ?_ ?_ <;> simp
  have lA : (A.map (mvR p.X p.Y)).length≤1048576:=by rw [List.length_map]; omega
  have lB : (B.map (mvR p.X p.Y)).length≤1048576:=by rw [List.length_map]; omega
  have lC : (C.map (mvR p.X p.Y)).length≤1048576:=by rw [List.length_map]; omega
  have hlen : 0 < (A.map (mvR p.X p.Y)).length:=by rw [List.length_map]; exact hne
  obtain ⟨r,t,hA⟩ : ∃ r t,A.map (mvR p.X p.Y)=r::t:=by
    cases e : A.map (mvR p.X p.Y) with
    | nil=>rw [e] at hlen; simp at hlen
    | cons r t=>exact ⟨r,t,rfl⟩
  have hr : (A.map (mvR p.X p.Y))[0]?=some r:=by rw [hA]; rfl
  have i0 : idx (A.map (mvR p.X p.Y)) 0=some r:=idx_of (k:=0) hr
  have lx : lowX (A.map (mvR p.X p.Y)) r.X=p.X∧lowY (A.map (mvR p.X p.Y)) r.Y=p.Y:=by
    have : lo (A.map (mvR p.X p.Y))=(lowX (A.map (mvR p.X p.Y)) r.X,lowY (A.map (mvR p.X p.Y)) r.Y):=by rw [hA]; rfl
    rw [this] at hlo
    exact ⟨congrArg Prod.fst hlo,congrArg Prod.snd hlo⟩
  have k1 : loopT (cut_pieceError_l1 ⟨x.Name,x.Material,x.Gauge,x.Grain,A.map (mvR p.X p.Y),B.map (mvR p.X p.Y),C.map (mvR p.X p.Y)⟩) 0=some (.inr ()):=by
    have:=loop_anyS (A.map (mvR p.X p.Y)) (cut_pieceError_l1 ⟨x.Name,x.Material,x.Gauge,x.Grain,A.map (mvR p.X p.Y),B.map (mvR p.X p.Y),C.map (mvR p.X p.Y)⟩) (fun k=>(k : Int)) (fun x=>!decide (vR x)) (.inr ()) (.inl ()) rfl (fun k y hy=>?_) ?_
    · refine this.trans ?_
      have : ((A.map (mvR p.X p.Y)).any fun x=>!decide (vR x))=false:=by
        rw [List.any_eq_false]; intro y hy; simp [hv y hy]
      rw [this]; rfl
    · have hk:=(List.getElem?_eq_some_iff.1 hy).1
      unfold cut_pieceError_l1
      have h1 : decide ((k : Int) < ((A.map (mvR p.X p.Y)).length : Int))=true:=by rw [decide_eq_true_eq]; omega
      simp only [h1,if_true,idx_of hy,Option.bind_some,ValidRect_eq]
      rw [iadd_eq (a:=(k : Int)) (by omega) (by omega)]
      rfl
    · simp [cut_pieceError_l1]
  have bl:=base_loop ⟨x.Name,x.Material,x.Gauge,x.Grain,A.map (mvR p.X p.Y),B.map (mvR p.X p.Y),C.map (mvR p.X p.Y)⟩ lA r.X r.Y
  have h0 : (((A.map (mvR p.X p.Y)).length : Int)==0)=false:=by rw [beq_eq_false_iff_ne]; omega
  unfold cut_pieceError
  simp only [k1,Option.bind_some,h0,Bool.false_eq_true,if_false,i0,bl,lx.1,lx.2,back_eq lA,back_eq lB,back_eq lC,bk g1,bk g2,bk g3,pv]
end Go.SM
