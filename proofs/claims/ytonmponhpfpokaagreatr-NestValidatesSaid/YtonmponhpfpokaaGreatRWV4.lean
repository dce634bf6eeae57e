/- Each Go function does what its model says; written by a program out of the translation. -/
import Derived.Test.YtonmponhpfpokaaGreatRWV3
import Derived.Test.YtonmponhpfpokaaGreatRNeMV
set_option linter.unusedVariables false
set_option linter.unusedSimpArgs false
set_option linter.unusedSectionVars false
namespace Go.Proofs.YtonmponhpfpokaaGreatR
open Go Go.VI Go.SM Go.Proofs
set_option maxRecDepth 100000
set_option maxHeartbeats 4000000
theorem W.sheetmetalref06_ValidatePiece_ok {x0 : Piece} {r : Int} (h : sheetmetalref06_ValidatePiece x0 = some r) : PC G.P 18 [(.agg (c_Piece x0))] [] (vI r) [] := by
 refine pc_of G (fn := Tryz.f18) Tryz.func18 (by kernel_rfl) (by kernel_rfl) (by kernel_rfl) (by kernel_rfl) (by kernel_rfl) ?_
 refine sem_set ⟨[(0, (.agg (c_Piece x0)))], []⟩ (by kernel_rfl) ?_
 refine z3 2 ⟨[(1, (.ptr 1 0))], [(1, .box (c_Piece x0))]⟩ (by kernel_rfl) ?_
 refine z7 (by kernel_rfl) ?_
 refine evs_run 8 (by kernel_rfl) ?_
 obtain ⟨r2, hr2, h⟩ := bindS h
 refine evs_callP [] (by kernel_rfl) (W.sheetmetalref06_stuff_ok hr2) (by kernel_rfl) (.inl rfl) (by kernel_rfl) ?_
 refine z1 1 ⟨[(1, (.ptr 1 0)), (3, (vI r2))], [(1, .box (c_Piece x0))]⟩ (by kernel_rfl) ?_
 refine sem_seq (by kernel_rfl) ?_
 refine z3 2 ⟨[(1, (.ptr 1 0)), (3, (vI r2)), (21, (vB (r2 != 0)))], [(1, .box (c_Piece x0))]⟩ (by kernel_rfl) ?_
 refine sem_cond (r2 != 0) (by kernel_rfl) (by kernel_rfl) (fun hb => ?_) (fun hb => ?_)
 ·replace h := iteT hb h
  refine z8 2 ⟨[(2, (vI r2))], []⟩ (by kernel_rfl) (fun τ hτ => ?_)
  refine th_ret ?_
  obtain rfl := Option.some.inj h
  exact rk_ret hτ [(2, (vI r2))] (here (by kernel_rfl)) (by kernel_rfl)
 ·replace h := iteF hb h
  refine z4 ⟨[(1, (.ptr 1 0))], [(1, .box (c_Piece x0))]⟩ (by kernel_rfl) ?_
  refine sem_seq (by kernel_rfl) ?_
  refine sem_seq (by kernel_rfl) ?_
  obtain ⟨j4, hj4, h⟩ := bindS h
  refine sem_regionC ⟨[(1, (.ptr 500000 0)), (38, (vB j4))], [(500000, .box (c_Piece x0))]⟩ (by kernel_rfl) ?_ (fun τ hτ => ?_)
  ·replace h := hj4
   refine evs_run 2 (by kernel_rfl) ?_
   refine evs_op (st_len (c := c_Rect) (l := x0.Rects) (x := (.sl (List.map c_Rect x0.Rects))) (by kernel_rfl) (by kernel_rfl)) ?_
   refine evs_run 2 (by kernel_rfl) ?_
   refine evs_split (decide ((x0.Rects.length : Int) > 12)) (fun b0 => ⟨[(1, (.ptr 1 0)), (27, (vB b0))], [(1, .box (c_Piece x0))]⟩) (by kernel_rfl) (fun hb => ?_) (fun hb => ?_)
   ·replace h := iteT hb h
    refine z6 11 (by kernel_rfl) (fun τ hτ => ?_)
    obtain rfl := Option.some.inj h
    exact leafC hτ (subR_prep [] [(1, 500000)] (by kernel_rfl) rfl rfl (by kernel_rfl))
   ·replace h := iteF hb h
    refine evs_run 2 (by kernel_rfl) ?_
    refine evs_op (st_len (c := c_Rect) (l := x0.Cuts) (x := (.sl (List.map c_Rect x0.Cuts))) (by kernel_rfl) (by kernel_rfl)) ?_
    refine evs_run 3 (by kernel_rfl) ?_
    refine evs_split (decide ((x0.Cuts.length : Int) > 12)) (fun b0 => ⟨[(1, (.ptr 1 0)), (33, (vB b0))], [(1, .box (c_Piece x0))]⟩) (by kernel_rfl) (fun hb => ?_) (fun hb => ?_)
    ·replace h := iteT hb h
     refine z6 5 (by kernel_rfl) (fun τ hτ => ?_)
     obtain rfl := Option.some.inj h
     exact leafC hτ (subR_prep [] [(1, 500000)] (by kernel_rfl) rfl rfl (by kernel_rfl))
    ·replace h := iteF hb h
     refine evs_run 2 (by kernel_rfl) ?_
     refine evs_op (st_len (c := c_Rect) (l := x0.Forms) (x := (.sl (List.map c_Rect x0.Forms))) (by kernel_rfl) (by kernel_rfl)) ?_
     refine z6 2 (by kernel_rfl) (fun τ hτ => ?_)
     obtain rfl := Option.some.inj h
     exact leafC hτ (subR_prep [] [(1, 500000)] (by kernel_rfl) rfl rfl (by kernel_rfl))
  refine th_normalS hτ ⟨[(1, (.ptr 500000 0)), (38, (vB j4))], [(500000, .box (c_Piece x0))]⟩ (here (by kernel_rfl)) ?_
  refine sem_cond j4 (by kernel_rfl) (by kernel_rfl) (fun hb => ?_) (fun hb => ?_)
  ·replace h := iteT hb h
   refine z8 1 ⟨[(2, (vI 4))], []⟩ (by kernel_rfl) (fun τ hτ => ?_)
   refine th_ret ?_
   obtain rfl := Option.some.inj h
   exact rk_ret hτ [(2, (vI 4))] (here (by kernel_rfl)) (by kernel_rfl)
  ·replace h := iteF hb h
   refine z4 ⟨[(1, (.ptr 500000 0))], [(500000, .box (c_Piece x0))]⟩ (by kernel_rfl) ?_
   refine sem_seq (by kernel_rfl) ?_
   refine sem_seq (by kernel_rfl) ?_
   obtain ⟨j15, hj15, h⟩ := bindS h
   refine sem_regionC ⟨[(1, (.ptr 500000 0)), (60, (vB j15))], [(500000, .box (c_Piece x0))]⟩ (by kernel_rfl) ?_ (fun τ hτ => ?_)
   ·replace h := hj15
    refine evs_run 2 (by kernel_rfl) ?_
    refine evs_op (st_len (c := c_Rect) (l := x0.Rects) (x := (.sl (List.map c_Rect x0.Rects))) (by kernel_rfl) (by kernel_rfl)) ?_
    refine evs_run 2 (by kernel_rfl) ?_
    refine evs_split ((x0.Rects.length : Int) == 0) (fun b0 => ⟨[(1, (.ptr 500000 0)), (43, (vB b0))], [(500000, .box (c_Piece x0))]⟩) (by kernel_rfl) (fun hb => ?_) (fun hb => ?_)
    ·replace h := iteT hb h
     refine z6 17 (by kernel_rfl) (fun τ hτ => ?_)
     obtain rfl := Option.some.inj h
     exact leafC hτ (here (by kernel_rfl))
    ·replace h := iteF hb h
     refine evs_run 2 (by kernel_rfl) ?_
     obtain ⟨r16, hr16, h⟩ := bindS h
     refine evs_callP [] (by kernel_rfl) (W.sheetmetalref06_Rights_ok hr16) (by kernel_rfl) (.inl rfl) (by kernel_rfl) ?_
     refine evs_run 3 (by kernel_rfl) ?_
     refine evs_split r16 (fun b0 => ⟨[(1, (.ptr 500000 0)), (49, (vB (!b0)))], [(500000, .box (c_Piece x0))]⟩) (by kernel_rfl) (fun hb => ?_) (fun hb => ?_)
     ·replace h := iteT hb h
      refine evs_run 2 (by kernel_rfl) ?_
      obtain ⟨r17, hr17, h⟩ := bindS h
      refine evs_callP [] (by kernel_rfl) (W.sheetmetalref06_Rights_ok hr17) (by kernel_rfl) (.inl rfl) (by kernel_rfl) ?_
      refine evs_run 3 (by kernel_rfl) ?_
      refine evs_split r17 (fun b0 => ⟨[(1, (.ptr 500000 0)), (55, (vB (!b0)))], [(500000, .box (c_Piece x0))]⟩) (by kernel_rfl) (fun hb => ?_) (fun hb => ?_)
      ·replace h := iteT hb h
       refine evs_run 2 (by kernel_rfl) ?_
       obtain ⟨r18, hr18, h⟩ := bindS h
       refine evs_callP [] (by kernel_rfl) (W.sheetmetalref06_Rights_ok hr18) (by kernel_rfl) (.inl rfl) (by kernel_rfl) ?_
       refine z6 2 (by kernel_rfl) (fun τ hτ => ?_)
       obtain rfl := Option.some.inj h
       exact leafC hτ (here (by kernel_rfl))
      ·replace h := iteF hb h
       refine z6 5 (by kernel_rfl) (fun τ hτ => ?_)
       obtain rfl := Option.some.inj h
       exact leafC hτ (here (by kernel_rfl))
     ·replace h := iteF hb h
      refine z6 11 (by kernel_rfl) (fun τ hτ => ?_)
      obtain rfl := Option.some.inj h
      exact leafC hτ (here (by kernel_rfl))
   refine th_normalS hτ ⟨[(1, (.ptr 500000 0)), (60, (vB j15))], [(500000, .box (c_Piece x0))]⟩ (here (by kernel_rfl)) ?_
   refine sem_cond j15 (by kernel_rfl) (by kernel_rfl) (fun hb => ?_) (fun hb => ?_)
   ·replace h := iteT hb h
    refine z8 1 ⟨[(2, (vI 1))], []⟩ (by kernel_rfl) (fun τ hτ => ?_)
    refine th_ret ?_
    obtain rfl := Option.some.inj h
    exact rk_ret hτ [(2, (vI 1))] (here (by kernel_rfl)) (by kernel_rfl)
   ·replace h := iteF hb h
    refine z4 ⟨[(1, (.ptr 500000 0))], [(500000, .box (c_Piece x0))]⟩ (by kernel_rfl) ?_
    refine z7 (by kernel_rfl) ?_
    refine evs_run 2 (by kernel_rfl) ?_
    obtain ⟨r20, hr20, h⟩ := bindS h
    refine evs_callP [] (by kernel_rfl) (W.sheetmetalref06_least_ok hr20) (by kernel_rfl) (.inl rfl) (by kernel_rfl) ?_
    refine z1 5 ⟨[(1, (.ptr 500000 0)), (4, (vI r20.1)), (5, (vI r20.2))], [(500000, .box (c_Piece x0))]⟩ (by kernel_rfl) ?_
    refine sem_seq (by kernel_rfl) ?_
    refine sem_seq (by kernel_rfl) ?_
    obtain ⟨j22, hj22, h⟩ := bindS h
    refine sem_regionC ⟨[(1, (.ptr 500000 0)), (72, (vB j22))], [(500000, .box (c_Piece x0))]⟩ (by kernel_rfl) ?_ (fun τ hτ => ?_)
    ·replace h := hj22
     refine evs_run 3 (by kernel_rfl) ?_
     refine evs_split (r20.1 != 0) (fun b0 => ⟨[(1, (.ptr 500000 0)), (5, (vI r20.2)), (69, (vB b0))], [(500000, .box (c_Piece x0))]⟩) (by kernel_rfl) (fun hb => ?_) (fun hb => ?_)
     ·replace h := iteT hb h
      refine z6 3 (by kernel_rfl) (fun τ hτ => ?_)
      obtain rfl := Option.some.inj h
      exact leafC hτ (here (by kernel_rfl))
     ·replace h := iteF hb h
      refine z6 3 (by kernel_rfl) (fun τ hτ => ?_)
      obtain rfl := Option.some.inj h
      exact leafC hτ (here (by kernel_rfl))
    refine th_normalS hτ ⟨[(1, (.ptr 500000 0)), (72, (vB j22))], [(500000, .box (c_Piece x0))]⟩ (here (by kernel_rfl)) ?_
    refine sem_cond j22 (by kernel_rfl) (by kernel_rfl) (fun hb => ?_) (fun hb => ?_)
    ·replace h := iteT hb h
     refine z8 1 ⟨[(2, (vI 1))], []⟩ (by kernel_rfl) (fun τ hτ => ?_)
     refine th_ret ?_
     obtain rfl := Option.some.inj h
     exact rk_ret hτ [(2, (vI 1))] (here (by kernel_rfl)) (by kernel_rfl)
    ·replace h := iteF hb h
     refine z4 ⟨[(1, (.ptr 500000 0))], [(500000, .box (c_Piece x0))]⟩ (by kernel_rfl) ?_
     refine sem_seq (by kernel_rfl) ?_
     refine z3 1 ⟨[(1, (.ptr 500000 0)), (6, (vI 0))], [(500000, .box (c_Piece x0))]⟩ (by kernel_rfl) ?_
     refine sem_block (by kernel_rfl) ?_
     obtain ⟨x138, hx138, h⟩ := bindS h
     refine sem_loopS (fun (s101 : Int) => ⟨[(1, (.ptr 500000 0)), (6, (vI s101))], [(500000, .box (c_Piece x0))]⟩) (fun (x138 : Unit ⊕ Unit) => match x138 with | .inl j139 => (.ret, ⟨[(2, (vI 7))], []⟩) | .inr j140 => (.exit 0, ⟨[(1, (.ptr 500000 0))], [(500000, .box (c_Piece x0))]⟩)) (sheetmetalref06_ValidatePiece_l1 x0) 0 x138 (by kernel_rfl) (here (by kernel_rfl)) hx138 ?_ ?_ ?_
     ·intro s101 r h
      refine sem_seq (by kernel_rfl) ?_
      refine z7 (by kernel_rfl) ?_
      refine evs_run 3 (by kernel_rfl) ?_
      refine evs_op (st_len (c := c_Rect) (l := x0.Rects) (x := (.sl (List.map c_Rect x0.Rects))) (by kernel_rfl) (by kernel_rfl)) ?_
      refine z1 1 ⟨[(1, (.ptr 500000 0)), (6, (vI s101)), (77, (vB (decide (s101 < (x0.Rects.length : Int)))))], [(500000, .box (c_Piece x0))]⟩ (by kernel_rfl) ?_
      refine sem_cond (decide (s101 < (x0.Rects.length : Int))) (by kernel_rfl) (by kernel_rfl) (fun hb => ?_) (fun hb => ?_)
      ·replace h := iteT hb h
       refine z4 ⟨[(1, (.ptr 500000 0)), (6, (vI s101))], [(500000, .box (c_Piece x0))]⟩ (by kernel_rfl) ?_
       refine sem_seq (by kernel_rfl) ?_
       refine sem_block (by kernel_rfl) ?_
       refine sem_seq (by kernel_rfl) ?_
       refine sem_drawN [] [] [] [] [] 9 (by kernel_rfl) (by kernel_rfl) (by kernel_rfl) ?_
       refine evd_run 3 (by kernel_rfl) ?_
       obtain ⟨x135, hx135, h⟩ := bindS h
       refine evd_val (by kernel_rfl) (st_idx (c := c_Rect) (l := x0.Rects) (i := s101) (kd := .i64) (sz := 4) (by kernel_rfl) hx135 rfl) (by kernel_rfl) (by kernel_rfl) ?_
       refine evd_run 4 (by kernel_rfl) ?_
       obtain ⟨l136, hl136, h⟩ := bindS h
       refine evd_val (by kernel_rfl) (st_slH (c := c_Rect) (l := x0.Rects) (sz := 4) (hi := s101) (k2 := .i64) (by kernel_rfl) hl136) (by kernel_rfl) (by kernel_rfl) ?_
       refine evd_end (by kernel_rfl) ?_
       obtain ⟨r137, hr137, h⟩ := bindS h
       refine evo_callP [] (by kernel_rfl) (W.sheetmetalref06_Meets_ok hr137) (by kernel_rfl) (.inl rfl) (by kernel_rfl) ?_
       refine evo_endS (by kernel_rfl) (fun τ hτ => ?_)
       refine th_normalS hτ ⟨[(1, (.ptr 500000 0)), (6, (vI s101)), (89, (vB r137))], [(500000, .box (c_Piece x0))]⟩ (here (by kernel_rfl)) ?_
       refine sem_cond r137 (by kernel_rfl) (by kernel_rfl) (fun hb => ?_) (fun hb => ?_)
       ·replace h := iteT hb h
        refine z8 1 ⟨[(2, (vI 7))], []⟩ (by kernel_rfl) (fun τ hτ => ?_)
        refine bl_ret ?_
        refine th_ret ?_
        obtain rfl := Option.some.inj h
        exact lk_outS hτ rfl (here (by kernel_rfl))
       ·replace h := iteF hb h
        refine sem_skipS (by kernel_rfl) (fun τ hτ => ?_)
        refine bl_normal ?_
        refine th_normalS hτ ⟨[(1, (.ptr 500000 0)), (6, (vI s101))], [(500000, .box (c_Piece x0))]⟩ (here (by kernel_rfl)) ?_
        refine sem_region (by kernel_rfl) ?_
        refine z6 3 (by kernel_rfl) (fun τ hτ => ?_)
        obtain rfl := Option.some.inj h
        exact lk_nextS hτ (here (by kernel_rfl))
      ·replace h := iteF hb h
       refine sem_exitS 0 (by kernel_rfl) rfl (fun τ hτ => ?_)
       refine th_exit ?_
       obtain rfl := Option.some.inj h
       exact lk_outS hτ rfl (here (by kernel_rfl))
     ·intro x
      rcases x with _ | _ <;> rfl
     ·intro τ hτ
      rcases x138 with j139 | j140
      ·refine bl_ret ?_
       refine th_ret ?_
       obtain rfl := Option.some.inj h
       exact rk_ret hτ [(2, (vI 7))] (here (by kernel_rfl)) (by kernel_rfl)
      ·refine bl_hit (by kernel_rfl) ?_
       refine th_normalS hτ ⟨[(1, (.ptr 500000 0))], [(500000, .box (c_Piece x0))]⟩ (here (by kernel_rfl)) ?_
       refine sem_seq (by kernel_rfl) ?_
       refine z7 (by kernel_rfl) ?_
       refine evs_run 2 (by kernel_rfl) ?_
       obtain ⟨r144, hr144, h⟩ := bindS h
       refine evs_callP [] (by kernel_rfl) (W.sheetmetalref06_connected_ok hr144) (by kernel_rfl) (.inl rfl) (by kernel_rfl) ?_
       refine z1 1 ⟨[(1, (.ptr 500000 0)), (93, (vB (!r144)))], [(500000, .box (c_Piece x0))]⟩ (by kernel_rfl) ?_
       refine sem_cond (!r144) (by kernel_rfl) (by kernel_rfl) (fun hb => ?_) (fun hb => ?_)
       ·replace h := iteT hb h
        refine z8 1 ⟨[(2, (vI 6))], []⟩ (by kernel_rfl) (fun τ hτ => ?_)
        refine th_ret ?_
        obtain rfl := Option.some.inj h
        exact rk_ret hτ [(2, (vI 6))] (here (by kernel_rfl)) (by kernel_rfl)
       ·replace h := iteF hb h
        refine z4 ⟨[(1, (.ptr 500000 0))], [(500000, .box (c_Piece x0))]⟩ (by kernel_rfl) ?_
        refine sem_seq (by kernel_rfl) ?_
        refine sem_draw [(0, [94]), (3, [94, 600003])] [(0, [94]), (3, [600003])] [] [(1, [94]), (2, [94]), (4, [94, 600003]), (5, [94, 600003])] [(0, [600003]), (1, [94, 600003]), (2, [94, 600003]), (4, [94, 600003]), (5, [94, 600003])] 6 (by kernel_rfl) (by kernel_rfl) [600003, 94] (by kernel_rfl) (by kernel_rfl) ?_
        refine evd_build (e := 86) (d := 94) (es := (List.map c_Rect [])) (by kernel_rfl) (by kernel_rfl) (by kernel_rfl) (by kernel_rfl) (by kernel_rfl) (by kernel_rfl) ?_
        refine evd_run 2 (by kernel_rfl) ?_
        obtain ⟨l149, hl149, h⟩ := bindS h
        refine evd_app (c := c_Rect) (l := []) (l2 := x0.Cuts) (x := (.sl (List.map c_Rect x0.Cuts))) (g := 94) (g2 := 600003) (e := 86) (sz := 4) (d := 97) (by kernel_rfl) (by kernel_rfl) (by kernel_rfl) (by kernel_rfl) (by kernel_rfl) (fun _ => rfl) hl149 (by kernel_rfl) (by kernel_rfl) (by kernel_rfl) (by kernel_rfl) (by kernel_rfl) ?_
        refine evd_run 2 (by kernel_rfl) ?_
        refine evd_end (by kernel_rfl) ?_
        obtain ⟨l150, hl150, h⟩ := bindS h
        refine evo_op (st_app (c := c_Rect) (l := l149) (l2 := x0.Forms) (x := (.sl (List.map c_Rect x0.Forms))) (g := 600003) (e := 86) (sz := 4) (d := 100) (by kernel_rfl) (by kernel_rfl) (by kernel_rfl) (by kernel_rfl) (fun _ => rfl) rfl hl150) ?_
        refine evo_run 1 (by kernel_rfl) ?_
        refine evo_endS (by kernel_rfl) (fun τ hτ => ?_)
        refine th_normalS hτ ⟨[(1, (.ptr 500000 0)), (7, (.row (.top 600003) 86))], [(500000, .box (c_Piece x0)), (600003, .row 86 [] (List.map c_Rect l150))]⟩ (here (by kernel_rfl)) ?_
        refine sem_seq (by kernel_rfl) ?_
        refine z3 1 ⟨[(1, (.ptr 500000 0)), (7, (.row (.top 600003) 86)), (8, (vI 0))], [(500000, .box (c_Piece x0)), (600003, .row 86 [] (List.map c_Rect l150))]⟩ (by kernel_rfl) ?_
        refine sem_block (by kernel_rfl) ?_
        obtain ⟨x314, hx314, h⟩ := bindS h
        refine sem_loopS (fun (s261 : Int) => ⟨[(1, (.ptr 500000 0)), (7, (.row (.top 500001) 86)), (8, (vI s261))], [(500000, .box (c_Piece x0)), (500001, .row 86 [] (List.map c_Rect l150))]⟩) (fun (x314 : Unit ⊕ Unit) => match x314 with | .inl j315 => (.ret, ⟨[(2, (vI 13))], []⟩) | .inr j316 => (.exit 2, ⟨[(7, (.row (.top 500000) 86))], [(500000, .row 86 [] (List.map c_Rect l150))]⟩)) (sheetmetalref06_ValidatePiece_l2 x0 l150) 0 x314 (by kernel_rfl) (subR_prep [] [(500000, 500000), (600003, 500001)] (by kernel_rfl) rfl rfl (by kernel_rfl)) hx314 ?_ ?_ ?_
        ·intro s261 r h
         refine sem_seq (by kernel_rfl) ?_
         refine z7 (by kernel_rfl) ?_
         refine evs_run 2 (by kernel_rfl) ?_
         refine evs_op (st_len (c := c_Rect) (l := l150) (x := (.row (.top 500001) 86)) (by kernel_rfl) (by kernel_rfl)) ?_
         refine z1 1 ⟨[(1, (.ptr 500000 0)), (7, (.row (.top 500001) 86)), (8, (vI s261)), (104, (vB (decide (s261 < (l150.length : Int)))))], [(500000, .box (c_Piece x0)), (500001, .row 86 [] (List.map c_Rect l150))]⟩ (by kernel_rfl) ?_
         refine sem_cond (decide (s261 < (l150.length : Int))) (by kernel_rfl) (by kernel_rfl) (fun hb => ?_) (fun hb => ?_)
         ·replace h := iteT hb h
          refine z4 ⟨[(1, (.ptr 500000 0)), (7, (.row (.top 500001) 86)), (8, (vI s261))], [(500000, .box (c_Piece x0)), (500001, .row 86 [] (List.map c_Rect l150))]⟩ (by kernel_rfl) ?_
          refine sem_seq (by kernel_rfl) ?_
          refine sem_block (by kernel_rfl) ?_
          refine sem_seq (by kernel_rfl) ?_
          obtain ⟨j309, hj309, h⟩ := bindS h
          refine sem_drawP ⟨[(1, (.ptr 500000 0)), (7, (.row (.top 500001) 86)), (8, (vI s261)), (137, (vB j309))], [(500000, .box (c_Piece x0)), (500001, .row 86 [] (List.map c_Rect l150))]⟩ [] [] [] [] [] 24 (by kernel_rfl) (by kernel_rfl) (by kernel_rfl) ?_ (fun τ hτ => ?_)
          ·replace h := hj309
           refine evd_run 2 (by kernel_rfl) ?_
           obtain ⟨x310, hx310, h⟩ := bindS h
           refine evd_val (by kernel_rfl) (st_idxO (c := c_Rect) (l := l150) (i := s261) (kd := .i64) (kk := (.top 500001)) (e := 86) (sz := 4) (by kernel_rfl) (by kernel_rfl) hx310 rfl) (by kernel_rfl) (by kernel_rfl) ?_
           refine evd_val (by kernel_rfl) (st_ldO (c := c_Rect) (l := l150) (i := (Int.toNat s261)) (v := (.agg (c_Rect x310))) (agg := true) (sz := 4) (kk := (.top 500001)) (e := 86) (off := 0) (J := []) (by kernel_rfl) (by kernel_rfl) (by kernel_rfl) ((idxS hx310).2) (by kernel_rfl)) (by kernel_rfl) (by kernel_rfl) ?_
           refine evd_run 2 (by kernel_rfl) ?_
           obtain ⟨r311, hr311, h⟩ := bindS h
           refine evd_callS [] [] (by kernel_rfl) (by kernel_rfl) (W.sheetmetalref06_deep_ok hr311) (by kernel_rfl) (.inl rfl) (by kernel_rfl) (by kernel_rfl) ?_
           refine evd_run 2 (by kernel_rfl) ?_
           refine evd_split r311 (fun b0 => ⟨[(115, (vB (!b0))), (114, (vB (!b0))), (113, (vB b0)), (112, (.sl (List.map c_Rect x0.Rects))), (111, (.ptr 500000 4)), (110, (.agg (c_Rect x310))), (109, (.rptr (.top 500001) 86 (Int.toNat s261) 0)), (108, (vI s261)), (107, (.row (.top 500001) 86)), (1, (.ptr 500000 0)), (7, (.row (.top 500001) 86)), (8, (vI s261))], [(500000, .box (c_Piece x0)), (500001, .row 86 [] (List.map c_Rect l150))]⟩) (by kernel_rfl) (fun hb => ?_) (fun hb => ?_)
           ·replace h := iteT hb h
            refine evd_run 3 (by kernel_rfl) ?_
            refine evd_val (by kernel_rfl) (st_len (c := c_Rect) (l := x0.Cuts) (x := (.sl (List.map c_Rect x0.Cuts))) (by kernel_rfl) (by kernel_rfl)) (by kernel_rfl) (by kernel_rfl) ?_
            refine evd_run 2 (by kernel_rfl) ?_
            refine evd_split (decide (s261 < (x0.Cuts.length : Int))) (fun b0 => ⟨[(121, (vB b0)), (120, (vB b0)), (119, (vI (x0.Cuts.length : Int))), (118, (.sl (List.map c_Rect x0.Cuts))), (117, (.ptr 500000 5)), (116, (vI s261)), (115, (vB false)), (114, (vB false)), (113, (vB true)), (112, (.sl (List.map c_Rect x0.Rects))), (111, (.ptr 500000 4)), (110, (.agg (c_Rect x310))), (109, (.rptr (.top 500001) 86 (Int.toNat s261) 0)), (108, (vI s261)), (107, (.row (.top 500001) 86)), (1, (.ptr 500000 0)), (7, (.row (.top 500001) 86)), (8, (vI s261))], [(500000, .box (c_Piece x0)), (500001, .row 86 [] (List.map c_Rect l150))]⟩) (by kernel_rfl) (fun hb => ?_) (fun hb => ?_)
            ·replace h := iteT hb h
             refine evd_run 2 (by kernel_rfl) ?_
             obtain ⟨x312, hx312, h⟩ := bindS h
             refine evd_val (by kernel_rfl) (st_idxO (c := c_Rect) (l := l150) (i := s261) (kd := .i64) (kk := (.top 500001)) (e := 86) (sz := 4) (by kernel_rfl) (by kernel_rfl) hx312 rfl) (by kernel_rfl) (by kernel_rfl) ?_
             refine evd_run 1 (by kernel_rfl) ?_
             refine evd_val (by kernel_rfl) (st_ldO (c := c_Rect) (l := l150) (i := (Int.toNat s261)) (v := (vI x312.W)) (agg := false) (sz := 1) (kk := (.top 500001)) (e := 86) (off := 2) (J := []) (by kernel_rfl) (by kernel_rfl) (by kernel_rfl) ((idxS hx312).2) (by kernel_rfl)) (by kernel_rfl) (by kernel_rfl) ?_
             refine evd_run 2 (by kernel_rfl) ?_
             refine evd_split (x312.W == 1) (fun b0 => ⟨[(128, (vB b0)), (127, (vB b0)), (126, (vI x312.W)), (125, (.rptr (.top 500001) 86 (Int.toNat s261) 2)), (124, (.rptr (.top 500001) 86 (Int.toNat s261) 0)), (123, (vI s261)), (122, (.row (.top 500001) 86)), (121, (vB true)), (120, (vB true)), (119, (vI (x0.Cuts.length : Int))), (118, (.sl (List.map c_Rect x0.Cuts))), (117, (.ptr 500000 5)), (116, (vI s261)), (115, (vB false)), (114, (vB false)), (113, (vB true)), (112, (.sl (List.map c_Rect x0.Rects))), (111, (.ptr 500000 4)), (110, (.agg (c_Rect x310))), (109, (.rptr (.top 500001) 86 (Int.toNat s261) 0)), (108, (vI s261)), (107, (.row (.top 500001) 86)), (1, (.ptr 500000 0)), (7, (.row (.top 500001) 86)), (8, (vI s261))], [(500000, .box (c_Piece x0)), (500001, .row 86 [] (List.map c_Rect l150))]⟩) (by kernel_rfl) (fun hb => ?_) (fun hb => ?_)
             ·replace h := iteT hb h
              refine evd_run 2 (by kernel_rfl) ?_
              refine evd_end (by kernel_rfl) ?_
              refine evo_run 7 (by kernel_rfl) ?_
              refine evo_endS (by kernel_rfl) (fun τ hτ => ?_)
              obtain rfl := Option.some.inj h
              exact leafC hτ (here (by kernel_rfl))
             ·replace h := iteF hb h
              refine evd_run 2 (by kernel_rfl) ?_
              refine evd_end (by kernel_rfl) ?_
              obtain ⟨x313, hx313, h⟩ := bindS h
              refine evo_op (st_idxO (c := c_Rect) (l := l150) (i := s261) (kd := .i64) (kk := (.top 500001)) (e := 86) (sz := 4) (by kernel_rfl) (by kernel_rfl) hx313 rfl) ?_
              refine evo_run 1 (by kernel_rfl) ?_
              refine evo_op (st_ldO (c := c_Rect) (l := l150) (i := (Int.toNat s261)) (v := (vI x313.H)) (agg := false) (sz := 1) (kk := (.top 500001)) (e := 86) (off := 3) (J := []) (by kernel_rfl) (by kernel_rfl) (by kernel_rfl) ((idxS hx313).2) (by kernel_rfl)) ?_
              refine evo_run 4 (by kernel_rfl) ?_
              refine evo_endS (by kernel_rfl) (fun τ hτ => ?_)
              obtain rfl := Option.some.inj h
              exact leafC hτ (here (by kernel_rfl))
            ·replace h := iteF hb h
             refine evd_run 9 (by kernel_rfl) ?_
             refine evd_end (by kernel_rfl) ?_
             refine evo_run 7 (by kernel_rfl) ?_
             refine evo_endS (by kernel_rfl) (fun τ hτ => ?_)
             obtain rfl := Option.some.inj h
             exact leafC hτ (here (by kernel_rfl))
           ·replace h := iteF hb h
            refine evd_run 15 (by kernel_rfl) ?_
            refine evd_end (by kernel_rfl) ?_
            refine evo_run 7 (by kernel_rfl) ?_
            refine evo_endS (by kernel_rfl) (fun τ hτ => ?_)
            obtain rfl := Option.some.inj h
            exact leafC hτ (here (by kernel_rfl))
          refine th_normalS hτ ⟨[(1, (.ptr 500000 0)), (7, (.row (.top 500001) 86)), (8, (vI s261)), (137, (vB j309))], [(500000, .box (c_Piece x0)), (500001, .row 86 [] (List.map c_Rect l150))]⟩ (here (by kernel_rfl)) ?_
          refine sem_cond j309 (by kernel_rfl) (by kernel_rfl) (fun hb => ?_) (fun hb => ?_)
          ·replace h := iteT hb h
           refine z8 1 ⟨[(2, (vI 13))], []⟩ (by kernel_rfl) (fun τ hτ => ?_)
           refine bl_ret ?_
           refine th_ret ?_
           obtain rfl := Option.some.inj h
           exact lk_outS hτ rfl (here (by kernel_rfl))
          ·replace h := iteF hb h
           refine sem_skipS (by kernel_rfl) (fun τ hτ => ?_)
           refine bl_normal ?_
           refine th_normalS hτ ⟨[(1, (.ptr 500000 0)), (7, (.row (.top 500001) 86)), (8, (vI s261))], [(500000, .box (c_Piece x0)), (500001, .row 86 [] (List.map c_Rect l150))]⟩ (here (by kernel_rfl)) ?_
           refine sem_region (by kernel_rfl) ?_
           refine z6 3 (by kernel_rfl) (fun τ hτ => ?_)
           obtain rfl := Option.some.inj h
           exact lk_nextS hτ (here (by kernel_rfl))
         ·replace h := iteF hb h
          refine sem_exitS 2 (by kernel_rfl) rfl (fun τ hτ => ?_)
          refine th_exit ?_
          obtain rfl := Option.some.inj h
          exact lk_outS hτ rfl (subR_prep [] [(500001, 500000)] (by kernel_rfl) rfl rfl (by kernel_rfl))
        ·intro x
         rcases x with _ | _ <;> rfl
        ·intro τ hτ
         rcases x314 with j315 | j316
         ·refine bl_ret ?_
          refine th_ret ?_
          obtain rfl := Option.some.inj h
          exact rk_ret hτ [(2, (vI 13))] (here (by kernel_rfl)) (by kernel_rfl)
         ·refine bl_hit (by kernel_rfl) ?_
          refine th_normalS hτ ⟨[(7, (.row (.top 500000) 86))], [(500000, .row 86 [] (List.map c_Rect l150))]⟩ (here (by kernel_rfl)) ?_
          refine sem_seq (by kernel_rfl) ?_
          refine z3 1 ⟨[(7, (.row (.top 500000) 86)), (9, (vI 0))], [(500000, .row 86 [] (List.map c_Rect l150))]⟩ (by kernel_rfl) ?_
          refine sem_block (by kernel_rfl) ?_
          obtain ⟨x804, hx804, h⟩ := bindS h
          refine sem_loopS (fun (s567 : Int) => ⟨[(7, (.row (.top 500000) 86)), (9, (vI s567))], [(500000, .row 86 [] (List.map c_Rect l150))]⟩) (fun (x804 : Unit ⊕ Unit) => match x804 with | .inl j805 => (.ret, ⟨[(2, (vI 7))], []⟩) | .inr j806 => (.exit 4, ⟨[], []⟩)) (sheetmetalref06_ValidatePiece_l4 l150) 0 x804 (by kernel_rfl) (here (by kernel_rfl)) hx804 ?_ ?_ ?_
          ·intro s567 r h
           refine sem_seq (by kernel_rfl) ?_
           refine z7 (by kernel_rfl) ?_
           refine evs_run 2 (by kernel_rfl) ?_
           refine evs_op (st_len (c := c_Rect) (l := l150) (x := (.row (.top 500000) 86)) (by kernel_rfl) (by kernel_rfl)) ?_
           refine z1 1 ⟨[(7, (.row (.top 500000) 86)), (9, (vI s567)), (141, (vB (decide (s567 < (l150.length : Int)))))], [(500000, .row 86 [] (List.map c_Rect l150))]⟩ (by kernel_rfl) ?_
           refine sem_cond (decide (s567 < (l150.length : Int))) (by kernel_rfl) (by kernel_rfl) (fun hb => ?_) (fun hb => ?_)
           ·replace h := iteT hb h
            refine z4 ⟨[(7, (.row (.top 500000) 86)), (9, (vI s567))], [(500000, .row 86 [] (List.map c_Rect l150))]⟩ (by kernel_rfl) ?_
            refine sem_seq (by kernel_rfl) ?_
            refine sem_block (by kernel_rfl) ?_
            refine z3 1 ⟨[(7, (.row (.top 500000) 86)), (9, (vI s567)), (10, (vI 0))], [(500000, .row 86 [] (List.map c_Rect l150))]⟩ (by kernel_rfl) ?_
            refine sem_block (by kernel_rfl) ?_
            obtain ⟨x801, hx801, h⟩ := bindS h
            refine sem_loopS (fun (s764 : Int) => ⟨[(7, (.row (.top 500000) 86)), (9, (vI s567)), (10, (vI s764))], [(500000, .row 86 [] (List.map c_Rect l150))]⟩) (fun (x801 : Unit ⊕ Unit) => match x801 with | .inl j802 => (.ret, ⟨[(2, (vI 7))], []⟩) | .inr j803 => (.exit 6, ⟨[(7, (.row (.top 500000) 86)), (9, (vI s567))], [(500000, .row 86 [] (List.map c_Rect l150))]⟩)) (sheetmetalref06_ValidatePiece_l3 l150 s567) 0 x801 (by kernel_rfl) (here (by kernel_rfl)) hx801 ?_ ?_ ?_
            ·intro s764 r h
             refine sem_seq (by kernel_rfl) ?_
             refine z3 3 ⟨[(7, (.row (.top 500000) 86)), (9, (vI s567)), (10, (vI s764)), (146, (vB (decide (s764 < s567))))], [(500000, .row 86 [] (List.map c_Rect l150))]⟩ (by kernel_rfl) ?_
             refine sem_cond (decide (s764 < s567)) (by kernel_rfl) (by kernel_rfl) (fun hb => ?_) (fun hb => ?_)
             ·replace h := iteT hb h
              refine z4 ⟨[(7, (.row (.top 500000) 86)), (9, (vI s567)), (10, (vI s764))], [(500000, .row 86 [] (List.map c_Rect l150))]⟩ (by kernel_rfl) ?_
              refine sem_seq (by kernel_rfl) ?_
              refine sem_block (by kernel_rfl) ?_
              refine sem_seq (by kernel_rfl) ?_
              refine sem_drawN [] [] [] [] [] 8 (by kernel_rfl) (by kernel_rfl) (by kernel_rfl) ?_
              refine evd_run 2 (by kernel_rfl) ?_
              obtain ⟨x798, hx798, h⟩ := bindS h
              refine evd_val (by kernel_rfl) (st_idxO (c := c_Rect) (l := l150) (i := s567) (kd := .i64) (kk := (.top 500000)) (e := 86) (sz := 4) (by kernel_rfl) (by kernel_rfl) hx798 rfl) (by kernel_rfl) (by kernel_rfl) ?_
              refine evd_val (by kernel_rfl) (st_ldO (c := c_Rect) (l := l150) (i := (Int.toNat s567)) (v := (.agg (c_Rect x798))) (agg := true) (sz := 4) (kk := (.top 500000)) (e := 86) (off := 0) (J := []) (by kernel_rfl) (by kernel_rfl) (by kernel_rfl) ((idxS hx798).2) (by kernel_rfl)) (by kernel_rfl) (by kernel_rfl) ?_
              refine evd_run 2 (by kernel_rfl) ?_
              obtain ⟨x799, hx799, h⟩ := bindS h
              refine evd_val (by kernel_rfl) (st_idxO (c := c_Rect) (l := l150) (i := s764) (kd := .i64) (kk := (.top 500000)) (e := 86) (sz := 4) (by kernel_rfl) (by kernel_rfl) hx799 rfl) (by kernel_rfl) (by kernel_rfl) ?_
              refine evd_val (by kernel_rfl) (st_ldO (c := c_Rect) (l := l150) (i := (Int.toNat s764)) (v := (.agg (c_Rect x799))) (agg := true) (sz := 4) (kk := (.top 500000)) (e := 86) (off := 0) (J := []) (by kernel_rfl) (by kernel_rfl) (by kernel_rfl) ((idxS hx799).2) (by kernel_rfl)) (by kernel_rfl) (by kernel_rfl) ?_
              refine evd_end (by kernel_rfl) ?_
              obtain ⟨r800, hr800, h⟩ := bindS h
              refine evo_callP [] (by kernel_rfl) (W.sheetmetalref06_Apart_ok hr800) (by kernel_rfl) (.inl rfl) (by kernel_rfl) ?_
              refine evo_run 1 (by kernel_rfl) ?_
              refine evo_endS (by kernel_rfl) (fun τ hτ => ?_)
              refine th_normalS hτ ⟨[(7, (.row (.top 500000) 86)), (9, (vI s567)), (10, (vI s764)), (158, (vB (r800 == 0)))], [(500000, .row 86 [] (List.map c_Rect l150))]⟩ (here (by kernel_rfl)) ?_
              refine sem_cond (r800 == 0) (by kernel_rfl) (by kernel_rfl) (fun hb => ?_) (fun hb => ?_)
              ·replace h := iteT hb h
               refine z8 1 ⟨[(2, (vI 7))], []⟩ (by kernel_rfl) (fun τ hτ => ?_)
               refine bl_ret ?_
               refine th_ret ?_
               obtain rfl := Option.some.inj h
               exact lk_outS hτ rfl (here (by kernel_rfl))
              ·replace h := iteF hb h
               refine sem_skipS (by kernel_rfl) (fun τ hτ => ?_)
               refine bl_normal ?_
               refine th_normalS hτ ⟨[(7, (.row (.top 500000) 86)), (9, (vI s567)), (10, (vI s764))], [(500000, .row 86 [] (List.map c_Rect l150))]⟩ (here (by kernel_rfl)) ?_
               refine sem_region (by kernel_rfl) ?_
               refine z6 3 (by kernel_rfl) (fun τ hτ => ?_)
               obtain rfl := Option.some.inj h
               exact lk_nextS hτ (here (by kernel_rfl))
             ·replace h := iteF hb h
              refine sem_exitS 6 (by kernel_rfl) rfl (fun τ hτ => ?_)
              refine th_exit ?_
              obtain rfl := Option.some.inj h
              exact lk_outS hτ rfl (here (by kernel_rfl))
            ·intro x
             rcases x with _ | _ <;> rfl
            ·intro τ hτ
             rcases x801 with j802 | j803
             ·refine bl_ret ?_
              refine bl_ret ?_
              refine th_ret ?_
              obtain rfl := Option.some.inj h
              exact lk_outS hτ rfl (here (by kernel_rfl))
             ·refine bl_hit (by kernel_rfl) ?_
              refine bl_normal ?_
              refine th_normalS hτ ⟨[(7, (.row (.top 500000) 86)), (9, (vI s567))], [(500000, .row 86 [] (List.map c_Rect l150))]⟩ (here (by kernel_rfl)) ?_
              refine sem_region (by kernel_rfl) ?_
              refine z6 3 (by kernel_rfl) (fun τ hτ => ?_)
              obtain rfl := Option.some.inj h
              exact lk_nextS hτ (here (by kernel_rfl))
           ·replace h := iteF hb h
            refine sem_exitS 4 (by kernel_rfl) rfl (fun τ hτ => ?_)
            refine th_exit ?_
            obtain rfl := Option.some.inj h
            exact lk_outS hτ rfl (here (by kernel_rfl))
          ·intro x
           rcases x with _ | _ <;> rfl
          ·intro τ hτ
           rcases x804 with j805 | j806
           ·refine bl_ret ?_
            refine th_ret ?_
            obtain rfl := Option.some.inj h
            exact rk_ret hτ [(2, (vI 7))] (here (by kernel_rfl)) (by kernel_rfl)
           ·refine bl_hit (by kernel_rfl) ?_
            refine th_normalS hτ ⟨[], []⟩ (here (by kernel_rfl)) ?_
            refine z8 1 ⟨[(2, (vI 0))], []⟩ (by kernel_rfl) (fun τ hτ => ?_)
            obtain rfl := Option.some.inj h
            exact rk_ret hτ [(2, (vI 0))] (here (by kernel_rfl)) (by kernel_rfl)
theorem W.nest_ValidSettings_ok {set0 : Settings} {r : Bool} (h : nest_ValidSettings set0 = some r) : PC G.P 19 [(.agg (c_Settings set0))] [] (vB r) [] := by
 refine pc_of G (fn := Tryz.f19) Tryz.func19 (by kernel_rfl) (by kernel_rfl) (by kernel_rfl) (by kernel_rfl) (by kernel_rfl) ?_
 refine sem_set ⟨[(0, (.agg (c_Settings set0)))], []⟩ (by kernel_rfl) ?_
 refine z3 2 ⟨[(1, (.ptr 1 0))], [(1, .box (c_Settings set0))]⟩ (by kernel_rfl) ?_
 refine sem_seq (by kernel_rfl) ?_
 obtain ⟨j3, hj3, h⟩ := bindS h
 refine sem_regionC ⟨[(2, (vB j3))], []⟩ (by kernel_rfl) ?_ (fun τ hτ => ?_)
 ·replace h := hj3
  refine evs_run 2 (by kernel_rfl) ?_
  obtain ⟨r4, hr4, h⟩ := bindS h
  refine evs_callP [] (by kernel_rfl) (W.nest_from_ok hr4) (by kernel_rfl) (.inl rfl) (by kernel_rfl) ?_
  refine evs_run 1 (by kernel_rfl) ?_
  refine evs_split r4 (fun b0 => ⟨[(1, (.ptr 1 0)), (6, (vB b0))], [(1, .box (c_Settings set0))]⟩) (by kernel_rfl) (fun hb => ?_) (fun hb => ?_)
  ·replace h := iteT hb h
   refine evs_run 2 (by kernel_rfl) ?_
   obtain ⟨r5, hr5, h⟩ := bindS h
   refine evs_callP [] (by kernel_rfl) (W.nest_from_ok hr5) (by kernel_rfl) (.inl rfl) (by kernel_rfl) ?_
   refine z6 2 (by kernel_rfl) (fun τ hτ => ?_)
   obtain rfl := Option.some.inj h
   exact leafC hτ (here (by kernel_rfl))
  ·replace h := iteF hb h
   refine z6 5 (by kernel_rfl) (fun τ hτ => ?_)
   obtain rfl := Option.some.inj h
   exact leafC hτ (here (by kernel_rfl))
 refine th_normalS hτ ⟨[(2, (vB j3))], []⟩ (here (by kernel_rfl)) ?_
 refine sem_retS (by kernel_rfl) (fun τ hτ => ?_)
 obtain rfl := Option.some.inj h
 exact rk_ret hτ [(2, (vB j3))] (here (by kernel_rfl)) (by kernel_rfl)
theorem W.sheetmetalref06_ValidSettings_ok {set0 : Settings} {r : Bool} (h : sheetmetalref06_ValidSettings set0 = some r) : PC G.P 20 [(.agg (c_Settings set0))] [] (vB r) [] := by
 refine pc_of G (fn := Tryz.f20) Tryz.func20 (by kernel_rfl) (by kernel_rfl) (by kernel_rfl) (by kernel_rfl) (by kernel_rfl) ?_
 refine sem_set ⟨[(0, (.agg (c_Settings set0)))], []⟩ (by kernel_rfl) ?_
 refine z3 2 ⟨[(1, (.ptr 1 0))], [(1, .box (c_Settings set0))]⟩ (by kernel_rfl) ?_
 refine z3 1 ⟨[(1, (.ptr 1 0)), (3, (vI 14400))], [(1, .box (c_Settings set0))]⟩ (by kernel_rfl) ?_
 refine sem_seq (by kernel_rfl) ?_
 obtain ⟨j1, hj1, h⟩ := bindS h
 refine sem_regionC ⟨[(2, (vB j1))], []⟩ (by kernel_rfl) ?_ (fun τ hτ => ?_)
 ·replace h := hj1
  refine evs_run 4 (by kernel_rfl) ?_
  refine evs_split (decide (set0.Gap ≥ 0)) (fun b0 => ⟨[(1, (.ptr 1 0)), (3, (vI 14400)), (7, (vB b0))], [(1, .box (c_Settings set0))]⟩) (by kernel_rfl) (fun hb => ?_) (fun hb => ?_)
  ·replace h := iteT hb h
   refine evs_run 6 (by kernel_rfl) ?_
   refine evs_split (decide (set0.Gap ≤ 14400)) (fun b0 => ⟨[(1, (.ptr 1 0)), (3, (vI 14400)), (13, (vB b0))], [(1, .box (c_Settings set0))]⟩) (by kernel_rfl) (fun hb => ?_) (fun hb => ?_)
   ·replace h := iteT hb h
    refine evs_run 5 (by kernel_rfl) ?_
    refine evs_split (decide (set0.Margin ≥ 0)) (fun b0 => ⟨[(1, (.ptr 1 0)), (3, (vI 14400)), (18, (vB b0))], [(1, .box (c_Settings set0))]⟩) (by kernel_rfl) (fun hb => ?_) (fun hb => ?_)
    ·replace h := iteT hb h
     refine z6 6 (by kernel_rfl) (fun τ hτ => ?_)
     obtain rfl := Option.some.inj h
     exact leafC hτ (here (by kernel_rfl))
    ·replace h := iteF hb h
     refine z6 6 (by kernel_rfl) (fun τ hτ => ?_)
     obtain rfl := Option.some.inj h
     exact leafC hτ (here (by kernel_rfl))
   ·replace h := iteF hb h
    refine z6 11 (by kernel_rfl) (fun τ hτ => ?_)
    obtain rfl := Option.some.inj h
    exact leafC hτ (here (by kernel_rfl))
  ·replace h := iteF hb h
   refine z6 17 (by kernel_rfl) (fun τ hτ => ?_)
   obtain rfl := Option.some.inj h
   exact leafC hτ (here (by kernel_rfl))
 refine th_normalS hτ ⟨[(2, (vB j1))], []⟩ (here (by kernel_rfl)) ?_
 refine sem_retS (by kernel_rfl) (fun τ hτ => ?_)
 obtain rfl := Option.some.inj h
 exact rk_ret hτ [(2, (vB j1))] (here (by kernel_rfl)) (by kernel_rfl)
theorem W.sheetmetallaw06_NestValidates_ok {s0 : Sheet} {x1 : Piece} {set2 : Settings} {r : Bool} (h : sheetmetallaw06_NestValidates s0 x1 set2 = some r) : PC G.P 3 [(.agg (c_Sheet s0)), (.agg (c_Piece x1)), (.agg (c_Settings set2))] [] (vB r) [] := by
 refine pc_of G (fn := Tryz.f3) Tryz.func3 (by kernel_rfl) (by kernel_rfl) (by kernel_rfl) (by kernel_rfl) (by kernel_rfl) ?_
 refine sem_set ⟨[(0, (.agg (c_Sheet s0))), (1, (.agg (c_Piece x1))), (2, (.agg (c_Settings set2)))], []⟩ (by kernel_rfl) ?_
 refine z3 4 ⟨[(3, (.ptr 3 0)), (4, (.ptr 4 0)), (5, (.ptr 5 0))], [(3, .box (c_Sheet s0)), (4, .box (c_Piece x1)), (5, .box (c_Settings set2))]⟩ (by kernel_rfl) ?_
 refine sem_seq (by kernel_rfl) ?_
 obtain ⟨j15, hj15, h⟩ := bindS h
 refine sem_drawP ⟨[(6, (vB j15))], []⟩ [] [] [] [] [] 16 (by kernel_rfl) (by kernel_rfl) (by kernel_rfl) ?_ (fun τ hτ => ?_)
 ·replace h := hj15
  refine evd_run 1 (by kernel_rfl) ?_
  obtain ⟨r16, hr16, h⟩ := bindS h
  refine evd_callS [] [] (by kernel_rfl) (by kernel_rfl) (W.nest_ValidateSheet_ok hr16) (by kernel_rfl) (.inl rfl) (by kernel_rfl) (by kernel_rfl) ?_
  refine evd_run 1 (by kernel_rfl) ?_
  obtain ⟨r17, hr17, h⟩ := bindS h
  refine evd_callS [] [] (by kernel_rfl) (by kernel_rfl) (W.sheetmetalref06_ValidateSheet_ok hr17) (by kernel_rfl) (.inl rfl) (by kernel_rfl) (by kernel_rfl) ?_
  refine evd_run 2 (by kernel_rfl) ?_
  refine evd_split (r16 == r17) (fun b0 => ⟨[(12, (vB b0)), (11, (vB b0)), (10, (vI r17)), (9, (.agg (c_Sheet s0))), (8, (vI r16)), (7, (.agg (c_Sheet s0))), (3, (.ptr 3 0)), (4, (.ptr 4 0)), (5, (.ptr 5 0))], [(3, .box (c_Sheet s0)), (4, .box (c_Piece x1)), (5, .box (c_Settings set2))]⟩) (by kernel_rfl) (fun hb => ?_) (fun hb => ?_)
  ·replace h := iteT hb h
   refine evd_run 1 (by kernel_rfl) ?_
   obtain ⟨r18, hr18, h⟩ := bindS h
   refine evd_callS [] [] (by kernel_rfl) (by kernel_rfl) (W.nest_ValidatePiece_ok hr18) (by kernel_rfl) (.inl rfl) (by kernel_rfl) (by kernel_rfl) ?_
   refine evd_run 1 (by kernel_rfl) ?_
   obtain ⟨r19, hr19, h⟩ := bindS h
   refine evd_callS [] [] (by kernel_rfl) (by kernel_rfl) (W.sheetmetalref06_ValidatePiece_ok hr19) (by kernel_rfl) (.inl rfl) (by kernel_rfl) (by kernel_rfl) ?_
   refine evd_run 3 (by kernel_rfl) ?_
   refine evd_split (r18 == r19) (fun b0 => ⟨[(19, (vB b0)), (18, (vB b0)), (17, (vB b0)), (16, (vI r19)), (15, (.agg (c_Piece x1))), (14, (vI r18)), (13, (.agg (c_Piece x1))), (12, (vB true)), (11, (vB true)), (10, (vI r17)), (9, (.agg (c_Sheet s0))), (8, (vI r16)), (7, (.agg (c_Sheet s0))), (3, (.ptr 3 0)), (4, (.ptr 4 0)), (5, (.ptr 5 0))], [(3, .box (c_Sheet s0)), (4, .box (c_Piece x1)), (5, .box (c_Settings set2))]⟩) (by kernel_rfl) (fun hb => ?_) (fun hb => ?_)
   ·replace h := iteT hb h
    refine evd_run 1 (by kernel_rfl) ?_
    obtain ⟨r20, hr20, h⟩ := bindS h
    refine evd_callS [] [] (by kernel_rfl) (by kernel_rfl) (W.nest_ValidSettings_ok hr20) (by kernel_rfl) (.inl rfl) (by kernel_rfl) (by kernel_rfl) ?_
    refine evd_run 1 (by kernel_rfl) ?_
    refine evd_end (by kernel_rfl) ?_
    obtain ⟨r21, hr21, h⟩ := bindS h
    refine evo_callP [] (by kernel_rfl) (W.sheetmetalref06_ValidSettings_ok hr21) (by kernel_rfl) (.inl rfl) (by kernel_rfl) ?_
    refine evo_run 3 (by kernel_rfl) ?_
    refine evo_split (r20 == r21) (fun b0 => ⟨[(26, (vB b0))], []⟩) (by kernel_rfl) (fun hb => ?_) (fun hb => ?_)
    ·replace h := iteT hb h
     obtain ⟨r22, hr22, h⟩ := bindS h
     refine evo_callP [] (by kernel_rfl) (W.sheetmetallaw06_known_k_ok hr22) (by kernel_rfl) (.inl rfl) (by kernel_rfl) ?_
     refine evo_run 2 (by kernel_rfl) ?_
     refine evo_endS (by kernel_rfl) (fun τ hτ => ?_)
     obtain rfl := Option.some.inj h
     exact leafC hτ (here (by kernel_rfl))
    ·replace h := iteF hb h
     refine evo_run 3 (by kernel_rfl) ?_
     refine evo_endS (by kernel_rfl) (fun τ hτ => ?_)
     obtain rfl := Option.some.inj h
     exact leafC hτ (here (by kernel_rfl))
   ·replace h := iteF hb h
    refine evd_run 3 (by kernel_rfl) ?_
    refine evd_end (by kernel_rfl) ?_
    refine evo_run 7 (by kernel_rfl) ?_
    refine evo_endS (by kernel_rfl) (fun τ hτ => ?_)
    obtain rfl := Option.some.inj h
    exact leafC hτ (here (by kernel_rfl))
  ·replace h := iteF hb h
   refine evd_run 10 (by kernel_rfl) ?_
   refine evd_end (by kernel_rfl) ?_
   refine evo_run 7 (by kernel_rfl) ?_
   refine evo_endS (by kernel_rfl) (fun τ hτ => ?_)
   obtain rfl := Option.some.inj h
   exact leafC hτ (here (by kernel_rfl))
 refine th_normalS hτ ⟨[(6, (vB j15))], []⟩ (here (by kernel_rfl)) ?_
 refine sem_retS (by kernel_rfl) (fun τ hτ => ?_)
 obtain rfl := Option.some.inj h
 exact rk_ret hτ [(6, (vB j15))] (here (by kernel_rfl)) (by kernel_rfl)
end Go.Proofs.YtonmponhpfpokaaGreatR
