/- Each Go function does what its model says; written by a program out of the translation. -/
import Derived.Test.YtiodkdpfkchkjaaWP1
import Derived.Test.YtiodkdpfkchkjaaGeMP
set_option linter.unusedVariables false
set_option linter.unusedSimpArgs false
set_option linter.unusedSectionVars false
namespace Go.Proofs.Ytiodkdpfkchkjaa
open Go Go.VI Go.SM Go.Proofs
set_option maxRecDepth 100000
set_option maxHeartbeats 4000000
theorem W.geom_Area_ok {l : (List Rect)} {r : Int × Int} (h : geom_Area l = some r) : PC G.P 45 [(.sl (List.map c_Rect l))] [] (.tup [(vI r.1), (vI r.2)]) [] := by
 refine pc_of G (fn := Try.f45) Try.func45 (by kernel_rfl) (by kernel_rfl) (by kernel_rfl) (by kernel_rfl) (by kernel_rfl) ?_
 refine sem_set ⟨[(0, (.sl (List.map c_Rect l)))], []⟩ (by kernel_rfl) ?_
 refine z3 2 ⟨[(0, (.sl (List.map c_Rect l)))], []⟩ (by kernel_rfl) ?_
 refine sem_seq (by kernel_rfl) ?_
 refine z7 (by kernel_rfl) ?_
 refine evs_run 2 (by kernel_rfl) ?_
 obtain ⟨r4, hr4, h⟩ := bindS h
 refine evs_callP [] (by kernel_rfl) (W.geom_rects_ok hr4) (by kernel_rfl) (.inl rfl) (by kernel_rfl) ?_
 refine z1 1 ⟨[(0, (.sl (List.map c_Rect l))), (4, (vI r4))], []⟩ (by kernel_rfl) ?_
 refine z3 2 ⟨[(0, (.sl (List.map c_Rect l))), (4, (vI r4)), (15, (vB (r4 != 0)))], []⟩ (by kernel_rfl) ?_
 refine sem_cond (r4 != 0) (by kernel_rfl) (by kernel_rfl) (fun hb => ?_) (fun hb => ?_)
 ·replace h := iteT hb h
  refine z8 3 ⟨[(2, (vI 0)), (3, (vI r4))], []⟩ (by kernel_rfl) (fun τ hτ => ?_)
  refine th_ret ?_
  obtain rfl := Option.some.inj h
  exact rk_ret hτ [(2, (vI 0)), (3, (vI r4))] (here (by kernel_rfl)) (by kernel_rfl)
 ·replace h := iteF hb h
  refine z4 ⟨[(0, (.sl (List.map c_Rect l)))], []⟩ (by kernel_rfl) ?_
  refine z7 (by kernel_rfl) ?_
  refine evs_run 2 (by kernel_rfl) ?_
  obtain ⟨r6, hr6, h⟩ := bindS h
  refine evs_callS [] [(0, 700100), (1, 700101), (2, 700102)] [] (by kernel_rfl) (W.geom_newGrid_ok hr6) (by kernel_rfl) (by kernel_rfl) (.inl rfl) ?_
  refine z1 2 ⟨[(0, (.sl (List.map c_Rect l))), (5, (.ptr 5 0))], [(5, .box [(.row (.top 700101) 3), (.row (.top 700102) 3)]), (700101, .row 3 [] (List.map cI r6.x)), (700102, .row 3 [] (List.map cI r6.y))]⟩ (by kernel_rfl) ?_
  refine z3 1 ⟨[(0, (.sl (List.map c_Rect l))), (5, (.ptr 5 0)), (6, (vI 0))], [(5, .box [(.row (.top 700101) 3), (.row (.top 700102) 3)]), (700101, .row 3 [] (List.map cI r6.x)), (700102, .row 3 [] (List.map cI r6.y))]⟩ (by kernel_rfl) ?_
  refine sem_seq (by kernel_rfl) ?_
  refine z7 (by kernel_rfl) ?_
  refine evs_run 2 (by kernel_rfl) ?_
  refine evs_prep [.frz 700101, .frz 700102] (by kernel_rfl) ?_
  obtain ⟨r565, hr565, h⟩ := bindS h
  refine evs_callS [] [(0, 700100)] [] (by kernel_rfl) (W.geom_grid_covered_ok hr565) (by kernel_rfl) (by kernel_rfl) (.inl rfl) ?_
  refine evs_prep [.frz 700100] (by kernel_rfl) ?_
  refine evs_op (st_len (c := (cS cB)) (l := r565) (x := (.sl (List.map (cS cB) r565))) (by kernel_rfl) (by kernel_rfl)) ?_
  refine z1 1 ⟨[(5, (.ptr 5 0)), (6, (vI 0)), (22, (.sl (List.map (cS cB) r565))), (23, (vI (r565.length : Int))), (24, (vI 0))], [(5, .box [(.sl (List.map cI r6.x)), (.sl (List.map cI r6.y))])]⟩ (by kernel_rfl) ?_
  refine sem_block (by kernel_rfl) ?_
  obtain ⟨x1120, hx1120, h⟩ := bindS h
  refine sem_loopS (fun (s751 : Int × Int) => ⟨[(5, (.ptr 500000 0)), (6, (vI s751.1)), (22, (.sl (List.map (cS cB) r565))), (23, (vI (r565.length : Int))), (24, (vI s751.2))], [(500000, .box [(.sl (List.map cI r6.x)), (.sl (List.map cI r6.y))])]⟩) (fun (x1120 : Int) => (.exit 0, ⟨[(6, (vI x1120))], []⟩)) (geom_Area_l3 r6 r565) (0, 0) x1120 (by kernel_rfl) (subR_prep [] [(5, 500000)] (by kernel_rfl) rfl rfl (by kernel_rfl)) hx1120 ?_ ?_ ?_
  ·intro s751 r h
   refine z3 1 ⟨[(5, (.ptr 500000 0)), (6, (vI s751.1)), (22, (.sl (List.map (cS cB) r565))), (23, (vI (r565.length : Int))), (24, (vI s751.2)), (25, (vB (decide (s751.2 < (r565.length : Int)))))], [(500000, .box [(.sl (List.map cI r6.x)), (.sl (List.map cI r6.y))])]⟩ (by kernel_rfl) ?_
   refine sem_seq (by kernel_rfl) ?_
   refine sem_cond (decide (s751.2 < (r565.length : Int))) (by kernel_rfl) (by kernel_rfl) (fun hb => ?_) (fun hb => ?_)
   ·replace h := iteT hb h
    refine z4 ⟨[(5, (.ptr 500000 0)), (6, (vI s751.1)), (22, (.sl (List.map (cS cB) r565))), (23, (vI (r565.length : Int))), (24, (vI s751.2))], [(500000, .box [(.sl (List.map cI r6.x)), (.sl (List.map cI r6.y))])]⟩ (by kernel_rfl) ?_
    refine sem_seq (by kernel_rfl) ?_
    refine sem_block (by kernel_rfl) ?_
    refine z7 (by kernel_rfl) ?_
    refine evs_run 1 (by kernel_rfl) ?_
    obtain ⟨x1029, hx1029, h⟩ := bindS h
    refine evs_op (st_idx (c := (cS cB)) (l := r565) (i := s751.2) (kd := .i64) (sz := 1) (by kernel_rfl) hx1029 rfl) ?_
    refine z1 3 ⟨[(5, (.ptr 500000 0)), (6, (vI s751.1)), (7, (vI s751.2)), (8, (.sl (List.map cB x1029))), (22, (.sl (List.map (cS cB) r565))), (23, (vI (r565.length : Int))), (24, (vI s751.2))], [(500000, .box [(.sl (List.map cI r6.x)), (.sl (List.map cI r6.y))])]⟩ (by kernel_rfl) ?_
    refine z7 (by kernel_rfl) ?_
    refine evs_run 1 (by kernel_rfl) ?_
    refine evs_op (st_len (c := cB) (l := x1029) (x := (.sl (List.map cB x1029))) (by kernel_rfl) (by kernel_rfl)) ?_
    refine z1 1 ⟨[(5, (.ptr 500000 0)), (6, (vI s751.1)), (7, (vI s751.2)), (22, (.sl (List.map (cS cB) r565))), (23, (vI (r565.length : Int))), (24, (vI s751.2)), (29, (.sl (List.map cB x1029))), (30, (vI (x1029.length : Int))), (31, (vI 0))], [(500000, .box [(.sl (List.map cI r6.x)), (.sl (List.map cI r6.y))])]⟩ (by kernel_rfl) ?_
    refine sem_block (by kernel_rfl) ?_
    obtain ⟨x1119, hx1119, h⟩ := bindS h
    refine sem_loopS (fun (s1060 : Int × Int) => ⟨[(5, (.ptr 500000 0)), (6, (vI s1060.1)), (7, (vI s751.2)), (22, (.sl (List.map (cS cB) r565))), (23, (vI (r565.length : Int))), (24, (vI s751.2)), (29, (.sl (List.map cB x1029))), (30, (vI (x1029.length : Int))), (31, (vI s1060.2))], [(500000, .box [(.sl (List.map cI r6.x)), (.sl (List.map cI r6.y))])]⟩) (fun (x1119 : Int) => (.exit 2, ⟨[(5, (.ptr 500000 0)), (6, (vI x1119)), (22, (.sl (List.map (cS cB) r565))), (23, (vI (r565.length : Int))), (24, (vI s751.2))], [(500000, .box [(.sl (List.map cI r6.x)), (.sl (List.map cI r6.y))])]⟩)) (geom_Area_l2 r6 s751 x1029) (s751.1, 0) x1119 (by kernel_rfl) (here (by kernel_rfl)) hx1119 ?_ ?_ ?_
    ·intro s1060 r h
     refine z3 1 ⟨[(5, (.ptr 500000 0)), (6, (vI s1060.1)), (7, (vI s751.2)), (22, (.sl (List.map (cS cB) r565))), (23, (vI (r565.length : Int))), (24, (vI s751.2)), (29, (.sl (List.map cB x1029))), (30, (vI (x1029.length : Int))), (31, (vI s1060.2)), (32, (vB (decide (s1060.2 < (x1029.length : Int)))))], [(500000, .box [(.sl (List.map cI r6.x)), (.sl (List.map cI r6.y))])]⟩ (by kernel_rfl) ?_
     refine sem_seq (by kernel_rfl) ?_
     refine sem_cond (decide (s1060.2 < (x1029.length : Int))) (by kernel_rfl) (by kernel_rfl) (fun hb => ?_) (fun hb => ?_)
     ·replace h := iteT hb h
      refine z4 ⟨[(5, (.ptr 500000 0)), (6, (vI s1060.1)), (7, (vI s751.2)), (22, (.sl (List.map (cS cB) r565))), (23, (vI (r565.length : Int))), (24, (vI s751.2)), (29, (.sl (List.map cB x1029))), (30, (vI (x1029.length : Int))), (31, (vI s1060.2))], [(500000, .box [(.sl (List.map cI r6.x)), (.sl (List.map cI r6.y))])]⟩ (by kernel_rfl) ?_
      refine sem_seqJ (fun (j1104 : Int) => ⟨[(5, (.ptr 500000 0)), (6, (vI j1104)), (7, (vI s751.2)), (22, (.sl (List.map (cS cB) r565))), (23, (vI (r565.length : Int))), (24, (vI s751.2)), (29, (.sl (List.map cB x1029))), (30, (vI (x1029.length : Int))), (31, (vI s1060.2))], [(500000, .box [(.sl (List.map cI r6.x)), (.sl (List.map cI r6.y))])]⟩) (geom_Area_k1 s1060) r (by kernel_rfl) (fun j1104 h => ?_) ?_
      ·refine sem_region (by kernel_rfl) ?_
       refine z6 2 (by kernel_rfl) (fun τ hτ => ?_)
       obtain rfl := Option.some.inj h
       exact lk_nextS hτ (here (by kernel_rfl))
      refine sem_block (by kernel_rfl) ?_
      refine z7 (by kernel_rfl) ?_
      refine evs_run 1 (by kernel_rfl) ?_
      obtain ⟨x1106, hx1106, h⟩ := bindS h
      refine evs_op (st_idx (c := cB) (l := x1029) (i := s1060.2) (kd := .i64) (sz := 1) (by kernel_rfl) hx1106 rfl) ?_
      refine z1 3 ⟨[(5, (.ptr 500000 0)), (6, (vI s1060.1)), (7, (vI s751.2)), (9, (vI s1060.2)), (10, (vB x1106)), (22, (.sl (List.map (cS cB) r565))), (23, (vI (r565.length : Int))), (24, (vI s751.2)), (29, (.sl (List.map cB x1029))), (30, (vI (x1029.length : Int))), (31, (vI s1060.2))], [(500000, .box [(.sl (List.map cI r6.x)), (.sl (List.map cI r6.y))])]⟩ (by kernel_rfl) ?_
      refine z3 1 ⟨[(5, (.ptr 500000 0)), (6, (vI s1060.1)), (7, (vI s751.2)), (9, (vI s1060.2)), (22, (.sl (List.map (cS cB) r565))), (23, (vI (r565.length : Int))), (24, (vI s751.2)), (29, (.sl (List.map cB x1029))), (30, (vI (x1029.length : Int))), (31, (vI s1060.2)), (36, (vB x1106))], [(500000, .box [(.sl (List.map cI r6.x)), (.sl (List.map cI r6.y))])]⟩ (by kernel_rfl) ?_
      refine sem_cond x1106 (by kernel_rfl) (by kernel_rfl) (fun hb => ?_) (fun hb => ?_)
      ·replace h := iteT hb h
       refine sem_drawN [] [] [] [] [] 26 (by kernel_rfl) (by kernel_rfl) (by kernel_rfl) ?_
       refine evd_run 5 (by kernel_rfl) ?_
       obtain ⟨x1115, hx1115, h⟩ := bindS h
       refine evd_val (by kernel_rfl) (st_idx (c := cI) (l := r6.x) (i := (iadd s751.2 1)) (kd := .i64) (sz := 1) (by kernel_rfl) hx1115 rfl) (by kernel_rfl) (by kernel_rfl) ?_
       refine evd_run 4 (by kernel_rfl) ?_
       obtain ⟨x1116, hx1116, h⟩ := bindS h
       refine evd_val (by kernel_rfl) (st_idx (c := cI) (l := r6.x) (i := s751.2) (kd := .i64) (sz := 1) (by kernel_rfl) hx1116 rfl) (by kernel_rfl) (by kernel_rfl) ?_
       refine evd_run 6 (by kernel_rfl) ?_
       obtain ⟨x1117, hx1117, h⟩ := bindS h
       refine evd_val (by kernel_rfl) (st_idx (c := cI) (l := r6.y) (i := (iadd s1060.2 1)) (kd := .i64) (sz := 1) (by kernel_rfl) hx1117 rfl) (by kernel_rfl) (by kernel_rfl) ?_
       refine evd_run 4 (by kernel_rfl) ?_
       obtain ⟨x1118, hx1118, h⟩ := bindS h
       refine evd_val (by kernel_rfl) (st_idx (c := cI) (l := r6.y) (i := s1060.2) (kd := .i64) (sz := 1) (by kernel_rfl) hx1118 rfl) (by kernel_rfl) (by kernel_rfl) ?_
       refine evd_run 3 (by kernel_rfl) ?_
       refine evd_end (by kernel_rfl) ?_
       refine evo_run 2 (by kernel_rfl) ?_
       refine evo_endS (by kernel_rfl) (fun τ hτ => ?_)
       refine bl_normal ?_
       exact jk_normal (iadd s1060.1 (imul (isub x1115 x1116) (isub x1117 x1118))) h hτ (here (by kernel_rfl))
      ·replace h := iteF hb h
       refine sem_skipS (by kernel_rfl) (fun τ hτ => ?_)
       refine bl_normal ?_
       exact jk_normal s1060.1 h hτ (here (by kernel_rfl))
     ·replace h := iteF hb h
      refine sem_exitS 2 (by kernel_rfl) rfl (fun τ hτ => ?_)
      refine th_exit ?_
      obtain rfl := Option.some.inj h
      exact lk_outS hτ rfl (here (by kernel_rfl))
    ·intro x
     rfl
    ·intro τ hτ
     refine bl_hit (by kernel_rfl) ?_
     refine bl_normal ?_
     refine th_normalS hτ ⟨[(5, (.ptr 500000 0)), (6, (vI x1119)), (22, (.sl (List.map (cS cB) r565))), (23, (vI (r565.length : Int))), (24, (vI s751.2))], [(500000, .box [(.sl (List.map cI r6.x)), (.sl (List.map cI r6.y))])]⟩ (here (by kernel_rfl)) ?_
     refine sem_region (by kernel_rfl) ?_
     refine z6 2 (by kernel_rfl) (fun τ hτ => ?_)
     obtain rfl := Option.some.inj h
     exact lk_nextS hτ (here (by kernel_rfl))
   ·replace h := iteF hb h
    refine sem_exitS 0 (by kernel_rfl) rfl (fun τ hτ => ?_)
    refine th_exit ?_
    obtain rfl := Option.some.inj h
    exact lk_outS hτ rfl (here (by kernel_rfl))
  ·intro x
   rfl
  ·intro τ hτ
   refine bl_hit (by kernel_rfl) ?_
   refine th_normalS hτ ⟨[(6, (vI x1120))], []⟩ (here (by kernel_rfl)) ?_
   refine z8 3 ⟨[(2, (vI x1120)), (3, (vI 0))], []⟩ (by kernel_rfl) (fun τ hτ => ?_)
   obtain rfl := Option.some.inj h
   exact rk_ret hτ [(2, (vI x1120)), (3, (vI 0))] (here (by kernel_rfl)) (by kernel_rfl)
theorem W.slices_Equal_Lbool_bool_ok {s1 : (List Bool)} {s2 : (List Bool)} {r : Bool} (h : slices_Equal_Lbool_bool s1 s2 = some r) : PC G.P 86 [(.sl (List.map cB s1)), (.sl (List.map cB s2))] [] (vB r) [] := by
 refine pc_of G (fn := Try.f86) Try.func86 (by kernel_rfl) (by kernel_rfl) (by kernel_rfl) (by kernel_rfl) (by kernel_rfl) ?_
 refine sem_set ⟨[(0, (.sl (List.map cB s1))), (1, (.sl (List.map cB s2)))], []⟩ (by kernel_rfl) ?_
 refine z3 1 ⟨[(0, (.sl (List.map cB s1))), (1, (.sl (List.map cB s2)))], []⟩ (by kernel_rfl) ?_
 refine sem_seq (by kernel_rfl) ?_
 refine z7 (by kernel_rfl) ?_
 refine evs_run 1 (by kernel_rfl) ?_
 refine evs_op (st_len (c := cB) (l := s1) (x := (.sl (List.map cB s1))) (by kernel_rfl) (by kernel_rfl)) ?_
 refine evs_run 1 (by kernel_rfl) ?_
 refine evs_op (st_len (c := cB) (l := s2) (x := (.sl (List.map cB s2))) (by kernel_rfl) (by kernel_rfl)) ?_
 refine z1 1 ⟨[(0, (.sl (List.map cB s1))), (1, (.sl (List.map cB s2))), (10, (vB ((s1.length : Int) != (s2.length : Int))))], []⟩ (by kernel_rfl) ?_
 refine sem_cond ((s1.length : Int) != (s2.length : Int)) (by kernel_rfl) (by kernel_rfl) (fun hb => ?_) (fun hb => ?_)
 ·replace h := iteT hb h
  refine z8 1 ⟨[(4, (vB false))], []⟩ (by kernel_rfl) (fun τ hτ => ?_)
  refine th_ret ?_
  obtain rfl := Option.some.inj h
  exact rk_ret hτ [(4, (vB false))] (here (by kernel_rfl)) (by kernel_rfl)
 ·replace h := iteF hb h
  refine z4 ⟨[(0, (.sl (List.map cB s1))), (1, (.sl (List.map cB s2)))], []⟩ (by kernel_rfl) ?_
  refine sem_seq (by kernel_rfl) ?_
  refine z7 (by kernel_rfl) ?_
  refine evs_run 1 (by kernel_rfl) ?_
  refine evs_op (st_len (c := cB) (l := s1) (x := (.sl (List.map cB s1))) (by kernel_rfl) (by kernel_rfl)) ?_
  refine z1 1 ⟨[(0, (.sl (List.map cB s1))), (1, (.sl (List.map cB s2))), (12, (vI (s1.length : Int))), (13, (vI 0))], []⟩ (by kernel_rfl) ?_
  refine sem_block (by kernel_rfl) ?_
  obtain ⟨x80, hx80, h⟩ := bindS h
  refine sem_loopS (fun (s55 : Int) => ⟨[(0, (.sl (List.map cB s1))), (1, (.sl (List.map cB s2))), (12, (vI (s1.length : Int))), (13, (vI s55))], []⟩) (fun (x80 : Unit ⊕ Unit) => match x80 with | .inl j81 => (.ret, ⟨[(4, (vB false))], []⟩) | .inr j82 => (.exit 0, ⟨[], []⟩)) (slices_Equal_Lbool_bool_l1 s1 s2) 0 x80 (by kernel_rfl) (here (by kernel_rfl)) hx80 ?_ ?_ ?_
  ·intro s55 r h
   refine z3 1 ⟨[(0, (.sl (List.map cB s1))), (1, (.sl (List.map cB s2))), (12, (vI (s1.length : Int))), (13, (vI s55)), (14, (vB (decide (s55 < (s1.length : Int)))))], []⟩ (by kernel_rfl) ?_
   refine sem_seq (by kernel_rfl) ?_
   refine sem_cond (decide (s55 < (s1.length : Int))) (by kernel_rfl) (by kernel_rfl) (fun hb => ?_) (fun hb => ?_)
   ·replace h := iteT hb h
    refine z4 ⟨[(0, (.sl (List.map cB s1))), (1, (.sl (List.map cB s2))), (12, (vI (s1.length : Int))), (13, (vI s55))], []⟩ (by kernel_rfl) ?_
    refine sem_seq (by kernel_rfl) ?_
    refine sem_block (by kernel_rfl) ?_
    refine z3 2 ⟨[(0, (.sl (List.map cB s1))), (1, (.sl (List.map cB s2))), (5, (vI s55)), (12, (vI (s1.length : Int))), (13, (vI s55))], []⟩ (by kernel_rfl) ?_
    refine sem_seq (by kernel_rfl) ?_
    refine sem_drawN [] [] [] [] [] 8 (by kernel_rfl) (by kernel_rfl) (by kernel_rfl) ?_
    refine evd_run 2 (by kernel_rfl) ?_
    obtain ⟨x78, hx78, h⟩ := bindS h
    refine evd_val (by kernel_rfl) (st_idx (c := cB) (l := s1) (i := s55) (kd := .i64) (sz := 1) (by kernel_rfl) hx78 rfl) (by kernel_rfl) (by kernel_rfl) ?_
    refine evd_run 3 (by kernel_rfl) ?_
    obtain ⟨x79, hx79, h⟩ := bindS h
    refine evd_val (by kernel_rfl) (st_idx (c := cB) (l := s2) (i := s55) (kd := .i64) (sz := 1) (by kernel_rfl) hx79 rfl) (by kernel_rfl) (by kernel_rfl) ?_
    refine evd_run 1 (by kernel_rfl) ?_
    refine evd_end (by kernel_rfl) ?_
    refine evo_run 1 (by kernel_rfl) ?_
    refine evo_endS (by kernel_rfl) (fun τ hτ => ?_)
    refine th_normalS hτ ⟨[(0, (.sl (List.map cB s1))), (1, (.sl (List.map cB s2))), (12, (vI (s1.length : Int))), (13, (vI s55)), (24, (vB (!(x78 == x79))))], []⟩ (here (by kernel_rfl)) ?_
    refine sem_cond (!(x78 == x79)) (by kernel_rfl) (by kernel_rfl) (fun hb => ?_) (fun hb => ?_)
    ·replace h := iteT hb h
     refine z8 1 ⟨[(4, (vB false))], []⟩ (by kernel_rfl) (fun τ hτ => ?_)
     refine bl_ret ?_
     refine th_ret ?_
     obtain rfl := Option.some.inj h
     exact lk_outS hτ rfl (here (by kernel_rfl))
    ·replace h := iteF hb h
     refine sem_skipS (by kernel_rfl) (fun τ hτ => ?_)
     refine bl_normal ?_
     refine th_normalS hτ ⟨[(0, (.sl (List.map cB s1))), (1, (.sl (List.map cB s2))), (12, (vI (s1.length : Int))), (13, (vI s55))], []⟩ (here (by kernel_rfl)) ?_
     refine sem_region (by kernel_rfl) ?_
     refine z6 2 (by kernel_rfl) (fun τ hτ => ?_)
     obtain rfl := Option.some.inj h
     exact lk_nextS hτ (here (by kernel_rfl))
   ·replace h := iteF hb h
    refine sem_exitS 0 (by kernel_rfl) rfl (fun τ hτ => ?_)
    refine th_exit ?_
    obtain rfl := Option.some.inj h
    exact lk_outS hτ rfl (here (by kernel_rfl))
  ·intro x
   rcases x with _ | _ <;> rfl
  ·intro τ hτ
   rcases x80 with j81 | j82
   ·refine bl_ret ?_
    refine th_ret ?_
    obtain rfl := Option.some.inj h
    exact rk_ret hτ [(4, (vB false))] (here (by kernel_rfl)) (by kernel_rfl)
   ·refine bl_hit (by kernel_rfl) ?_
    refine th_normalS hτ ⟨[], []⟩ (here (by kernel_rfl)) ?_
    refine z8 1 ⟨[(4, (vB true))], []⟩ (by kernel_rfl) (fun τ hτ => ?_)
    obtain rfl := Option.some.inj h
    exact rk_ret hτ [(4, (vB true))] (here (by kernel_rfl)) (by kernel_rfl)
theorem W.geom_SameRegion_ok {a : (List Rect)} {b : (List Rect)} {r : Bool × Int} (h : geom_SameRegion a b = some r) : PC G.P 46 [(.sl (List.map c_Rect a)), (.sl (List.map c_Rect b))] [] (.tup [(vB r.1), (vI r.2)]) [] := by
 refine pc_of G (fn := Try.f46) Try.func46 (by kernel_rfl) (by kernel_rfl) (by kernel_rfl) (by kernel_rfl) (by kernel_rfl) ?_
 refine sem_set ⟨[(0, (.sl (List.map c_Rect a))), (1, (.sl (List.map c_Rect b)))], []⟩ (by kernel_rfl) ?_
 refine z3 2 ⟨[(0, (.sl (List.map c_Rect a))), (1, (.sl (List.map c_Rect b)))], []⟩ (by kernel_rfl) ?_
 refine sem_seq (by kernel_rfl) ?_
 refine z7 (by kernel_rfl) ?_
 refine evs_run 3 (by kernel_rfl) ?_
 obtain ⟨r4, hr4, h⟩ := bindS h
 refine evs_callP [] (by kernel_rfl) (W.geom_rects_ok hr4) (by kernel_rfl) (.inl rfl) (by kernel_rfl) ?_
 refine z1 1 ⟨[(0, (.sl (List.map c_Rect a))), (1, (.sl (List.map c_Rect b))), (6, (vI r4))], []⟩ (by kernel_rfl) ?_
 refine z3 2 ⟨[(0, (.sl (List.map c_Rect a))), (1, (.sl (List.map c_Rect b))), (6, (vI r4)), (16, (vB (r4 != 0)))], []⟩ (by kernel_rfl) ?_
 refine sem_cond (r4 != 0) (by kernel_rfl) (by kernel_rfl) (fun hb => ?_) (fun hb => ?_)
 ·replace h := iteT hb h
  refine z8 3 ⟨[(4, (vB false)), (5, (vI r4))], []⟩ (by kernel_rfl) (fun τ hτ => ?_)
  refine th_ret ?_
  obtain rfl := Option.some.inj h
  exact rk_ret hτ [(4, (vB false)), (5, (vI r4))] (here (by kernel_rfl)) (by kernel_rfl)
 ·replace h := iteF hb h
  refine z4 ⟨[(0, (.sl (List.map c_Rect a))), (1, (.sl (List.map c_Rect b)))], []⟩ (by kernel_rfl) ?_
  refine z7 (by kernel_rfl) ?_
  refine evs_run 3 (by kernel_rfl) ?_
  obtain ⟨r6, hr6, h⟩ := bindS h
  refine evs_callS [] [(0, 700150), (1, 700151), (2, 700152)] [] (by kernel_rfl) (W.geom_newGrid_ok hr6) (by kernel_rfl) (by kernel_rfl) (.inl rfl) ?_
  refine z1 2 ⟨[(0, (.sl (List.map c_Rect a))), (1, (.sl (List.map c_Rect b))), (7, (.ptr 7 0))], [(7, .box [(.row (.top 700151) 3), (.row (.top 700152) 3)]), (700151, .row 3 [] (List.map cI r6.x)), (700152, .row 3 [] (List.map cI r6.y))]⟩ (by kernel_rfl) ?_
  refine sem_seq (by kernel_rfl) ?_
  refine sem_prep [.frz 700151] (by kernel_rfl) ?_
  refine sem_prep [.frz 700152] (by kernel_rfl) ?_
  refine sem_draw [(2, [700100])] [(2, [700100])] [] [(3, [700100]), (4, [700100])] [(0, [700100]), (1, [700100]), (3, [700100]), (4, [700100])] 5 (by kernel_rfl) (by kernel_rfl) [700100] (by kernel_rfl) (by kernel_rfl) ?_
  refine evd_run 2 (by kernel_rfl) ?_
  obtain ⟨r11, hr11, h⟩ := bindS h
  refine evd_callS [(0, 700100)] [] (by kernel_rfl) (by kernel_rfl) (W.geom_grid_covered_ok hr11) (by kernel_rfl) (.inl rfl) (by kernel_rfl) (by kernel_rfl) ?_
  refine evd_run 2 (by kernel_rfl) ?_
  refine evd_end (by kernel_rfl) ?_
  obtain ⟨r12, hr12, h⟩ := bindS h
  refine evo_callS [] [(0, 700250)] [] (by kernel_rfl) (W.geom_grid_covered_ok hr12) (by kernel_rfl) (by kernel_rfl) (.inl rfl) ?_
  refine evo_prep [.frz 700250] (by kernel_rfl) ?_
  refine evo_run 2 (by kernel_rfl) ?_
  refine evo_endS (by kernel_rfl) (fun τ hτ => ?_)
  refine th_normalS hτ ⟨[(8, (.row (.top 700100) 94)), (9, (.sl (List.map (cS cB) r12)))], [(700100, .row 94 [(0, 4)] (List.map (cS cB) r11))]⟩ (here (by kernel_rfl)) ?_
  refine sem_seq (by kernel_rfl) ?_
  refine z7 (by kernel_rfl) ?_
  refine evs_run 1 (by kernel_rfl) ?_
  refine evs_op (st_len (c := (cS cB)) (l := r11) (x := (.row (.top 700100) 94)) (by kernel_rfl) (by kernel_rfl)) ?_
  refine z1 1 ⟨[(8, (.row (.top 700100) 94)), (9, (.sl (List.map (cS cB) r12))), (29, (vI (r11.length : Int))), (30, (vI 0))], [(700100, .row 94 [(0, 4)] (List.map (cS cB) r11))]⟩ (by kernel_rfl) ?_
  refine sem_block (by kernel_rfl) ?_
  obtain ⟨x128, hx128, h⟩ := bindS h
  refine sem_loopS (fun (s91 : Int) => ⟨[(8, (.sl (List.map (cS cB) r11))), (9, (.sl (List.map (cS cB) r12))), (29, (vI (r11.length : Int))), (30, (vI s91))], []⟩) (fun (x128 : Unit ⊕ Unit) => match x128 with | .inl j129 => (.ret, ⟨[(4, (vB false)), (5, (vI 0))], []⟩) | .inr j130 => (.exit 0, ⟨[], []⟩)) (geom_SameRegion_l1 r11 r12) 0 x128 (by kernel_rfl) (subR_prep [.frz 700100] [] (by kernel_rfl) rfl rfl (by kernel_rfl)) hx128 ?_ ?_ ?_
  ·intro s91 r h
   refine z3 1 ⟨[(8, (.sl (List.map (cS cB) r11))), (9, (.sl (List.map (cS cB) r12))), (29, (vI (r11.length : Int))), (30, (vI s91)), (31, (vB (decide (s91 < (r11.length : Int)))))], []⟩ (by kernel_rfl) ?_
   refine sem_seq (by kernel_rfl) ?_
   refine sem_cond (decide (s91 < (r11.length : Int))) (by kernel_rfl) (by kernel_rfl) (fun hb => ?_) (fun hb => ?_)
   ·replace h := iteT hb h
    refine z4 ⟨[(8, (.sl (List.map (cS cB) r11))), (9, (.sl (List.map (cS cB) r12))), (29, (vI (r11.length : Int))), (30, (vI s91))], []⟩ (by kernel_rfl) ?_
    refine sem_seq (by kernel_rfl) ?_
    refine sem_block (by kernel_rfl) ?_
    refine z3 2 ⟨[(8, (.sl (List.map (cS cB) r11))), (9, (.sl (List.map (cS cB) r12))), (10, (vI s91)), (29, (vI (r11.length : Int))), (30, (vI s91))], []⟩ (by kernel_rfl) ?_
    refine sem_seq (by kernel_rfl) ?_
    refine sem_drawN [] [] [] [] [] 8 (by kernel_rfl) (by kernel_rfl) (by kernel_rfl) ?_
    refine evd_run 2 (by kernel_rfl) ?_
    obtain ⟨x125, hx125, h⟩ := bindS h
    refine evd_val (by kernel_rfl) (st_idx (c := (cS cB)) (l := r11) (i := s91) (kd := .i64) (sz := 1) (by kernel_rfl) hx125 rfl) (by kernel_rfl) (by kernel_rfl) ?_
    refine evd_run 3 (by kernel_rfl) ?_
    obtain ⟨x126, hx126, h⟩ := bindS h
    refine evd_val (by kernel_rfl) (st_idx (c := (cS cB)) (l := r12) (i := s91) (kd := .i64) (sz := 1) (by kernel_rfl) hx126 rfl) (by kernel_rfl) (by kernel_rfl) ?_
    refine evd_run 1 (by kernel_rfl) ?_
    refine evd_end (by kernel_rfl) ?_
    obtain ⟨r127, hr127, h⟩ := bindS h
    refine evo_callP [] (by kernel_rfl) (W.slices_Equal_Lbool_bool_ok hr127) (by kernel_rfl) (.inl rfl) (by kernel_rfl) ?_
    refine evo_run 1 (by kernel_rfl) ?_
    refine evo_endS (by kernel_rfl) (fun τ hτ => ?_)
    refine th_normalS hτ ⟨[(8, (.sl (List.map (cS cB) r11))), (9, (.sl (List.map (cS cB) r12))), (29, (vI (r11.length : Int))), (30, (vI s91)), (42, (vB (!r127)))], []⟩ (here (by kernel_rfl)) ?_
    refine sem_cond (!r127) (by kernel_rfl) (by kernel_rfl) (fun hb => ?_) (fun hb => ?_)
    ·replace h := iteT hb h
     refine z8 2 ⟨[(4, (vB false)), (5, (vI 0))], []⟩ (by kernel_rfl) (fun τ hτ => ?_)
     refine bl_ret ?_
     refine th_ret ?_
     obtain rfl := Option.some.inj h
     exact lk_outS hτ rfl (here (by kernel_rfl))
    ·replace h := iteF hb h
     refine sem_skipS (by kernel_rfl) (fun τ hτ => ?_)
     refine bl_normal ?_
     refine th_normalS hτ ⟨[(8, (.sl (List.map (cS cB) r11))), (9, (.sl (List.map (cS cB) r12))), (29, (vI (r11.length : Int))), (30, (vI s91))], []⟩ (here (by kernel_rfl)) ?_
     refine sem_region (by kernel_rfl) ?_
     refine z6 2 (by kernel_rfl) (fun τ hτ => ?_)
     obtain rfl := Option.some.inj h
     exact lk_nextS hτ (here (by kernel_rfl))
   ·replace h := iteF hb h
    refine sem_exitS 0 (by kernel_rfl) rfl (fun τ hτ => ?_)
    refine th_exit ?_
    obtain rfl := Option.some.inj h
    exact lk_outS hτ rfl (here (by kernel_rfl))
  ·intro x
   rcases x with _ | _ <;> rfl
  ·intro τ hτ
   rcases x128 with j129 | j130
   ·refine bl_ret ?_
    refine th_ret ?_
    obtain rfl := Option.some.inj h
    exact rk_ret hτ [(4, (vB false)), (5, (vI 0))] (here (by kernel_rfl)) (by kernel_rfl)
   ·refine bl_hit (by kernel_rfl) ?_
    refine th_normalS hτ ⟨[], []⟩ (here (by kernel_rfl)) ?_
    refine z8 2 ⟨[(4, (vB true)), (5, (vI 0))], []⟩ (by kernel_rfl) (fun τ hτ => ?_)
    obtain rfl := Option.some.inj h
    exact rk_ret hτ [(4, (vB true)), (5, (vI 0))] (here (by kernel_rfl)) (by kernel_rfl)
theorem W.sheetmetalref01_Both_ok {a : (List Rect)} {b : (List Rect)} {r : (List Rect)} (h : sheetmetalref01_Both a b = some r) : PC G.P 49 [(.sl (List.map c_Rect a)), (.sl (List.map c_Rect b))] [] (.row (.top 0) 41) [(0, .row 41 [] (List.map c_Rect r))] := by
 refine pc_of G (fn := Try.f49) Try.func49 (by kernel_rfl) (by kernel_rfl) (by kernel_rfl) (by kernel_rfl) (by kernel_rfl) ?_
 refine sem_set ⟨[(0, (.sl (List.map c_Rect a))), (1, (.sl (List.map c_Rect b)))], []⟩ (by kernel_rfl) ?_
 refine z3 1 ⟨[(0, (.sl (List.map c_Rect a))), (1, (.sl (List.map c_Rect b)))], []⟩ (by kernel_rfl) ?_
 refine z3 1 ⟨[(0, (.sl (List.map c_Rect a))), (1, (.sl (List.map c_Rect b))), (5, (.row (.top 5) 41))], [(5, .row 41 [] (List.map c_Rect []))]⟩ (by kernel_rfl) ?_
 refine sem_seq (by kernel_rfl) ?_
 refine z3 1 ⟨[(0, (.sl (List.map c_Rect a))), (1, (.sl (List.map c_Rect b))), (5, (.row (.top 5) 41)), (6, (vI 0))], [(5, .row 41 [] (List.map c_Rect []))]⟩ (by kernel_rfl) ?_
 refine sem_block (by kernel_rfl) ?_
 obtain ⟨x54, hx54, h⟩ := bindS h
 refine sem_loopS (fun (s37 : Int × (List Rect)) => ⟨[(0, (.sl (List.map c_Rect a))), (1, (.sl (List.map c_Rect b))), (5, (.row (.top 500000) 41)), (6, (vI s37.1))], [(500000, .row 41 [] (List.map c_Rect s37.2))]⟩) (fun (x54 : (List Rect)) => (.exit 0, ⟨[(1, (.sl (List.map c_Rect b))), (5, (.row (.top 500000) 41))], [(500000, .row 41 [] (List.map c_Rect x54))]⟩)) (sheetmetalref01_Both_l1 a) (0, []) x54 (by kernel_rfl) (subR_prep [] [(5, 500000)] (by kernel_rfl) rfl rfl (by kernel_rfl)) hx54 ?_ ?_ ?_
 ·intro s37 r h
  refine sem_seq (by kernel_rfl) ?_
  refine z7 (by kernel_rfl) ?_
  refine evs_run 2 (by kernel_rfl) ?_
  refine evs_op (st_len (c := c_Rect) (l := a) (x := (.sl (List.map c_Rect a))) (by kernel_rfl) (by kernel_rfl)) ?_
  refine z1 1 ⟨[(0, (.sl (List.map c_Rect a))), (1, (.sl (List.map c_Rect b))), (5, (.row (.top 500000) 41)), (6, (vI s37.1)), (11, (vB (decide (s37.1 < (a.length : Int)))))], [(500000, .row 41 [] (List.map c_Rect s37.2))]⟩ (by kernel_rfl) ?_
  refine sem_cond (decide (s37.1 < (a.length : Int))) (by kernel_rfl) (by kernel_rfl) (fun hb => ?_) (fun hb => ?_)
  ·replace h := iteT hb h
   refine z4 ⟨[(0, (.sl (List.map c_Rect a))), (1, (.sl (List.map c_Rect b))), (5, (.row (.top 500000) 41)), (6, (vI s37.1))], [(500000, .row 41 [] (List.map c_Rect s37.2))]⟩ (by kernel_rfl) ?_
   refine sem_seq (by kernel_rfl) ?_
   refine sem_block (by kernel_rfl) ?_
   refine sem_region (by kernel_rfl) ?_
   refine evs_run 3 (by kernel_rfl) ?_
   obtain ⟨x52, hx52, h⟩ := bindS h
   refine evs_op (st_idx (c := c_Rect) (l := a) (i := s37.1) (kd := .i64) (sz := 4) (by kernel_rfl) hx52 rfl) ?_
   refine evs_run 2 (by kernel_rfl) ?_
   obtain ⟨l53, hl53, h⟩ := bindS h
   refine evs_op (st_app (c := c_Rect) (l := s37.2) (l2 := [x52]) (x := (.sl (List.map c_Rect [x52]))) (g := 500000) (e := 41) (sz := 4) (d := 20) (by kernel_rfl) (by kernel_rfl) (by kernel_rfl) (by kernel_rfl) (fun _ => rfl) rfl hl53) ?_
   refine z6 1 (by kernel_rfl) (fun τ hτ => ?_)
   refine bl_normal ?_
   refine th_normalS hτ ⟨[(0, (.sl (List.map c_Rect a))), (1, (.sl (List.map c_Rect b))), (5, (.row (.top 500000) 41)), (6, (vI s37.1))], [(500000, .row 41 [] (List.map c_Rect l53))]⟩ (here (by kernel_rfl)) ?_
   refine sem_region (by kernel_rfl) ?_
   refine z6 3 (by kernel_rfl) (fun τ hτ => ?_)
   obtain rfl := Option.some.inj h
   exact lk_nextS hτ (here (by kernel_rfl))
  ·replace h := iteF hb h
   refine sem_exitS 0 (by kernel_rfl) rfl (fun τ hτ => ?_)
   refine th_exit ?_
   obtain rfl := Option.some.inj h
   exact lk_outS hτ rfl (here (by kernel_rfl))
 ·intro x
  rfl
 ·intro τ hτ
  refine bl_hit (by kernel_rfl) ?_
  refine th_normalS hτ ⟨[(1, (.sl (List.map c_Rect b))), (5, (.row (.top 500000) 41))], [(500000, .row 41 [] (List.map c_Rect x54))]⟩ (here (by kernel_rfl)) ?_
  refine sem_seq (by kernel_rfl) ?_
  refine z3 1 ⟨[(1, (.sl (List.map c_Rect b))), (5, (.row (.top 500000) 41)), (7, (vI 0))], [(500000, .row 41 [] (List.map c_Rect x54))]⟩ (by kernel_rfl) ?_
  refine sem_block (by kernel_rfl) ?_
  obtain ⟨x108, hx108, h⟩ := bindS h
  refine sem_loopS (fun (s91 : Int × (List Rect)) => ⟨[(1, (.sl (List.map c_Rect b))), (5, (.row (.top 500000) 41)), (7, (vI s91.1))], [(500000, .row 41 [] (List.map c_Rect s91.2))]⟩) (fun (x108 : (List Rect)) => (.exit 2, ⟨[(5, (.row (.top 500000) 41))], [(500000, .row 41 [] (List.map c_Rect x108))]⟩)) (sheetmetalref01_Both_l2 b) (0, x54) x108 (by kernel_rfl) (here (by kernel_rfl)) hx108 ?_ ?_ ?_
  ·intro s91 r h
   refine sem_seq (by kernel_rfl) ?_
   refine z7 (by kernel_rfl) ?_
   refine evs_run 2 (by kernel_rfl) ?_
   refine evs_op (st_len (c := c_Rect) (l := b) (x := (.sl (List.map c_Rect b))) (by kernel_rfl) (by kernel_rfl)) ?_
   refine z1 1 ⟨[(1, (.sl (List.map c_Rect b))), (5, (.row (.top 500000) 41)), (7, (vI s91.1)), (24, (vB (decide (s91.1 < (b.length : Int)))))], [(500000, .row 41 [] (List.map c_Rect s91.2))]⟩ (by kernel_rfl) ?_
   refine sem_cond (decide (s91.1 < (b.length : Int))) (by kernel_rfl) (by kernel_rfl) (fun hb => ?_) (fun hb => ?_)
   ·replace h := iteT hb h
    refine z4 ⟨[(1, (.sl (List.map c_Rect b))), (5, (.row (.top 500000) 41)), (7, (vI s91.1))], [(500000, .row 41 [] (List.map c_Rect s91.2))]⟩ (by kernel_rfl) ?_
    refine sem_seq (by kernel_rfl) ?_
    refine sem_block (by kernel_rfl) ?_
    refine sem_region (by kernel_rfl) ?_
    refine evs_run 3 (by kernel_rfl) ?_
    obtain ⟨x106, hx106, h⟩ := bindS h
    refine evs_op (st_idx (c := c_Rect) (l := b) (i := s91.1) (kd := .i64) (sz := 4) (by kernel_rfl) hx106 rfl) ?_
    refine evs_run 2 (by kernel_rfl) ?_
    obtain ⟨l107, hl107, h⟩ := bindS h
    refine evs_op (st_app (c := c_Rect) (l := s91.2) (l2 := [x106]) (x := (.sl (List.map c_Rect [x106]))) (g := 500000) (e := 41) (sz := 4) (d := 33) (by kernel_rfl) (by kernel_rfl) (by kernel_rfl) (by kernel_rfl) (fun _ => rfl) rfl hl107) ?_
    refine z6 1 (by kernel_rfl) (fun τ hτ => ?_)
    refine bl_normal ?_
    refine th_normalS hτ ⟨[(1, (.sl (List.map c_Rect b))), (5, (.row (.top 500000) 41)), (7, (vI s91.1))], [(500000, .row 41 [] (List.map c_Rect l107))]⟩ (here (by kernel_rfl)) ?_
    refine sem_region (by kernel_rfl) ?_
    refine z6 3 (by kernel_rfl) (fun τ hτ => ?_)
    obtain rfl := Option.some.inj h
    exact lk_nextS hτ (here (by kernel_rfl))
   ·replace h := iteF hb h
    refine sem_exitS 2 (by kernel_rfl) rfl (fun τ hτ => ?_)
    refine th_exit ?_
    obtain rfl := Option.some.inj h
    exact lk_outS hτ rfl (here (by kernel_rfl))
  ·intro x
   rfl
  ·intro τ hτ
   refine bl_hit (by kernel_rfl) ?_
   refine th_normalS hτ ⟨[(5, (.row (.top 500000) 41))], [(500000, .row 41 [] (List.map c_Rect x108))]⟩ (here (by kernel_rfl)) ?_
   refine z8 2 ⟨[(4, (.row (.top 500000) 41))], [(500000, .row 41 [] (List.map c_Rect x108))]⟩ (by kernel_rfl) (fun τ hτ => ?_)
   obtain rfl := Option.some.inj h
   exact rk_ret hτ [(4, (.row (.top 0) 41))] (subR_prep [] [(500000, 0)] (by kernel_rfl) rfl rfl (by kernel_rfl)) (by kernel_rfl)
theorem W.geom_Outline_1_ok {i : Int} {j1 : Int} {a_0 : (List (List Bool))} {r : Int} (h : geom_Outline_1 i j1 a_0 = some r) : PC G.P 87 [(vI i), (vI j1), (.vptr [(.sl (List.map (cS cB) a_0))] 0)] [] (vI r) [] := by
 refine pc_of G (fn := Try.f87) Try.func87 (by kernel_rfl) (by kernel_rfl) (by kernel_rfl) (by kernel_rfl) (by kernel_rfl) ?_
 refine sem_set ⟨[(0, (vI i)), (1, (vI j1)), (2, (.vptr [(.sl (List.map (cS cB) a_0))] 0))], []⟩ (by kernel_rfl) ?_
 refine z3 1 ⟨[(0, (vI i)), (1, (vI j1)), (2, (.vptr [(.sl (List.map (cS cB) a_0))] 0))], []⟩ (by kernel_rfl) ?_
 refine sem_seq (by kernel_rfl) ?_
 refine sem_seq (by kernel_rfl) ?_
 obtain ⟨j11, hj11, h⟩ := bindS h
 refine sem_regionC ⟨[(36, (vB j11))], []⟩ (by kernel_rfl) ?_ (fun τ hτ => ?_)
 ·replace h := hj11
  refine evs_run 3 (by kernel_rfl) ?_
  refine evs_split (decide (i < 0)) (fun b0 => ⟨[(0, (vI i)), (1, (vI j1)), (2, (.vptr [(.sl (List.map (cS cB) a_0))] 0)), (8, (vB b0))], []⟩) (by kernel_rfl) (fun hb => ?_) (fun hb => ?_)
  ·replace h := iteT hb h
   refine z6 28 (by kernel_rfl) (fun τ hτ => ?_)
   obtain rfl := Option.some.inj h
   exact leafC hτ (here (by kernel_rfl))
  ·replace h := iteF hb h
   refine evs_run 4 (by kernel_rfl) ?_
   refine evs_split (decide (j1 < 0)) (fun b0 => ⟨[(0, (vI i)), (1, (vI j1)), (2, (.vptr [(.sl (List.map (cS cB) a_0))] 0)), (12, (vB b0))], []⟩) (by kernel_rfl) (fun hb => ?_) (fun hb => ?_)
   ·replace h := iteT hb h
    refine z6 24 (by kernel_rfl) (fun τ hτ => ?_)
    obtain rfl := Option.some.inj h
    exact leafC hτ (here (by kernel_rfl))
   ·replace h := iteF hb h
    refine evs_run 2 (by kernel_rfl) ?_
    refine evs_op (st_len (c := (cS cB)) (l := a_0) (x := (.sl (List.map (cS cB) a_0))) (by kernel_rfl) (by kernel_rfl)) ?_
    refine evs_run 3 (by kernel_rfl) ?_
    refine evs_split (decide (i ≥ (a_0.length : Int))) (fun b0 => ⟨[(0, (vI i)), (1, (vI j1)), (2, (.vptr [(.sl (List.map (cS cB) a_0))] 0)), (18, (vB b0))], []⟩) (by kernel_rfl) (fun hb => ?_) (fun hb => ?_)
    ·replace h := iteT hb h
     refine z6 18 (by kernel_rfl) (fun τ hτ => ?_)
     obtain rfl := Option.some.inj h
     exact leafC hτ (here (by kernel_rfl))
    ·replace h := iteF hb h
     refine evs_run 3 (by kernel_rfl) ?_
     obtain ⟨x12, hx12, h⟩ := bindS h
     refine evs_op (st_idx (c := (cS cB)) (l := a_0) (i := i) (kd := .i64) (sz := 1) (by kernel_rfl) hx12 rfl) ?_
     refine evs_run 1 (by kernel_rfl) ?_
     refine evs_op (st_len (c := cB) (l := x12) (x := (.sl (List.map cB x12))) (by kernel_rfl) (by kernel_rfl)) ?_
     refine evs_run 3 (by kernel_rfl) ?_
     refine evs_split (decide (j1 ≥ (x12.length : Int))) (fun b0 => ⟨[(0, (vI i)), (1, (vI j1)), (2, (.vptr [(.sl (List.map (cS cB) a_0))] 0)), (27, (vB b0))], []⟩) (by kernel_rfl) (fun hb => ?_) (fun hb => ?_)
     ·replace h := iteT hb h
      refine z6 9 (by kernel_rfl) (fun τ hτ => ?_)
      obtain rfl := Option.some.inj h
      exact leafC hτ (here (by kernel_rfl))
     ·replace h := iteF hb h
      refine evs_run 2 (by kernel_rfl) ?_
      obtain ⟨x13, hx13, h⟩ := bindS h
      refine evs_op (st_idx (c := (cS cB)) (l := a_0) (i := i) (kd := .i64) (sz := 1) (by kernel_rfl) hx13 rfl) ?_
      refine evs_run 2 (by kernel_rfl) ?_
      obtain ⟨x14, hx14, h⟩ := bindS h
      refine evs_op (st_idx (c := cB) (l := x13) (i := j1) (kd := .i64) (sz := 1) (by kernel_rfl) hx14 rfl) ?_
      refine z6 3 (by kernel_rfl) (fun τ hτ => ?_)
      obtain rfl := Option.some.inj h
      exact leafC hτ (here (by kernel_rfl))
 refine th_normalS hτ ⟨[(36, (vB j11))], []⟩ (here (by kernel_rfl)) ?_
 refine sem_cond j11 (by kernel_rfl) (by kernel_rfl) (fun hb => ?_) (fun hb => ?_)
 ·replace h := iteT hb h
  refine z8 1 ⟨[(5, (vI 0))], []⟩ (by kernel_rfl) (fun τ hτ => ?_)
  refine th_ret ?_
  obtain rfl := Option.some.inj h
  exact rk_ret hτ [(5, (vI 0))] (here (by kernel_rfl)) (by kernel_rfl)
 ·replace h := iteF hb h
  refine z4 ⟨[], []⟩ (by kernel_rfl) ?_
  refine z8 1 ⟨[(5, (vI 1))], []⟩ (by kernel_rfl) (fun τ hτ => ?_)
  obtain rfl := Option.some.inj h
  exact rk_ret hτ [(5, (vI 1))] (here (by kernel_rfl)) (by kernel_rfl)
theorem W.geom_Outline_2_ok {i : Int} {a_0_0_0 : (List (List Bool))} {a2_0 : Int} {r : Int} (h : geom_Outline_2 i a_0_0_0 a2_0 = some r) : PC G.P 89 [(vI i), (.vptr [(.fn 87 [(.vptr [(.sl (List.map (cS cB) a_0_0_0))] 0)])] 0), (.vptr [(vI a2_0)] 0)] [] (vI r) [] := by
 refine pc_of G (fn := Try.f89) Try.func89 (by kernel_rfl) (by kernel_rfl) (by kernel_rfl) (by kernel_rfl) (by kernel_rfl) ?_
 refine sem_set ⟨[(0, (vI i)), (1, (.vptr [(.fn 87 [(.vptr [(.sl (List.map (cS cB) a_0_0_0))] 0)])] 0)), (2, (.vptr [(vI a2_0)] 0))], []⟩ (by kernel_rfl) ?_
 refine z3 1 ⟨[(0, (vI i)), (1, (.vptr [(.fn 87 [(.vptr [(.sl (List.map (cS cB) a_0_0_0))] 0)])] 0)), (2, (.vptr [(vI a2_0)] 0))], []⟩ (by kernel_rfl) ?_
 refine sem_seq (by kernel_rfl) ?_
 refine sem_drawN [] [] [] [] [] 8 (by kernel_rfl) (by kernel_rfl) (by kernel_rfl) ?_
 refine evd_run 3 (by kernel_rfl) ?_
 obtain ⟨r5, hr5, h⟩ := bindS h
 refine evd_callS [] [] (by kernel_rfl) (by kernel_rfl) (W.geom_Outline_1_ok hr5) (by kernel_rfl) (.inl rfl) (by kernel_rfl) (by kernel_rfl) ?_
 refine evd_run 4 (by kernel_rfl) ?_
 refine evd_end (by kernel_rfl) ?_
 obtain ⟨r6, hr6, h⟩ := bindS h
 refine evo_callP [] (by kernel_rfl) (W.geom_Outline_1_ok hr6) (by kernel_rfl) (.inl rfl) (by kernel_rfl) ?_
 refine evo_run 2 (by kernel_rfl) ?_
 refine evo_endS (by kernel_rfl) (fun τ hτ => ?_)
 refine th_normalS hτ ⟨[(4, (vI (isub r5 r6)))], []⟩ (here (by kernel_rfl)) ?_
 refine sem_retS (by kernel_rfl) (fun τ hτ => ?_)
 obtain rfl := Option.some.inj h
 exact rk_ret hτ [(4, (vI (isub r5 r6)))] (here (by kernel_rfl)) (by kernel_rfl)
theorem W.geom_Outline_3_ok {from0 : Int} {to1 : Int} {a_0 : Int} {h1 : (List Segment)} {r : (List Segment)} (h : geom_Outline_3 from0 to1 a_0 h1 = some r) : PC G.P 90 [(vI from0), (vI to1), (.ptr 1000000 0), (.vptr [(vI a_0)] 0)] [(1000000, .box [(.row (.top 300001) 100)]), (300001, .row 100 [] (List.map c_Segment h1))] (.tup []) [(0, .row 100 [] (List.map c_Segment r)), (1000000, .box [(.row (.top 0) 100)])] := by
 refine pc_of G (fn := Try.f90) Try.func90 (by kernel_rfl) (by kernel_rfl) (by kernel_rfl) (by kernel_rfl) (by kernel_rfl) ?_
 refine sem_set ⟨[(0, (vI from0)), (1, (vI to1)), (2, (.ptr 1000000 0)), (3, (.vptr [(vI a_0)] 0))], [(300001, .row 100 [] (List.map c_Segment h1)), (1000000, .box [(.row (.top 300001) 100)])]⟩ (by kernel_rfl) ?_
 refine sem_region (by kernel_rfl) ?_
 refine evs_run 7 (by kernel_rfl) ?_
 obtain ⟨l2, hl2, h⟩ := bindS h
 refine evs_op (st_app (c := c_Segment) (l := h1) (l2 := [(Segment.mk from0 a_0 to1 a_0)]) (x := (.sl (List.map c_Segment [(Segment.mk from0 a_0 to1 a_0)]))) (g := 300001) (e := 100) (sz := 4) (d := 13) (by kernel_rfl) (by kernel_rfl) (by kernel_rfl) (by kernel_rfl) (fun _ => rfl) rfl hl2) ?_
 refine z6 1 (by kernel_rfl) (fun τ hτ => ?_)
 obtain rfl := Option.some.inj h
 exact rk_normal hτ [] (subR_prep [] [(300001, 0), (1000000, 1000000)] (by kernel_rfl) rfl rfl (by kernel_rfl)) (by kernel_rfl)
theorem W.geom_runs__geom_Outline_2__geom_Outline_3_ok {ends : (List Int)} {side_0_0_0_0 : (List (List Bool))} {side_1_0 : Int} {found_1_0 : Int} {h1 : (List Segment)} {r : (List Segment)} (h : geom_runs__geom_Outline_2__geom_Outline_3 ends side_0_0_0_0 side_1_0 found_1_0 h1 = some r) : PC G.P 88 [(.sl (List.map cI ends)), (.fn 89 [(.vptr [(.fn 87 [(.vptr [(.sl (List.map (cS cB) side_0_0_0_0))] 0)])] 0), (.vptr [(vI side_1_0)] 0)]), (.fn 90 [(.ptr 1000000 0), (.vptr [(vI found_1_0)] 0)])] [(1000000, .box [(.row (.top 300001) 100)]), (300001, .row 100 [] (List.map c_Segment h1))] (.tup []) [(0, .row 100 [] (List.map c_Segment r)), (1000000, .box [(.row (.top 0) 100)])] := by
 refine pc_of G (fn := Try.f88) Try.func88 (by kernel_rfl) (by kernel_rfl) (by kernel_rfl) (by kernel_rfl) (by kernel_rfl) ?_
 refine sem_set ⟨[(0, (.sl (List.map cI ends))), (1, (.fn 89 [(.vptr [(.fn 87 [(.vptr [(.sl (List.map (cS cB) side_0_0_0_0))] 0)])] 0), (.vptr [(vI side_1_0)] 0)])), (2, (.fn 90 [(.ptr 1000000 0), (.vptr [(vI found_1_0)] 0)]))], [(300001, .row 100 [] (List.map c_Segment h1)), (1000000, .box [(.row (.top 300001) 100)])]⟩ (by kernel_rfl) ?_
 refine z3 1 ⟨[(0, (.sl (List.map cI ends))), (1, (.fn 89 [(.vptr [(.fn 87 [(.vptr [(.sl (List.map (cS cB) side_0_0_0_0))] 0)])] 0), (.vptr [(vI side_1_0)] 0)])), (2, (.fn 90 [(.ptr 1000000 0), (.vptr [(vI found_1_0)] 0)])), (6, (vI 0))], [(300001, .row 100 [] (List.map c_Segment h1)), (1000000, .box [(.row (.top 300001) 100)])]⟩ (by kernel_rfl) ?_
 refine z7 (by kernel_rfl) ?_
 refine evs_run 1 (by kernel_rfl) ?_
 refine evs_op (st_len (c := cI) (l := ends) (x := (.sl (List.map cI ends))) (by kernel_rfl) (by kernel_rfl)) ?_
 refine z1 1 ⟨[(0, (.sl (List.map cI ends))), (1, (.fn 89 [(.vptr [(.fn 87 [(.vptr [(.sl (List.map (cS cB) side_0_0_0_0))] 0)])] 0), (.vptr [(vI side_1_0)] 0)])), (2, (.fn 90 [(.ptr 1000000 0), (.vptr [(vI found_1_0)] 0)])), (6, (vI 0)), (11, (vI (ends.length : Int))), (12, (vI 0))], [(300001, .row 100 [] (List.map c_Segment h1)), (1000000, .box [(.row (.top 300001) 100)])]⟩ (by kernel_rfl) ?_
 refine sem_block (by kernel_rfl) ?_
 obtain ⟨x511, hx511, h⟩ := bindS h
 refine sem_loopS (fun (s70 : Int × Int × (List Segment)) => ⟨[(0, (.sl (List.map cI ends))), (1, (.fn 89 [(.vptr [(.fn 87 [(.vptr [(.sl (List.map (cS cB) side_0_0_0_0))] 0)])] 0), (.vptr [(vI side_1_0)] 0)])), (2, (.fn 90 [(.ptr 1000000 0), (.vptr [(vI found_1_0)] 0)])), (6, (vI s70.1)), (11, (vI (ends.length : Int))), (12, (vI s70.2.1))], [(500000, .row 100 [] (List.map c_Segment s70.2.2)), (1000000, .box [(.row (.top 500000) 100)])]⟩) (fun (x511 : (List Segment)) => (.exit 0, ⟨[], [(500000, .row 100 [] (List.map c_Segment x511)), (1000000, .box [(.row (.top 500000) 100)])]⟩)) (geom_runs__geom_Outline_2__geom_Outline_3_l4 ends side_0_0_0_0 side_1_0 found_1_0) (0, 0, h1) x511 (by kernel_rfl) (subR_prep [] [(300001, 500000), (1000000, 1000000)] (by kernel_rfl) rfl rfl (by kernel_rfl)) hx511 ?_ ?_ ?_
 ·intro s70 r h
  refine z3 1 ⟨[(0, (.sl (List.map cI ends))), (1, (.fn 89 [(.vptr [(.fn 87 [(.vptr [(.sl (List.map (cS cB) side_0_0_0_0))] 0)])] 0), (.vptr [(vI side_1_0)] 0)])), (2, (.fn 90 [(.ptr 1000000 0), (.vptr [(vI found_1_0)] 0)])), (6, (vI s70.1)), (11, (vI (ends.length : Int))), (12, (vI s70.2.1)), (13, (vB (decide (s70.2.1 < (ends.length : Int)))))], [(500000, .row 100 [] (List.map c_Segment s70.2.2)), (1000000, .box [(.row (.top 500000) 100)])]⟩ (by kernel_rfl) ?_
  refine sem_seq (by kernel_rfl) ?_
  refine sem_cond (decide (s70.2.1 < (ends.length : Int))) (by kernel_rfl) (by kernel_rfl) (fun hb => ?_) (fun hb => ?_)
  ·replace h := iteT hb h
   refine z4 ⟨[(0, (.sl (List.map cI ends))), (1, (.fn 89 [(.vptr [(.fn 87 [(.vptr [(.sl (List.map (cS cB) side_0_0_0_0))] 0)])] 0), (.vptr [(vI side_1_0)] 0)])), (2, (.fn 90 [(.ptr 1000000 0), (.vptr [(vI found_1_0)] 0)])), (6, (vI s70.1)), (11, (vI (ends.length : Int))), (12, (vI s70.2.1))], [(500000, .row 100 [] (List.map c_Segment s70.2.2)), (1000000, .box [(.row (.top 500000) 100)])]⟩ (by kernel_rfl) ?_
   refine sem_seq (by kernel_rfl) ?_
   refine sem_block (by kernel_rfl) ?_
   refine z3 2 ⟨[(0, (.sl (List.map cI ends))), (1, (.fn 89 [(.vptr [(.fn 87 [(.vptr [(.sl (List.map (cS cB) side_0_0_0_0))] 0)])] 0), (.vptr [(vI side_1_0)] 0)])), (2, (.fn 90 [(.ptr 1000000 0), (.vptr [(vI found_1_0)] 0)])), (6, (vI s70.1)), (7, (vI s70.2.1)), (11, (vI (ends.length : Int))), (12, (vI s70.2.1))], [(500000, .row 100 [] (List.map c_Segment s70.2.2)), (1000000, .box [(.row (.top 500000) 100)])]⟩ (by kernel_rfl) ?_
   refine z3 1 ⟨[(0, (.sl (List.map cI ends))), (1, (.fn 89 [(.vptr [(.fn 87 [(.vptr [(.sl (List.map (cS cB) side_0_0_0_0))] 0)])] 0), (.vptr [(vI side_1_0)] 0)])), (2, (.fn 90 [(.ptr 1000000 0), (.vptr [(vI found_1_0)] 0)])), (6, (vI s70.1)), (7, (vI s70.2.1)), (8, (vI 0)), (11, (vI (ends.length : Int))), (12, (vI s70.2.1))], [(500000, .row 100 [] (List.map c_Segment s70.2.2)), (1000000, .box [(.row (.top 500000) 100)])]⟩ (by kernel_rfl) ?_
   refine sem_seqJ (fun (j403 : Int) => ⟨[(0, (.sl (List.map cI ends))), (1, (.fn 89 [(.vptr [(.fn 87 [(.vptr [(.sl (List.map (cS cB) side_0_0_0_0))] 0)])] 0), (.vptr [(vI side_1_0)] 0)])), (2, (.fn 90 [(.ptr 1000000 0), (.vptr [(vI found_1_0)] 0)])), (6, (vI s70.1)), (7, (vI s70.2.1)), (8, (vI j403)), (11, (vI (ends.length : Int))), (12, (vI s70.2.1))], [(500000, .row 100 [] (List.map c_Segment s70.2.2)), (1000000, .box [(.row (.top 500000) 100)])]⟩) (geom_runs__geom_Outline_2__geom_Outline_3_k3 ends side_0_0_0_0 side_1_0 found_1_0 s70) r (by kernel_rfl) (fun j403 h => ?_) ?_
   ·refine sem_seqJ (fun (j456 : (List Segment)) => ⟨[(0, (.sl (List.map cI ends))), (1, (.fn 89 [(.vptr [(.fn 87 [(.vptr [(.sl (List.map (cS cB) side_0_0_0_0))] 0)])] 0), (.vptr [(vI side_1_0)] 0)])), (2, (.fn 90 [(.ptr 1000000 0), (.vptr [(vI found_1_0)] 0)])), (8, (vI j403)), (11, (vI (ends.length : Int))), (12, (vI s70.2.1))], [(500000, .row 100 [] (List.map c_Segment j456)), (1000000, .box [(.row (.top 500000) 100)])]⟩) (geom_runs__geom_Outline_2__geom_Outline_3_k1 s70 j403) r (by kernel_rfl) (fun j456 h => ?_) ?_
    ·refine sem_region (by kernel_rfl) ?_
     refine z6 2 (by kernel_rfl) (fun τ hτ => ?_)
     refine bl_normal ?_
     refine th_normalS hτ ⟨[(0, (.sl (List.map cI ends))), (1, (.fn 89 [(.vptr [(.fn 87 [(.vptr [(.sl (List.map (cS cB) side_0_0_0_0))] 0)])] 0), (.vptr [(vI side_1_0)] 0)])), (2, (.fn 90 [(.ptr 1000000 0), (.vptr [(vI found_1_0)] 0)])), (6, (vI j403)), (11, (vI (ends.length : Int))), (12, (vI s70.2.1))], [(500000, .row 100 [] (List.map c_Segment j456)), (1000000, .box [(.row (.top 500000) 100)])]⟩ (here (by kernel_rfl)) ?_
     refine sem_region (by kernel_rfl) ?_
     refine z6 2 (by kernel_rfl) (fun τ hτ => ?_)
     obtain rfl := Option.some.inj h
     exact lk_nextS hτ (here (by kernel_rfl))
    refine sem_seq (by kernel_rfl) ?_
    obtain ⟨j457, hj457, h⟩ := bindS h
    refine sem_regionC ⟨[(0, (.sl (List.map cI ends))), (1, (.fn 89 [(.vptr [(.fn 87 [(.vptr [(.sl (List.map (cS cB) side_0_0_0_0))] 0)])] 0), (.vptr [(vI side_1_0)] 0)])), (2, (.fn 90 [(.ptr 1000000 0), (.vptr [(vI found_1_0)] 0)])), (6, (vI s70.1)), (7, (vI s70.2.1)), (8, (vI j403)), (11, (vI (ends.length : Int))), (12, (vI s70.2.1)), (29, (vB j457))], [(500000, .row 100 [] (List.map c_Segment s70.2.2)), (1000000, .box [(.row (.top 500000) 100)])]⟩ (by kernel_rfl) ?_ (fun τ hτ => ?_)
    ·replace h := hj457
     refine evs_run 4 (by kernel_rfl) ?_
     refine evs_split (j403 != s70.1) (fun b0 => ⟨[(0, (.sl (List.map cI ends))), (1, (.fn 89 [(.vptr [(.fn 87 [(.vptr [(.sl (List.map (cS cB) side_0_0_0_0))] 0)])] 0), (.vptr [(vI side_1_0)] 0)])), (2, (.fn 90 [(.ptr 1000000 0), (.vptr [(vI found_1_0)] 0)])), (6, (vI s70.1)), (7, (vI s70.2.1)), (8, (vI j403)), (11, (vI (ends.length : Int))), (12, (vI s70.2.1)), (26, (vB b0))], [(500000, .row 100 [] (List.map c_Segment s70.2.2)), (1000000, .box [(.row (.top 500000) 100)])]⟩) (by kernel_rfl) (fun hb => ?_) (fun hb => ?_)
     ·replace h := iteT hb h
      refine z6 3 (by kernel_rfl) (fun τ hτ => ?_)
      obtain rfl := Option.some.inj h
      exact leafC hτ (here (by kernel_rfl))
     ·replace h := iteF hb h
      refine z6 3 (by kernel_rfl) (fun τ hτ => ?_)
      obtain rfl := Option.some.inj h
      exact leafC hτ (here (by kernel_rfl))
    refine th_normalS hτ ⟨[(0, (.sl (List.map cI ends))), (1, (.fn 89 [(.vptr [(.fn 87 [(.vptr [(.sl (List.map (cS cB) side_0_0_0_0))] 0)])] 0), (.vptr [(vI side_1_0)] 0)])), (2, (.fn 90 [(.ptr 1000000 0), (.vptr [(vI found_1_0)] 0)])), (6, (vI s70.1)), (7, (vI s70.2.1)), (8, (vI j403)), (11, (vI (ends.length : Int))), (12, (vI s70.2.1)), (29, (vB j457))], [(500000, .row 100 [] (List.map c_Segment s70.2.2)), (1000000, .box [(.row (.top 500000) 100)])]⟩ (here (by kernel_rfl)) ?_
    refine sem_cond j457 (by kernel_rfl) (by kernel_rfl) (fun hb => ?_) (fun hb => ?_)
    ·replace h := iteT hb h
     refine z3 3 ⟨[(0, (.sl (List.map cI ends))), (1, (.fn 89 [(.vptr [(.fn 87 [(.vptr [(.sl (List.map (cS cB) side_0_0_0_0))] 0)])] 0), (.vptr [(vI side_1_0)] 0)])), (2, (.fn 90 [(.ptr 1000000 0), (.vptr [(vI found_1_0)] 0)])), (6, (vI s70.1)), (7, (vI s70.2.1)), (8, (vI j403)), (9, (vI (isub s70.2.1 1))), (11, (vI (ends.length : Int))), (12, (vI s70.2.1))], [(500000, .row 100 [] (List.map c_Segment s70.2.2)), (1000000, .box [(.row (.top 500000) 100)])]⟩ (by kernel_rfl) ?_
     refine sem_seq (by kernel_rfl) ?_
     refine sem_block (by kernel_rfl) ?_
     obtain ⟨x499, hx499, h⟩ := bindS h
     refine sem_loopS (fun (s486 : Int) => ⟨[(0, (.sl (List.map cI ends))), (1, (.fn 89 [(.vptr [(.fn 87 [(.vptr [(.sl (List.map (cS cB) side_0_0_0_0))] 0)])] 0), (.vptr [(vI side_1_0)] 0)])), (2, (.fn 90 [(.ptr 1000000 0), (.vptr [(vI found_1_0)] 0)])), (6, (vI s70.1)), (7, (vI s70.2.1)), (8, (vI j403)), (9, (vI s486)), (11, (vI (ends.length : Int))), (12, (vI s70.2.1))], [(500000, .row 100 [] (List.map c_Segment s70.2.2)), (1000000, .box [(.row (.top 500000) 100)])]⟩) (fun (x499 : Int) => (.exit 2, ⟨[(0, (.sl (List.map cI ends))), (1, (.fn 89 [(.vptr [(.fn 87 [(.vptr [(.sl (List.map (cS cB) side_0_0_0_0))] 0)])] 0), (.vptr [(vI side_1_0)] 0)])), (2, (.fn 90 [(.ptr 1000000 0), (.vptr [(vI found_1_0)] 0)])), (7, (vI s70.2.1)), (8, (vI j403)), (9, (vI x499)), (11, (vI (ends.length : Int))), (12, (vI s70.2.1))], [(500000, .row 100 [] (List.map c_Segment s70.2.2)), (1000000, .box [(.row (.top 500000) 100)])]⟩)) (geom_runs__geom_Outline_2__geom_Outline_3_l2 side_0_0_0_0 side_1_0 s70) (isub s70.2.1 1) x499 (by kernel_rfl) (here (by kernel_rfl)) hx499 ?_ ?_ ?_
     ·intro s486 r h
      refine sem_seq (by kernel_rfl) ?_
      refine sem_seq (by kernel_rfl) ?_
      obtain ⟨j497, hj497, h⟩ := bindS h
      refine sem_regionC ⟨[(0, (.sl (List.map cI ends))), (1, (.fn 89 [(.vptr [(.fn 87 [(.vptr [(.sl (List.map (cS cB) side_0_0_0_0))] 0)])] 0), (.vptr [(vI side_1_0)] 0)])), (2, (.fn 90 [(.ptr 1000000 0), (.vptr [(vI found_1_0)] 0)])), (6, (vI s70.1)), (7, (vI s70.2.1)), (8, (vI j403)), (9, (vI s486)), (11, (vI (ends.length : Int))), (12, (vI s70.2.1)), (41, (vB j497))], [(500000, .row 100 [] (List.map c_Segment s70.2.2)), (1000000, .box [(.row (.top 500000) 100)])]⟩ (by kernel_rfl) ?_ (fun τ hτ => ?_)
      ·replace h := hj497
       refine evs_run 3 (by kernel_rfl) ?_
       refine evs_split (decide (s486 > 0)) (fun b0 => ⟨[(0, (.sl (List.map cI ends))), (1, (.fn 89 [(.vptr [(.fn 87 [(.vptr [(.sl (List.map (cS cB) side_0_0_0_0))] 0)])] 0), (.vptr [(vI side_1_0)] 0)])), (2, (.fn 90 [(.ptr 1000000 0), (.vptr [(vI found_1_0)] 0)])), (6, (vI s70.1)), (7, (vI s70.2.1)), (8, (vI j403)), (9, (vI s486)), (11, (vI (ends.length : Int))), (12, (vI s70.2.1)), (34, (vB b0))], [(500000, .row 100 [] (List.map c_Segment s70.2.2)), (1000000, .box [(.row (.top 500000) 100)])]⟩) (by kernel_rfl) (fun hb => ?_) (fun hb => ?_)
       ·replace h := iteT hb h
        refine evs_run 3 (by kernel_rfl) ?_
        obtain ⟨r498, hr498, h⟩ := bindS h
        refine evs_callP [] (by kernel_rfl) (W.geom_Outline_2_ok hr498) (by kernel_rfl) (.inl rfl) (by kernel_rfl) ?_
        refine z6 3 (by kernel_rfl) (fun τ hτ => ?_)
        obtain rfl := Option.some.inj h
        exact leafC hτ (here (by kernel_rfl))
       ·replace h := iteF hb h
        refine z6 7 (by kernel_rfl) (fun τ hτ => ?_)
        obtain rfl := Option.some.inj h
        exact leafC hτ (here (by kernel_rfl))
      refine th_normalS hτ ⟨[(0, (.sl (List.map cI ends))), (1, (.fn 89 [(.vptr [(.fn 87 [(.vptr [(.sl (List.map (cS cB) side_0_0_0_0))] 0)])] 0), (.vptr [(vI side_1_0)] 0)])), (2, (.fn 90 [(.ptr 1000000 0), (.vptr [(vI found_1_0)] 0)])), (6, (vI s70.1)), (7, (vI s70.2.1)), (8, (vI j403)), (9, (vI s486)), (11, (vI (ends.length : Int))), (12, (vI s70.2.1)), (41, (vB j497))], [(500000, .row 100 [] (List.map c_Segment s70.2.2)), (1000000, .box [(.row (.top 500000) 100)])]⟩ (here (by kernel_rfl)) ?_
      refine sem_cond j497 (by kernel_rfl) (by kernel_rfl) (fun hb => ?_) (fun hb => ?_)
      ·replace h := iteT hb h
       refine z4 ⟨[(0, (.sl (List.map cI ends))), (1, (.fn 89 [(.vptr [(.fn 87 [(.vptr [(.sl (List.map (cS cB) side_0_0_0_0))] 0)])] 0), (.vptr [(vI side_1_0)] 0)])), (2, (.fn 90 [(.ptr 1000000 0), (.vptr [(vI found_1_0)] 0)])), (6, (vI s70.1)), (7, (vI s70.2.1)), (8, (vI j403)), (9, (vI s486)), (11, (vI (ends.length : Int))), (12, (vI s70.2.1))], [(500000, .row 100 [] (List.map c_Segment s70.2.2)), (1000000, .box [(.row (.top 500000) 100)])]⟩ (by kernel_rfl) ?_
       refine sem_block (by kernel_rfl) ?_
       refine sem_region (by kernel_rfl) ?_
       refine z6 3 (by kernel_rfl) (fun τ hτ => ?_)
       refine bl_normal ?_
       obtain rfl := Option.some.inj h
       exact lk_nextS hτ (here (by kernel_rfl))
      ·replace h := iteF hb h
       refine sem_exitS 2 (by kernel_rfl) rfl (fun τ hτ => ?_)
       refine th_exit ?_
       obtain rfl := Option.some.inj h
       exact lk_outS hτ rfl (here (by kernel_rfl))
     ·intro x
      rfl
     ·intro τ hτ
      refine bl_hit (by kernel_rfl) ?_
      refine th_normalS hτ ⟨[(0, (.sl (List.map cI ends))), (1, (.fn 89 [(.vptr [(.fn 87 [(.vptr [(.sl (List.map (cS cB) side_0_0_0_0))] 0)])] 0), (.vptr [(vI side_1_0)] 0)])), (2, (.fn 90 [(.ptr 1000000 0), (.vptr [(vI found_1_0)] 0)])), (7, (vI s70.2.1)), (8, (vI j403)), (9, (vI x499)), (11, (vI (ends.length : Int))), (12, (vI s70.2.1))], [(500000, .row 100 [] (List.map c_Segment s70.2.2)), (1000000, .box [(.row (.top 500000) 100)])]⟩ (here (by kernel_rfl)) ?_
      refine sem_drawN [] [] [] [] [] 9 (by kernel_rfl) (by kernel_rfl) (by kernel_rfl) ?_
      refine evd_run 3 (by kernel_rfl) ?_
      obtain ⟨x506, hx506, h⟩ := bindS h
      refine evd_val (by kernel_rfl) (st_idx (c := cI) (l := ends) (i := x499) (kd := .i64) (sz := 1) (by kernel_rfl) hx506 rfl) (by kernel_rfl) (by kernel_rfl) ?_
      refine evd_run 3 (by kernel_rfl) ?_
      obtain ⟨x507, hx507, h⟩ := bindS h
      refine evd_val (by kernel_rfl) (st_idx (c := cI) (l := ends) (i := s70.2.1) (kd := .i64) (sz := 1) (by kernel_rfl) hx507 rfl) (by kernel_rfl) (by kernel_rfl) ?_
      refine evd_run 1 (by kernel_rfl) ?_
      refine evd_end (by kernel_rfl) ?_
      obtain ⟨r508, hr508, h⟩ := bindS h
      refine evo_callS [(1000000, 1000000), (300001, 500000)] [(0, 700450)] [] (by kernel_rfl) (W.geom_Outline_3_ok hr508) (by kernel_rfl) (by kernel_rfl) (.inl rfl) ?_
      refine evo_endS (by kernel_rfl) (fun τ hτ => ?_)
      exact jk_normal r508 h hτ (subR_prep [] [(700450, 500000), (1000000, 1000000)] (by kernel_rfl) rfl rfl (by kernel_rfl))
    ·replace h := iteF hb h
     refine sem_skipS (by kernel_rfl) (fun τ hτ => ?_)
     exact jk_normal s70.2.2 h hτ (here (by kernel_rfl))
   refine z7 (by kernel_rfl) ?_
   refine evs_run 2 (by kernel_rfl) ?_
   refine evs_op (st_len (c := cI) (l := ends) (x := (.sl (List.map cI ends))) (by kernel_rfl) (by kernel_rfl)) ?_
   refine z1 2 ⟨[(0, (.sl (List.map cI ends))), (1, (.fn 89 [(.vptr [(.fn 87 [(.vptr [(.sl (List.map (cS cB) side_0_0_0_0))] 0)])] 0), (.vptr [(vI side_1_0)] 0)])), (2, (.fn 90 [(.ptr 1000000 0), (.vptr [(vI found_1_0)] 0)])), (6, (vI s70.1)), (7, (vI s70.2.1)), (8, (vI 0)), (11, (vI (ends.length : Int))), (12, (vI s70.2.1)), (19, (vB (decide (s70.2.1 < (isub (ends.length : Int) 1)))))], [(500000, .row 100 [] (List.map c_Segment s70.2.2)), (1000000, .box [(.row (.top 500000) 100)])]⟩ (by kernel_rfl) ?_
   refine sem_cond (decide (s70.2.1 < (isub (ends.length : Int) 1))) (by kernel_rfl) (by kernel_rfl) (fun hb => ?_) (fun hb => ?_)
   ·replace h := iteT hb h
    refine sem_region (by kernel_rfl) ?_
    refine evs_run 2 (by kernel_rfl) ?_
    obtain ⟨r510, hr510, h⟩ := bindS h
    refine evs_callP [] (by kernel_rfl) (W.geom_Outline_2_ok hr510) (by kernel_rfl) (.inl rfl) (by kernel_rfl) ?_
    refine z6 1 (by kernel_rfl) (fun τ hτ => ?_)
    exact jk_normal r510 h hτ (here (by kernel_rfl))
   ·replace h := iteF hb h
    refine sem_skipS (by kernel_rfl) (fun τ hτ => ?_)
    exact jk_normal 0 h hτ (here (by kernel_rfl))
  ·replace h := iteF hb h
   refine sem_exitS 0 (by kernel_rfl) rfl (fun τ hτ => ?_)
   refine th_exit ?_
   obtain rfl := Option.some.inj h
   exact lk_outS hτ rfl (here (by kernel_rfl))
 ·intro x
  rfl
 ·intro τ hτ
  refine bl_hit (by kernel_rfl) ?_
  obtain rfl := Option.some.inj h
  exact rk_normal hτ [] (subR_prep [] [(500000, 0), (1000000, 1000000)] (by kernel_rfl) rfl rfl (by kernel_rfl)) (by kernel_rfl)
theorem W.geom_Outline_4_ok {j0 : Int} {a_0_0_0 : (List (List Bool))} {a2_0 : Int} {r : Int} (h : geom_Outline_4 j0 a_0_0_0 a2_0 = some r) : PC G.P 91 [(vI j0), (.vptr [(.fn 87 [(.vptr [(.sl (List.map (cS cB) a_0_0_0))] 0)])] 0), (.vptr [(vI a2_0)] 0)] [] (vI r) [] := by
 refine pc_of G (fn := Try.f91) Try.func91 (by kernel_rfl) (by kernel_rfl) (by kernel_rfl) (by kernel_rfl) (by kernel_rfl) ?_
 refine sem_set ⟨[(0, (vI j0)), (1, (.vptr [(.fn 87 [(.vptr [(.sl (List.map (cS cB) a_0_0_0))] 0)])] 0)), (2, (.vptr [(vI a2_0)] 0))], []⟩ (by kernel_rfl) ?_
 refine z3 1 ⟨[(0, (vI j0)), (1, (.vptr [(.fn 87 [(.vptr [(.sl (List.map (cS cB) a_0_0_0))] 0)])] 0)), (2, (.vptr [(vI a2_0)] 0))], []⟩ (by kernel_rfl) ?_
 refine sem_seq (by kernel_rfl) ?_
 refine sem_drawN [] [] [] [] [] 8 (by kernel_rfl) (by kernel_rfl) (by kernel_rfl) ?_
 refine evd_run 3 (by kernel_rfl) ?_
 obtain ⟨r5, hr5, h⟩ := bindS h
 refine evd_callS [] [] (by kernel_rfl) (by kernel_rfl) (W.geom_Outline_1_ok hr5) (by kernel_rfl) (.inl rfl) (by kernel_rfl) (by kernel_rfl) ?_
 refine evd_run 4 (by kernel_rfl) ?_
 refine evd_end (by kernel_rfl) ?_
 obtain ⟨r6, hr6, h⟩ := bindS h
 refine evo_callP [] (by kernel_rfl) (W.geom_Outline_1_ok hr6) (by kernel_rfl) (.inl rfl) (by kernel_rfl) ?_
 refine evo_run 2 (by kernel_rfl) ?_
 refine evo_endS (by kernel_rfl) (fun τ hτ => ?_)
 refine th_normalS hτ ⟨[(4, (vI (isub r5 r6)))], []⟩ (here (by kernel_rfl)) ?_
 refine sem_retS (by kernel_rfl) (fun τ hτ => ?_)
 obtain rfl := Option.some.inj h
 exact rk_ret hτ [(4, (vI (isub r5 r6)))] (here (by kernel_rfl)) (by kernel_rfl)
theorem W.geom_Outline_5_ok {from0 : Int} {to1 : Int} {a_0 : Int} {h1 : (List Segment)} {r : (List Segment)} (h : geom_Outline_5 from0 to1 a_0 h1 = some r) : PC G.P 92 [(vI from0), (vI to1), (.ptr 1000000 0), (.vptr [(vI a_0)] 0)] [(1000000, .box [(.row (.top 300001) 100)]), (300001, .row 100 [] (List.map c_Segment h1))] (.tup []) [(0, .row 100 [] (List.map c_Segment r)), (1000000, .box [(.row (.top 0) 100)])] := by
 refine pc_of G (fn := Try.f92) Try.func92 (by kernel_rfl) (by kernel_rfl) (by kernel_rfl) (by kernel_rfl) (by kernel_rfl) ?_
 refine sem_set ⟨[(0, (vI from0)), (1, (vI to1)), (2, (.ptr 1000000 0)), (3, (.vptr [(vI a_0)] 0))], [(300001, .row 100 [] (List.map c_Segment h1)), (1000000, .box [(.row (.top 300001) 100)])]⟩ (by kernel_rfl) ?_
 refine sem_region (by kernel_rfl) ?_
 refine evs_run 7 (by kernel_rfl) ?_
 obtain ⟨l2, hl2, h⟩ := bindS h
 refine evs_op (st_app (c := c_Segment) (l := h1) (l2 := [(Segment.mk a_0 from0 a_0 to1)]) (x := (.sl (List.map c_Segment [(Segment.mk a_0 from0 a_0 to1)]))) (g := 300001) (e := 100) (sz := 4) (d := 13) (by kernel_rfl) (by kernel_rfl) (by kernel_rfl) (by kernel_rfl) (fun _ => rfl) rfl hl2) ?_
 refine z6 1 (by kernel_rfl) (fun τ hτ => ?_)
 obtain rfl := Option.some.inj h
 exact rk_normal hτ [] (subR_prep [] [(300001, 0), (1000000, 1000000)] (by kernel_rfl) rfl rfl (by kernel_rfl)) (by kernel_rfl)
theorem W.geom_runs__geom_Outline_4__geom_Outline_5_ok {ends : (List Int)} {side_0_0_0_0 : (List (List Bool))} {side_1_0 : Int} {found_1_0 : Int} {h1 : (List Segment)} {r : (List Segment)} (h : geom_runs__geom_Outline_4__geom_Outline_5 ends side_0_0_0_0 side_1_0 found_1_0 h1 = some r) : PC G.P 88 [(.sl (List.map cI ends)), (.fn 91 [(.vptr [(.fn 87 [(.vptr [(.sl (List.map (cS cB) side_0_0_0_0))] 0)])] 0), (.vptr [(vI side_1_0)] 0)]), (.fn 92 [(.ptr 1000000 0), (.vptr [(vI found_1_0)] 0)])] [(1000000, .box [(.row (.top 300001) 100)]), (300001, .row 100 [] (List.map c_Segment h1))] (.tup []) [(0, .row 100 [] (List.map c_Segment r)), (1000000, .box [(.row (.top 0) 100)])] := by
 refine pc_of G (fn := Try.f88) Try.func88 (by kernel_rfl) (by kernel_rfl) (by kernel_rfl) (by kernel_rfl) (by kernel_rfl) ?_
 refine sem_set ⟨[(0, (.sl (List.map cI ends))), (1, (.fn 91 [(.vptr [(.fn 87 [(.vptr [(.sl (List.map (cS cB) side_0_0_0_0))] 0)])] 0), (.vptr [(vI side_1_0)] 0)])), (2, (.fn 92 [(.ptr 1000000 0), (.vptr [(vI found_1_0)] 0)]))], [(300001, .row 100 [] (List.map c_Segment h1)), (1000000, .box [(.row (.top 300001) 100)])]⟩ (by kernel_rfl) ?_
 refine z3 1 ⟨[(0, (.sl (List.map cI ends))), (1, (.fn 91 [(.vptr [(.fn 87 [(.vptr [(.sl (List.map (cS cB) side_0_0_0_0))] 0)])] 0), (.vptr [(vI side_1_0)] 0)])), (2, (.fn 92 [(.ptr 1000000 0), (.vptr [(vI found_1_0)] 0)])), (6, (vI 0))], [(300001, .row 100 [] (List.map c_Segment h1)), (1000000, .box [(.row (.top 300001) 100)])]⟩ (by kernel_rfl) ?_
 refine z7 (by kernel_rfl) ?_
 refine evs_run 1 (by kernel_rfl) ?_
 refine evs_op (st_len (c := cI) (l := ends) (x := (.sl (List.map cI ends))) (by kernel_rfl) (by kernel_rfl)) ?_
 refine z1 1 ⟨[(0, (.sl (List.map cI ends))), (1, (.fn 91 [(.vptr [(.fn 87 [(.vptr [(.sl (List.map (cS cB) side_0_0_0_0))] 0)])] 0), (.vptr [(vI side_1_0)] 0)])), (2, (.fn 92 [(.ptr 1000000 0), (.vptr [(vI found_1_0)] 0)])), (6, (vI 0)), (11, (vI (ends.length : Int))), (12, (vI 0))], [(300001, .row 100 [] (List.map c_Segment h1)), (1000000, .box [(.row (.top 300001) 100)])]⟩ (by kernel_rfl) ?_
 refine sem_block (by kernel_rfl) ?_
 obtain ⟨x511, hx511, h⟩ := bindS h
 refine sem_loopS (fun (s70 : Int × Int × (List Segment)) => ⟨[(0, (.sl (List.map cI ends))), (1, (.fn 91 [(.vptr [(.fn 87 [(.vptr [(.sl (List.map (cS cB) side_0_0_0_0))] 0)])] 0), (.vptr [(vI side_1_0)] 0)])), (2, (.fn 92 [(.ptr 1000000 0), (.vptr [(vI found_1_0)] 0)])), (6, (vI s70.1)), (11, (vI (ends.length : Int))), (12, (vI s70.2.1))], [(500000, .row 100 [] (List.map c_Segment s70.2.2)), (1000000, .box [(.row (.top 500000) 100)])]⟩) (fun (x511 : (List Segment)) => (.exit 0, ⟨[], [(500000, .row 100 [] (List.map c_Segment x511)), (1000000, .box [(.row (.top 500000) 100)])]⟩)) (geom_runs__geom_Outline_4__geom_Outline_5_l4 ends side_0_0_0_0 side_1_0 found_1_0) (0, 0, h1) x511 (by kernel_rfl) (subR_prep [] [(300001, 500000), (1000000, 1000000)] (by kernel_rfl) rfl rfl (by kernel_rfl)) hx511 ?_ ?_ ?_
 ·intro s70 r h
  refine z3 1 ⟨[(0, (.sl (List.map cI ends))), (1, (.fn 91 [(.vptr [(.fn 87 [(.vptr [(.sl (List.map (cS cB) side_0_0_0_0))] 0)])] 0), (.vptr [(vI side_1_0)] 0)])), (2, (.fn 92 [(.ptr 1000000 0), (.vptr [(vI found_1_0)] 0)])), (6, (vI s70.1)), (11, (vI (ends.length : Int))), (12, (vI s70.2.1)), (13, (vB (decide (s70.2.1 < (ends.length : Int)))))], [(500000, .row 100 [] (List.map c_Segment s70.2.2)), (1000000, .box [(.row (.top 500000) 100)])]⟩ (by kernel_rfl) ?_
  refine sem_seq (by kernel_rfl) ?_
  refine sem_cond (decide (s70.2.1 < (ends.length : Int))) (by kernel_rfl) (by kernel_rfl) (fun hb => ?_) (fun hb => ?_)
  ·replace h := iteT hb h
   refine z4 ⟨[(0, (.sl (List.map cI ends))), (1, (.fn 91 [(.vptr [(.fn 87 [(.vptr [(.sl (List.map (cS cB) side_0_0_0_0))] 0)])] 0), (.vptr [(vI side_1_0)] 0)])), (2, (.fn 92 [(.ptr 1000000 0), (.vptr [(vI found_1_0)] 0)])), (6, (vI s70.1)), (11, (vI (ends.length : Int))), (12, (vI s70.2.1))], [(500000, .row 100 [] (List.map c_Segment s70.2.2)), (1000000, .box [(.row (.top 500000) 100)])]⟩ (by kernel_rfl) ?_
   refine sem_seq (by kernel_rfl) ?_
   refine sem_block (by kernel_rfl) ?_
   refine z3 2 ⟨[(0, (.sl (List.map cI ends))), (1, (.fn 91 [(.vptr [(.fn 87 [(.vptr [(.sl (List.map (cS cB) side_0_0_0_0))] 0)])] 0), (.vptr [(vI side_1_0)] 0)])), (2, (.fn 92 [(.ptr 1000000 0), (.vptr [(vI found_1_0)] 0)])), (6, (vI s70.1)), (7, (vI s70.2.1)), (11, (vI (ends.length : Int))), (12, (vI s70.2.1))], [(500000, .row 100 [] (List.map c_Segment s70.2.2)), (1000000, .box [(.row (.top 500000) 100)])]⟩ (by kernel_rfl) ?_
   refine z3 1 ⟨[(0, (.sl (List.map cI ends))), (1, (.fn 91 [(.vptr [(.fn 87 [(.vptr [(.sl (List.map (cS cB) side_0_0_0_0))] 0)])] 0), (.vptr [(vI side_1_0)] 0)])), (2, (.fn 92 [(.ptr 1000000 0), (.vptr [(vI found_1_0)] 0)])), (6, (vI s70.1)), (7, (vI s70.2.1)), (8, (vI 0)), (11, (vI (ends.length : Int))), (12, (vI s70.2.1))], [(500000, .row 100 [] (List.map c_Segment s70.2.2)), (1000000, .box [(.row (.top 500000) 100)])]⟩ (by kernel_rfl) ?_
   refine sem_seqJ (fun (j403 : Int) => ⟨[(0, (.sl (List.map cI ends))), (1, (.fn 91 [(.vptr [(.fn 87 [(.vptr [(.sl (List.map (cS cB) side_0_0_0_0))] 0)])] 0), (.vptr [(vI side_1_0)] 0)])), (2, (.fn 92 [(.ptr 1000000 0), (.vptr [(vI found_1_0)] 0)])), (6, (vI s70.1)), (7, (vI s70.2.1)), (8, (vI j403)), (11, (vI (ends.length : Int))), (12, (vI s70.2.1))], [(500000, .row 100 [] (List.map c_Segment s70.2.2)), (1000000, .box [(.row (.top 500000) 100)])]⟩) (geom_runs__geom_Outline_4__geom_Outline_5_k3 ends side_0_0_0_0 side_1_0 found_1_0 s70) r (by kernel_rfl) (fun j403 h => ?_) ?_
   ·refine sem_seqJ (fun (j456 : (List Segment)) => ⟨[(0, (.sl (List.map cI ends))), (1, (.fn 91 [(.vptr [(.fn 87 [(.vptr [(.sl (List.map (cS cB) side_0_0_0_0))] 0)])] 0), (.vptr [(vI side_1_0)] 0)])), (2, (.fn 92 [(.ptr 1000000 0), (.vptr [(vI found_1_0)] 0)])), (8, (vI j403)), (11, (vI (ends.length : Int))), (12, (vI s70.2.1))], [(500000, .row 100 [] (List.map c_Segment j456)), (1000000, .box [(.row (.top 500000) 100)])]⟩) (geom_runs__geom_Outline_4__geom_Outline_5_k1 s70 j403) r (by kernel_rfl) (fun j456 h => ?_) ?_
    ·refine sem_region (by kernel_rfl) ?_
     refine z6 2 (by kernel_rfl) (fun τ hτ => ?_)
     refine bl_normal ?_
     refine th_normalS hτ ⟨[(0, (.sl (List.map cI ends))), (1, (.fn 91 [(.vptr [(.fn 87 [(.vptr [(.sl (List.map (cS cB) side_0_0_0_0))] 0)])] 0), (.vptr [(vI side_1_0)] 0)])), (2, (.fn 92 [(.ptr 1000000 0), (.vptr [(vI found_1_0)] 0)])), (6, (vI j403)), (11, (vI (ends.length : Int))), (12, (vI s70.2.1))], [(500000, .row 100 [] (List.map c_Segment j456)), (1000000, .box [(.row (.top 500000) 100)])]⟩ (here (by kernel_rfl)) ?_
     refine sem_region (by kernel_rfl) ?_
     refine z6 2 (by kernel_rfl) (fun τ hτ => ?_)
     obtain rfl := Option.some.inj h
     exact lk_nextS hτ (here (by kernel_rfl))
    refine sem_seq (by kernel_rfl) ?_
    obtain ⟨j457, hj457, h⟩ := bindS h
    refine sem_regionC ⟨[(0, (.sl (List.map cI ends))), (1, (.fn 91 [(.vptr [(.fn 87 [(.vptr [(.sl (List.map (cS cB) side_0_0_0_0))] 0)])] 0), (.vptr [(vI side_1_0)] 0)])), (2, (.fn 92 [(.ptr 1000000 0), (.vptr [(vI found_1_0)] 0)])), (6, (vI s70.1)), (7, (vI s70.2.1)), (8, (vI j403)), (11, (vI (ends.length : Int))), (12, (vI s70.2.1)), (29, (vB j457))], [(500000, .row 100 [] (List.map c_Segment s70.2.2)), (1000000, .box [(.row (.top 500000) 100)])]⟩ (by kernel_rfl) ?_ (fun τ hτ => ?_)
    ·replace h := hj457
     refine evs_run 4 (by kernel_rfl) ?_
     refine evs_split (j403 != s70.1) (fun b0 => ⟨[(0, (.sl (List.map cI ends))), (1, (.fn 91 [(.vptr [(.fn 87 [(.vptr [(.sl (List.map (cS cB) side_0_0_0_0))] 0)])] 0), (.vptr [(vI side_1_0)] 0)])), (2, (.fn 92 [(.ptr 1000000 0), (.vptr [(vI found_1_0)] 0)])), (6, (vI s70.1)), (7, (vI s70.2.1)), (8, (vI j403)), (11, (vI (ends.length : Int))), (12, (vI s70.2.1)), (26, (vB b0))], [(500000, .row 100 [] (List.map c_Segment s70.2.2)), (1000000, .box [(.row (.top 500000) 100)])]⟩) (by kernel_rfl) (fun hb => ?_) (fun hb => ?_)
     ·replace h := iteT hb h
      refine z6 3 (by kernel_rfl) (fun τ hτ => ?_)
      obtain rfl := Option.some.inj h
      exact leafC hτ (here (by kernel_rfl))
     ·replace h := iteF hb h
      refine z6 3 (by kernel_rfl) (fun τ hτ => ?_)
      obtain rfl := Option.some.inj h
      exact leafC hτ (here (by kernel_rfl))
    refine th_normalS hτ ⟨[(0, (.sl (List.map cI ends))), (1, (.fn 91 [(.vptr [(.fn 87 [(.vptr [(.sl (List.map (cS cB) side_0_0_0_0))] 0)])] 0), (.vptr [(vI side_1_0)] 0)])), (2, (.fn 92 [(.ptr 1000000 0), (.vptr [(vI found_1_0)] 0)])), (6, (vI s70.1)), (7, (vI s70.2.1)), (8, (vI j403)), (11, (vI (ends.length : Int))), (12, (vI s70.2.1)), (29, (vB j457))], [(500000, .row 100 [] (List.map c_Segment s70.2.2)), (1000000, .box [(.row (.top 500000) 100)])]⟩ (here (by kernel_rfl)) ?_
    refine sem_cond j457 (by kernel_rfl) (by kernel_rfl) (fun hb => ?_) (fun hb => ?_)
    ·replace h := iteT hb h
     refine z3 3 ⟨[(0, (.sl (List.map cI ends))), (1, (.fn 91 [(.vptr [(.fn 87 [(.vptr [(.sl (List.map (cS cB) side_0_0_0_0))] 0)])] 0), (.vptr [(vI side_1_0)] 0)])), (2, (.fn 92 [(.ptr 1000000 0), (.vptr [(vI found_1_0)] 0)])), (6, (vI s70.1)), (7, (vI s70.2.1)), (8, (vI j403)), (9, (vI (isub s70.2.1 1))), (11, (vI (ends.length : Int))), (12, (vI s70.2.1))], [(500000, .row 100 [] (List.map c_Segment s70.2.2)), (1000000, .box [(.row (.top 500000) 100)])]⟩ (by kernel_rfl) ?_
     refine sem_seq (by kernel_rfl) ?_
     refine sem_block (by kernel_rfl) ?_
     obtain ⟨x499, hx499, h⟩ := bindS h
     refine sem_loopS (fun (s486 : Int) => ⟨[(0, (.sl (List.map cI ends))), (1, (.fn 91 [(.vptr [(.fn 87 [(.vptr [(.sl (List.map (cS cB) side_0_0_0_0))] 0)])] 0), (.vptr [(vI side_1_0)] 0)])), (2, (.fn 92 [(.ptr 1000000 0), (.vptr [(vI found_1_0)] 0)])), (6, (vI s70.1)), (7, (vI s70.2.1)), (8, (vI j403)), (9, (vI s486)), (11, (vI (ends.length : Int))), (12, (vI s70.2.1))], [(500000, .row 100 [] (List.map c_Segment s70.2.2)), (1000000, .box [(.row (.top 500000) 100)])]⟩) (fun (x499 : Int) => (.exit 2, ⟨[(0, (.sl (List.map cI ends))), (1, (.fn 91 [(.vptr [(.fn 87 [(.vptr [(.sl (List.map (cS cB) side_0_0_0_0))] 0)])] 0), (.vptr [(vI side_1_0)] 0)])), (2, (.fn 92 [(.ptr 1000000 0), (.vptr [(vI found_1_0)] 0)])), (7, (vI s70.2.1)), (8, (vI j403)), (9, (vI x499)), (11, (vI (ends.length : Int))), (12, (vI s70.2.1))], [(500000, .row 100 [] (List.map c_Segment s70.2.2)), (1000000, .box [(.row (.top 500000) 100)])]⟩)) (geom_runs__geom_Outline_4__geom_Outline_5_l2 side_0_0_0_0 side_1_0 s70) (isub s70.2.1 1) x499 (by kernel_rfl) (here (by kernel_rfl)) hx499 ?_ ?_ ?_
     ·intro s486 r h
      refine sem_seq (by kernel_rfl) ?_
      refine sem_seq (by kernel_rfl) ?_
      obtain ⟨j497, hj497, h⟩ := bindS h
      refine sem_regionC ⟨[(0, (.sl (List.map cI ends))), (1, (.fn 91 [(.vptr [(.fn 87 [(.vptr [(.sl (List.map (cS cB) side_0_0_0_0))] 0)])] 0), (.vptr [(vI side_1_0)] 0)])), (2, (.fn 92 [(.ptr 1000000 0), (.vptr [(vI found_1_0)] 0)])), (6, (vI s70.1)), (7, (vI s70.2.1)), (8, (vI j403)), (9, (vI s486)), (11, (vI (ends.length : Int))), (12, (vI s70.2.1)), (41, (vB j497))], [(500000, .row 100 [] (List.map c_Segment s70.2.2)), (1000000, .box [(.row (.top 500000) 100)])]⟩ (by kernel_rfl) ?_ (fun τ hτ => ?_)
      ·replace h := hj497
       refine evs_run 3 (by kernel_rfl) ?_
       refine evs_split (decide (s486 > 0)) (fun b0 => ⟨[(0, (.sl (List.map cI ends))), (1, (.fn 91 [(.vptr [(.fn 87 [(.vptr [(.sl (List.map (cS cB) side_0_0_0_0))] 0)])] 0), (.vptr [(vI side_1_0)] 0)])), (2, (.fn 92 [(.ptr 1000000 0), (.vptr [(vI found_1_0)] 0)])), (6, (vI s70.1)), (7, (vI s70.2.1)), (8, (vI j403)), (9, (vI s486)), (11, (vI (ends.length : Int))), (12, (vI s70.2.1)), (34, (vB b0))], [(500000, .row 100 [] (List.map c_Segment s70.2.2)), (1000000, .box [(.row (.top 500000) 100)])]⟩) (by kernel_rfl) (fun hb => ?_) (fun hb => ?_)
       ·replace h := iteT hb h
        refine evs_run 3 (by kernel_rfl) ?_
        obtain ⟨r498, hr498, h⟩ := bindS h
        refine evs_callP [] (by kernel_rfl) (W.geom_Outline_4_ok hr498) (by kernel_rfl) (.inl rfl) (by kernel_rfl) ?_
        refine z6 3 (by kernel_rfl) (fun τ hτ => ?_)
        obtain rfl := Option.some.inj h
        exact leafC hτ (here (by kernel_rfl))
       ·replace h := iteF hb h
        refine z6 7 (by kernel_rfl) (fun τ hτ => ?_)
        obtain rfl := Option.some.inj h
        exact leafC hτ (here (by kernel_rfl))
      refine th_normalS hτ ⟨[(0, (.sl (List.map cI ends))), (1, (.fn 91 [(.vptr [(.fn 87 [(.vptr [(.sl (List.map (cS cB) side_0_0_0_0))] 0)])] 0), (.vptr [(vI side_1_0)] 0)])), (2, (.fn 92 [(.ptr 1000000 0), (.vptr [(vI found_1_0)] 0)])), (6, (vI s70.1)), (7, (vI s70.2.1)), (8, (vI j403)), (9, (vI s486)), (11, (vI (ends.length : Int))), (12, (vI s70.2.1)), (41, (vB j497))], [(500000, .row 100 [] (List.map c_Segment s70.2.2)), (1000000, .box [(.row (.top 500000) 100)])]⟩ (here (by kernel_rfl)) ?_
      refine sem_cond j497 (by kernel_rfl) (by kernel_rfl) (fun hb => ?_) (fun hb => ?_)
      ·replace h := iteT hb h
       refine z4 ⟨[(0, (.sl (List.map cI ends))), (1, (.fn 91 [(.vptr [(.fn 87 [(.vptr [(.sl (List.map (cS cB) side_0_0_0_0))] 0)])] 0), (.vptr [(vI side_1_0)] 0)])), (2, (.fn 92 [(.ptr 1000000 0), (.vptr [(vI found_1_0)] 0)])), (6, (vI s70.1)), (7, (vI s70.2.1)), (8, (vI j403)), (9, (vI s486)), (11, (vI (ends.length : Int))), (12, (vI s70.2.1))], [(500000, .row 100 [] (List.map c_Segment s70.2.2)), (1000000, .box [(.row (.top 500000) 100)])]⟩ (by kernel_rfl) ?_
       refine sem_block (by kernel_rfl) ?_
       refine sem_region (by kernel_rfl) ?_
       refine z6 3 (by kernel_rfl) (fun τ hτ => ?_)
       refine bl_normal ?_
       obtain rfl := Option.some.inj h
       exact lk_nextS hτ (here (by kernel_rfl))
      ·replace h := iteF hb h
       refine sem_exitS 2 (by kernel_rfl) rfl (fun τ hτ => ?_)
       refine th_exit ?_
       obtain rfl := Option.some.inj h
       exact lk_outS hτ rfl (here (by kernel_rfl))
     ·intro x
      rfl
     ·intro τ hτ
      refine bl_hit (by kernel_rfl) ?_
      refine th_normalS hτ ⟨[(0, (.sl (List.map cI ends))), (1, (.fn 91 [(.vptr [(.fn 87 [(.vptr [(.sl (List.map (cS cB) side_0_0_0_0))] 0)])] 0), (.vptr [(vI side_1_0)] 0)])), (2, (.fn 92 [(.ptr 1000000 0), (.vptr [(vI found_1_0)] 0)])), (7, (vI s70.2.1)), (8, (vI j403)), (9, (vI x499)), (11, (vI (ends.length : Int))), (12, (vI s70.2.1))], [(500000, .row 100 [] (List.map c_Segment s70.2.2)), (1000000, .box [(.row (.top 500000) 100)])]⟩ (here (by kernel_rfl)) ?_
      refine sem_drawN [] [] [] [] [] 9 (by kernel_rfl) (by kernel_rfl) (by kernel_rfl) ?_
      refine evd_run 3 (by kernel_rfl) ?_
      obtain ⟨x506, hx506, h⟩ := bindS h
      refine evd_val (by kernel_rfl) (st_idx (c := cI) (l := ends) (i := x499) (kd := .i64) (sz := 1) (by kernel_rfl) hx506 rfl) (by kernel_rfl) (by kernel_rfl) ?_
      refine evd_run 3 (by kernel_rfl) ?_
      obtain ⟨x507, hx507, h⟩ := bindS h
      refine evd_val (by kernel_rfl) (st_idx (c := cI) (l := ends) (i := s70.2.1) (kd := .i64) (sz := 1) (by kernel_rfl) hx507 rfl) (by kernel_rfl) (by kernel_rfl) ?_
      refine evd_run 1 (by kernel_rfl) ?_
      refine evd_end (by kernel_rfl) ?_
      obtain ⟨r508, hr508, h⟩ := bindS h
      refine evo_callS [(1000000, 1000000), (300001, 500000)] [(0, 700450)] [] (by kernel_rfl) (W.geom_Outline_5_ok hr508) (by kernel_rfl) (by kernel_rfl) (.inl rfl) ?_
      refine evo_endS (by kernel_rfl) (fun τ hτ => ?_)
      exact jk_normal r508 h hτ (subR_prep [] [(700450, 500000), (1000000, 1000000)] (by kernel_rfl) rfl rfl (by kernel_rfl))
    ·replace h := iteF hb h
     refine sem_skipS (by kernel_rfl) (fun τ hτ => ?_)
     exact jk_normal s70.2.2 h hτ (here (by kernel_rfl))
   refine z7 (by kernel_rfl) ?_
   refine evs_run 2 (by kernel_rfl) ?_
   refine evs_op (st_len (c := cI) (l := ends) (x := (.sl (List.map cI ends))) (by kernel_rfl) (by kernel_rfl)) ?_
   refine z1 2 ⟨[(0, (.sl (List.map cI ends))), (1, (.fn 91 [(.vptr [(.fn 87 [(.vptr [(.sl (List.map (cS cB) side_0_0_0_0))] 0)])] 0), (.vptr [(vI side_1_0)] 0)])), (2, (.fn 92 [(.ptr 1000000 0), (.vptr [(vI found_1_0)] 0)])), (6, (vI s70.1)), (7, (vI s70.2.1)), (8, (vI 0)), (11, (vI (ends.length : Int))), (12, (vI s70.2.1)), (19, (vB (decide (s70.2.1 < (isub (ends.length : Int) 1)))))], [(500000, .row 100 [] (List.map c_Segment s70.2.2)), (1000000, .box [(.row (.top 500000) 100)])]⟩ (by kernel_rfl) ?_
   refine sem_cond (decide (s70.2.1 < (isub (ends.length : Int) 1))) (by kernel_rfl) (by kernel_rfl) (fun hb => ?_) (fun hb => ?_)
   ·replace h := iteT hb h
    refine sem_region (by kernel_rfl) ?_
    refine evs_run 2 (by kernel_rfl) ?_
    obtain ⟨r510, hr510, h⟩ := bindS h
    refine evs_callP [] (by kernel_rfl) (W.geom_Outline_4_ok hr510) (by kernel_rfl) (.inl rfl) (by kernel_rfl) ?_
    refine z6 1 (by kernel_rfl) (fun τ hτ => ?_)
    exact jk_normal r510 h hτ (here (by kernel_rfl))
   ·replace h := iteF hb h
    refine sem_skipS (by kernel_rfl) (fun τ hτ => ?_)
    exact jk_normal 0 h hτ (here (by kernel_rfl))
  ·replace h := iteF hb h
   refine sem_exitS 0 (by kernel_rfl) rfl (fun τ hτ => ?_)
   refine th_exit ?_
   obtain rfl := Option.some.inj h
   exact lk_outS hτ rfl (here (by kernel_rfl))
 ·intro x
  rfl
 ·intro τ hτ
  refine bl_hit (by kernel_rfl) ?_
  obtain rfl := Option.some.inj h
  exact rk_normal hτ [] (subR_prep [] [(500000, 0), (1000000, 1000000)] (by kernel_rfl) rfl rfl (by kernel_rfl)) (by kernel_rfl)
theorem W.geom_Outline_ok {l : (List Rect)} {r : (List Segment) × Int} (h : geom_Outline l = some r) : PC G.P 47 [(.sl (List.map c_Rect l))] [] (.tup [(.row (.top 0) 100), (vI r.2)]) [(0, .row 100 [] (List.map c_Segment r.1))] := by
 refine pc_of G (fn := Try.f47) Try.func47 (by kernel_rfl) (by kernel_rfl) (by kernel_rfl) (by kernel_rfl) (by kernel_rfl) ?_
 refine sem_set ⟨[(0, (.sl (List.map c_Rect l)))], []⟩ (by kernel_rfl) ?_
 refine z3 2 ⟨[(0, (.sl (List.map c_Rect l)))], []⟩ (by kernel_rfl) ?_
 refine sem_seq (by kernel_rfl) ?_
 refine z7 (by kernel_rfl) ?_
 refine evs_run 2 (by kernel_rfl) ?_
 obtain ⟨r4, hr4, h⟩ := bindS h
 refine evs_callP [] (by kernel_rfl) (W.geom_rects_ok hr4) (by kernel_rfl) (.inl rfl) (by kernel_rfl) ?_
 refine z1 1 ⟨[(0, (.sl (List.map c_Rect l))), (4, (vI r4))], []⟩ (by kernel_rfl) ?_
 refine z3 2 ⟨[(0, (.sl (List.map c_Rect l))), (4, (vI r4)), (17, (vB (r4 != 0)))], []⟩ (by kernel_rfl) ?_
 refine sem_cond (r4 != 0) (by kernel_rfl) (by kernel_rfl) (fun hb => ?_) (fun hb => ?_)
 ·replace h := iteT hb h
  refine z8 3 ⟨[(2, (.row (.top 2) 100)), (3, (vI r4))], [(2, .row 100 [] (List.map c_Segment []))]⟩ (by kernel_rfl) (fun τ hτ => ?_)
  refine th_ret ?_
  obtain rfl := Option.some.inj h
  exact rk_ret hτ [(2, (.row (.top 0) 100)), (3, (vI r4))] (subR_prep [] [(2, 0)] (by kernel_rfl) rfl rfl (by kernel_rfl)) (by kernel_rfl)
 ·replace h := iteF hb h
  refine z4 ⟨[(0, (.sl (List.map c_Rect l)))], []⟩ (by kernel_rfl) ?_
  refine z7 (by kernel_rfl) ?_
  refine evs_run 2 (by kernel_rfl) ?_
  obtain ⟨r6, hr6, h⟩ := bindS h
  refine evs_callS [] [(0, 700100), (1, 700101), (2, 700102)] [] (by kernel_rfl) (W.geom_newGrid_ok hr6) (by kernel_rfl) (by kernel_rfl) (.inl rfl) ?_
  refine z1 2 ⟨[(0, (.sl (List.map c_Rect l))), (5, (.ptr 5 0))], [(5, .box [(.row (.top 700101) 3), (.row (.top 700102) 3)]), (700101, .row 3 [] (List.map cI r6.x)), (700102, .row 3 [] (List.map cI r6.y))]⟩ (by kernel_rfl) ?_
  refine z7 (by kernel_rfl) ?_
  refine evs_run 2 (by kernel_rfl) ?_
  refine evs_prep [.frz 700101, .frz 700102] (by kernel_rfl) ?_
  obtain ⟨r8, hr8, h⟩ := bindS h
  refine evs_callS [] [(0, 700100)] [] (by kernel_rfl) (W.geom_grid_covered_ok hr8) (by kernel_rfl) (by kernel_rfl) (.inl rfl) ?_
  refine evs_prep [.frz 700100] (by kernel_rfl) ?_
  refine evs_run 1 (by kernel_rfl) ?_
  refine evs_prep [.row (.box 6 0) 800006 94 []] (by kernel_rfl) ?_
  refine z1 1 ⟨[(5, (.ptr 5 0)), (6, (.ptr 6 0))], [(5, .box [(.sl (List.map cI r6.x)), (.sl (List.map cI r6.y))]), (6, .box [(.sl (List.map (cS cB) r8))])]⟩ (by kernel_rfl) ?_
  refine z3 3 ⟨[(5, (.ptr 5 0)), (7, (.ptr 7 0))], [(5, .box [(.sl (List.map cI r6.x)), (.sl (List.map cI r6.y))]), (6, .box [(.sl (List.map (cS cB) r8))]), (7, .box [(.fn 87 [(.ptr 6 0)])])]⟩ (by kernel_rfl) ?_
  refine z7 (by kernel_rfl) ?_
  refine evs_run 1 (by kernel_rfl) ?_
  refine evs_prep [.row (.box 8 0) 800008 100 []] (by kernel_rfl) ?_
  refine evs_endS (by kernel_rfl) (fun τ hτ => ?_)
  refine th_normalS hτ ⟨[(5, (.ptr 5 0)), (7, (.ptr 7 0)), (8, (.ptr 8 0))], [(5, .box [(.sl (List.map cI r6.x)), (.sl (List.map cI r6.y))]), (6, .box [(.sl (List.map (cS cB) r8))]), (7, .box [(.fn 87 [(.ptr 6 0)])]), (8, .box [(.row (.top 800008) 100)]), (800008, .row 100 [] (List.map c_Segment []))]⟩ (here (by kernel_rfl)) ?_
  refine sem_seq (by kernel_rfl) ?_
  refine z7 (by kernel_rfl) ?_
  refine evs_run 2 (by kernel_rfl) ?_
  refine evs_op (st_len (c := cI) (l := r6.y) (x := (.sl (List.map cI r6.y))) (by kernel_rfl) (by kernel_rfl)) ?_
  refine z1 1 ⟨[(5, (.ptr 5 0)), (7, (.ptr 7 0)), (8, (.ptr 8 0)), (27, (.sl (List.map cI r6.y))), (28, (vI (r6.y.length : Int))), (29, (vI 0))], [(5, .box [(.sl (List.map cI r6.x)), (.sl (List.map cI r6.y))]), (6, .box [(.sl (List.map (cS cB) r8))]), (7, .box [(.fn 87 [(.ptr 6 0)])]), (8, .box [(.row (.top 800008) 100)]), (800008, .row 100 [] (List.map c_Segment []))]⟩ (by kernel_rfl) ?_
  refine sem_block (by kernel_rfl) ?_
  obtain ⟨x62, hx62, h⟩ := bindS h
  refine sem_loopS (fun (s45 : Int × (List Segment)) => ⟨[(5, (.ptr 500000 0)), (7, (.ptr 500001 0)), (8, (.ptr 500003 0)), (27, (.sl (List.map cI r6.y))), (28, (vI (r6.y.length : Int))), (29, (vI s45.1))], [(500000, .box [(.sl (List.map cI r6.x)), (.sl (List.map cI r6.y))]), (500001, .box [(.fn 87 [(.ptr 500002 0)])]), (500002, .box [(.sl (List.map (cS cB) r8))]), (500003, .box [(.row (.top 500004) 100)]), (500004, .row 100 [] (List.map c_Segment s45.2))]⟩) (fun (x62 : (List Segment)) => (.exit 0, ⟨[(5, (.ptr 500000 0)), (7, (.ptr 500001 0)), (8, (.ptr 500003 0))], [(500000, .box [(.sl (List.map cI r6.x)), (.sl (List.map cI r6.y))]), (500001, .box [(.fn 87 [(.ptr 500002 0)])]), (500002, .box [(.sl (List.map (cS cB) r8))]), (500003, .box [(.row (.top 500004) 100)]), (500004, .row 100 [] (List.map c_Segment x62))]⟩)) (geom_Outline_l1 r6 r8) (0, []) x62 (by kernel_rfl) (subR_prep [] [(5, 500000), (6, 500002), (7, 500001), (8, 500003), (800008, 500004)] (by kernel_rfl) rfl rfl (by kernel_rfl)) hx62 ?_ ?_ ?_
  ·intro s45 r h
   refine z3 1 ⟨[(5, (.ptr 500000 0)), (7, (.ptr 500001 0)), (8, (.ptr 500003 0)), (27, (.sl (List.map cI r6.y))), (28, (vI (r6.y.length : Int))), (29, (vI s45.1)), (30, (vB (decide (s45.1 < (r6.y.length : Int)))))], [(500000, .box [(.sl (List.map cI r6.x)), (.sl (List.map cI r6.y))]), (500001, .box [(.fn 87 [(.ptr 500002 0)])]), (500002, .box [(.sl (List.map (cS cB) r8))]), (500003, .box [(.row (.top 500004) 100)]), (500004, .row 100 [] (List.map c_Segment s45.2))]⟩ (by kernel_rfl) ?_
   refine sem_seq (by kernel_rfl) ?_
   refine sem_cond (decide (s45.1 < (r6.y.length : Int))) (by kernel_rfl) (by kernel_rfl) (fun hb => ?_) (fun hb => ?_)
   ·replace h := iteT hb h
    refine z4 ⟨[(5, (.ptr 500000 0)), (7, (.ptr 500001 0)), (8, (.ptr 500003 0)), (27, (.sl (List.map cI r6.y))), (28, (vI (r6.y.length : Int))), (29, (vI s45.1))], [(500000, .box [(.sl (List.map cI r6.x)), (.sl (List.map cI r6.y))]), (500001, .box [(.fn 87 [(.ptr 500002 0)])]), (500002, .box [(.sl (List.map (cS cB) r8))]), (500003, .box [(.row (.top 500004) 100)]), (500004, .row 100 [] (List.map c_Segment s45.2))]⟩ (by kernel_rfl) ?_
    refine sem_seq (by kernel_rfl) ?_
    refine sem_block (by kernel_rfl) ?_
    refine z7 (by kernel_rfl) ?_
    refine evs_run 1 (by kernel_rfl) ?_
    obtain ⟨x59, hx59, h⟩ := bindS h
    refine evs_op (st_idx (c := cI) (l := r6.y) (i := s45.1) (kd := .i64) (sz := 1) (by kernel_rfl) hx59 rfl) ?_
    refine z1 5 ⟨[(5, (.ptr 500000 0)), (7, (.ptr 500001 0)), (8, (.ptr 500003 0)), (9, (.ptr 9 0)), (10, (.ptr 10 0)), (27, (.sl (List.map cI r6.y))), (28, (vI (r6.y.length : Int))), (29, (vI s45.1))], [(9, .box [(vI s45.1)]), (10, .box [(vI x59)]), (500000, .box [(.sl (List.map cI r6.x)), (.sl (List.map cI r6.y))]), (500001, .box [(.fn 87 [(.ptr 500002 0)])]), (500002, .box [(.sl (List.map (cS cB) r8))]), (500003, .box [(.row (.top 500004) 100)]), (500004, .row 100 [] (List.map c_Segment s45.2))]⟩ (by kernel_rfl) ?_
    refine sem_region (by kernel_rfl) ?_
    refine evs_run 4 (by kernel_rfl) ?_
    obtain ⟨r61, hr61, h⟩ := bindS h
    refine evs_callS [(1000000, 500003), (300001, 500004)] [(0, 700200)] [500001, 500002, 9, 10] (by kernel_rfl) (W.geom_runs__geom_Outline_2__geom_Outline_3_ok hr61) (by kernel_rfl) (by kernel_rfl) (.inr ⟨rfl, fun _ _ => ind_cons (ind_row fun _ => rfl) (fun _ _ => ind_cons rfl (fun _ _ => ind_nil))⟩) ?_
    refine evs_endS (by kernel_rfl) (fun τ hτ => ?_)
    refine bl_normal ?_
    refine th_normalS hτ ⟨[(5, (.ptr 500000 0)), (7, (.ptr 500001 0)), (8, (.ptr 500003 0)), (27, (.sl (List.map cI r6.y))), (28, (vI (r6.y.length : Int))), (29, (vI s45.1))], [(500000, .box [(.sl (List.map cI r6.x)), (.sl (List.map cI r6.y))]), (500001, .box [(.fn 87 [(.ptr 500002 0)])]), (500002, .box [(.sl (List.map (cS cB) r8))]), (500003, .box [(.row (.top 700200) 100)]), (700200, .row 100 [] (List.map c_Segment r61))]⟩ (here (by kernel_rfl)) ?_
    refine sem_region (by kernel_rfl) ?_
    refine z6 2 (by kernel_rfl) (fun τ hτ => ?_)
    obtain rfl := Option.some.inj h
    exact lk_nextS hτ (subR_prep [] [(500000, 500000), (500001, 500001), (500002, 500002), (500003, 500003), (700200, 500004)] (by kernel_rfl) rfl rfl (by kernel_rfl))
   ·replace h := iteF hb h
    refine sem_exitS 0 (by kernel_rfl) rfl (fun τ hτ => ?_)
    refine th_exit ?_
    obtain rfl := Option.some.inj h
    exact lk_outS hτ rfl (here (by kernel_rfl))
  ·intro x
   rfl
  ·intro τ hτ
   refine bl_hit (by kernel_rfl) ?_
   refine th_normalS hτ ⟨[(5, (.ptr 500000 0)), (7, (.ptr 500001 0)), (8, (.ptr 500003 0))], [(500000, .box [(.sl (List.map cI r6.x)), (.sl (List.map cI r6.y))]), (500001, .box [(.fn 87 [(.ptr 500002 0)])]), (500002, .box [(.sl (List.map (cS cB) r8))]), (500003, .box [(.row (.top 500004) 100)]), (500004, .row 100 [] (List.map c_Segment x62))]⟩ (here (by kernel_rfl)) ?_
   refine sem_seq (by kernel_rfl) ?_
   refine z7 (by kernel_rfl) ?_
   refine evs_run 2 (by kernel_rfl) ?_
   refine evs_op (st_len (c := cI) (l := r6.x) (x := (.sl (List.map cI r6.x))) (by kernel_rfl) (by kernel_rfl)) ?_
   refine z1 1 ⟨[(5, (.ptr 500000 0)), (7, (.ptr 500001 0)), (8, (.ptr 500003 0)), (41, (.sl (List.map cI r6.x))), (42, (vI (r6.x.length : Int))), (43, (vI 0))], [(500000, .box [(.sl (List.map cI r6.x)), (.sl (List.map cI r6.y))]), (500001, .box [(.fn 87 [(.ptr 500002 0)])]), (500002, .box [(.sl (List.map (cS cB) r8))]), (500003, .box [(.row (.top 500004) 100)]), (500004, .row 100 [] (List.map c_Segment x62))]⟩ (by kernel_rfl) ?_
   refine sem_block (by kernel_rfl) ?_
   obtain ⟨x116, hx116, h⟩ := bindS h
   refine sem_loopS (fun (s99 : Int × (List Segment)) => ⟨[(5, (.ptr 500000 0)), (7, (.ptr 500001 0)), (8, (.ptr 500003 0)), (41, (.sl (List.map cI r6.x))), (42, (vI (r6.x.length : Int))), (43, (vI s99.1))], [(500000, .box [(.sl (List.map cI r6.x)), (.sl (List.map cI r6.y))]), (500001, .box [(.fn 87 [(.ptr 500002 0)])]), (500002, .box [(.sl (List.map (cS cB) r8))]), (500003, .box [(.row (.top 500004) 100)]), (500004, .row 100 [] (List.map c_Segment s99.2))]⟩) (fun (x116 : (List Segment)) => (.exit 2, ⟨[(8, (.ptr 500000 0))], [(500000, .box [(.row (.top 500001) 100)]), (500001, .row 100 [] (List.map c_Segment x116))]⟩)) (geom_Outline_l2 r6 r8) (0, x62) x116 (by kernel_rfl) (here (by kernel_rfl)) hx116 ?_ ?_ ?_
   ·intro s99 r h
    refine z3 1 ⟨[(5, (.ptr 500000 0)), (7, (.ptr 500001 0)), (8, (.ptr 500003 0)), (41, (.sl (List.map cI r6.x))), (42, (vI (r6.x.length : Int))), (43, (vI s99.1)), (44, (vB (decide (s99.1 < (r6.x.length : Int)))))], [(500000, .box [(.sl (List.map cI r6.x)), (.sl (List.map cI r6.y))]), (500001, .box [(.fn 87 [(.ptr 500002 0)])]), (500002, .box [(.sl (List.map (cS cB) r8))]), (500003, .box [(.row (.top 500004) 100)]), (500004, .row 100 [] (List.map c_Segment s99.2))]⟩ (by kernel_rfl) ?_
    refine sem_seq (by kernel_rfl) ?_
    refine sem_cond (decide (s99.1 < (r6.x.length : Int))) (by kernel_rfl) (by kernel_rfl) (fun hb => ?_) (fun hb => ?_)
    ·replace h := iteT hb h
     refine z4 ⟨[(5, (.ptr 500000 0)), (7, (.ptr 500001 0)), (8, (.ptr 500003 0)), (41, (.sl (List.map cI r6.x))), (42, (vI (r6.x.length : Int))), (43, (vI s99.1))], [(500000, .box [(.sl (List.map cI r6.x)), (.sl (List.map cI r6.y))]), (500001, .box [(.fn 87 [(.ptr 500002 0)])]), (500002, .box [(.sl (List.map (cS cB) r8))]), (500003, .box [(.row (.top 500004) 100)]), (500004, .row 100 [] (List.map c_Segment s99.2))]⟩ (by kernel_rfl) ?_
     refine sem_seq (by kernel_rfl) ?_
     refine sem_block (by kernel_rfl) ?_
     refine z7 (by kernel_rfl) ?_
     refine evs_run 1 (by kernel_rfl) ?_
     obtain ⟨x113, hx113, h⟩ := bindS h
     refine evs_op (st_idx (c := cI) (l := r6.x) (i := s99.1) (kd := .i64) (sz := 1) (by kernel_rfl) hx113 rfl) ?_
     refine z1 5 ⟨[(5, (.ptr 500000 0)), (7, (.ptr 500001 0)), (8, (.ptr 500003 0)), (11, (.ptr 11 0)), (12, (.ptr 12 0)), (41, (.sl (List.map cI r6.x))), (42, (vI (r6.x.length : Int))), (43, (vI s99.1))], [(11, .box [(vI s99.1)]), (12, .box [(vI x113)]), (500000, .box [(.sl (List.map cI r6.x)), (.sl (List.map cI r6.y))]), (500001, .box [(.fn 87 [(.ptr 500002 0)])]), (500002, .box [(.sl (List.map (cS cB) r8))]), (500003, .box [(.row (.top 500004) 100)]), (500004, .row 100 [] (List.map c_Segment s99.2))]⟩ (by kernel_rfl) ?_
     refine sem_region (by kernel_rfl) ?_
     refine evs_run 4 (by kernel_rfl) ?_
     obtain ⟨r115, hr115, h⟩ := bindS h
     refine evs_callS [(1000000, 500003), (300001, 500004)] [(0, 700200)] [500001, 500002, 11, 12] (by kernel_rfl) (W.geom_runs__geom_Outline_4__geom_Outline_5_ok hr115) (by kernel_rfl) (by kernel_rfl) (.inr ⟨rfl, fun _ _ => ind_cons (ind_row fun _ => rfl) (fun _ _ => ind_cons rfl (fun _ _ => ind_nil))⟩) ?_
     refine evs_endS (by kernel_rfl) (fun τ hτ => ?_)
     refine bl_normal ?_
     refine th_normalS hτ ⟨[(5, (.ptr 500000 0)), (7, (.ptr 500001 0)), (8, (.ptr 500003 0)), (41, (.sl (List.map cI r6.x))), (42, (vI (r6.x.length : Int))), (43, (vI s99.1))], [(500000, .box [(.sl (List.map cI r6.x)), (.sl (List.map cI r6.y))]), (500001, .box [(.fn 87 [(.ptr 500002 0)])]), (500002, .box [(.sl (List.map (cS cB) r8))]), (500003, .box [(.row (.top 700200) 100)]), (700200, .row 100 [] (List.map c_Segment r115))]⟩ (here (by kernel_rfl)) ?_
     refine sem_region (by kernel_rfl) ?_
     refine z6 2 (by kernel_rfl) (fun τ hτ => ?_)
     obtain rfl := Option.some.inj h
     exact lk_nextS hτ (subR_prep [] [(500000, 500000), (500001, 500001), (500002, 500002), (500003, 500003), (700200, 500004)] (by kernel_rfl) rfl rfl (by kernel_rfl))
    ·replace h := iteF hb h
     refine sem_exitS 2 (by kernel_rfl) rfl (fun τ hτ => ?_)
     refine th_exit ?_
     obtain rfl := Option.some.inj h
     exact lk_outS hτ rfl (subR_prep [] [(500003, 500000), (500004, 500001)] (by kernel_rfl) rfl rfl (by kernel_rfl))
   ·intro x
    rfl
   ·intro τ hτ
    refine bl_hit (by kernel_rfl) ?_
    refine th_normalS hτ ⟨[(8, (.ptr 500000 0))], [(500000, .box [(.row (.top 500001) 100)]), (500001, .row 100 [] (List.map c_Segment x116))]⟩ (here (by kernel_rfl)) ?_
    refine z8 3 ⟨[(2, (.row (.top 500001) 100)), (3, (vI 0))], [(500001, .row 100 [] (List.map c_Segment x116))]⟩ (by kernel_rfl) (fun τ hτ => ?_)
    obtain rfl := Option.some.inj h
    exact rk_ret hτ [(2, (.row (.top 0) 100)), (3, (vI 0))] (subR_prep [] [(500001, 0)] (by kernel_rfl) rfl rfl (by kernel_rfl)) (by kernel_rfl)
theorem W.sheetmetalref01_SameSegments_ok {a : (List Segment)} {b : (List Segment)} {r : Bool} (h : sheetmetalref01_SameSegments a b = some r) : PC G.P 48 [(.sl (List.map c_Segment a)), (.sl (List.map c_Segment b))] [] (vB r) [] := by
 refine pc_of G (fn := Try.f48) Try.func48 (by kernel_rfl) (by kernel_rfl) (by kernel_rfl) (by kernel_rfl) (by kernel_rfl) ?_
 refine sem_set ⟨[(0, (.sl (List.map c_Segment a))), (1, (.sl (List.map c_Segment b)))], []⟩ (by kernel_rfl) ?_
 refine z3 1 ⟨[(0, (.sl (List.map c_Segment a))), (1, (.sl (List.map c_Segment b)))], []⟩ (by kernel_rfl) ?_
 refine sem_seq (by kernel_rfl) ?_
 refine z7 (by kernel_rfl) ?_
 refine evs_run 1 (by kernel_rfl) ?_
 refine evs_op (st_len (c := c_Segment) (l := a) (x := (.sl (List.map c_Segment a))) (by kernel_rfl) (by kernel_rfl)) ?_
 refine evs_run 1 (by kernel_rfl) ?_
 refine evs_op (st_len (c := c_Segment) (l := b) (x := (.sl (List.map c_Segment b))) (by kernel_rfl) (by kernel_rfl)) ?_
 refine z1 1 ⟨[(0, (.sl (List.map c_Segment a))), (1, (.sl (List.map c_Segment b))), (10, (vB ((a.length : Int) != (b.length : Int))))], []⟩ (by kernel_rfl) ?_
 refine sem_cond ((a.length : Int) != (b.length : Int)) (by kernel_rfl) (by kernel_rfl) (fun hb => ?_) (fun hb => ?_)
 ·replace h := iteT hb h
  refine z8 1 ⟨[(4, (vB false))], []⟩ (by kernel_rfl) (fun τ hτ => ?_)
  refine th_ret ?_
  obtain rfl := Option.some.inj h
  exact rk_ret hτ [(4, (vB false))] (here (by kernel_rfl)) (by kernel_rfl)
 ·replace h := iteF hb h
  refine z4 ⟨[(0, (.sl (List.map c_Segment a))), (1, (.sl (List.map c_Segment b)))], []⟩ (by kernel_rfl) ?_
  refine sem_seq (by kernel_rfl) ?_
  refine z3 1 ⟨[(0, (.sl (List.map c_Segment a))), (1, (.sl (List.map c_Segment b))), (5, (vI 0))], []⟩ (by kernel_rfl) ?_
  refine sem_block (by kernel_rfl) ?_
  obtain ⟨x80, hx80, h⟩ := bindS h
  refine sem_loopS (fun (s55 : Int) => ⟨[(0, (.sl (List.map c_Segment a))), (1, (.sl (List.map c_Segment b))), (5, (vI s55))], []⟩) (fun (x80 : Unit ⊕ Unit) => match x80 with | .inl j81 => (.ret, ⟨[(4, (vB false))], []⟩) | .inr j82 => (.exit 0, ⟨[], []⟩)) (sheetmetalref01_SameSegments_l1 a b) 0 x80 (by kernel_rfl) (here (by kernel_rfl)) hx80 ?_ ?_ ?_
  ·intro s55 r h
   refine sem_seq (by kernel_rfl) ?_
   refine z7 (by kernel_rfl) ?_
   refine evs_run 2 (by kernel_rfl) ?_
   refine evs_op (st_len (c := c_Segment) (l := a) (x := (.sl (List.map c_Segment a))) (by kernel_rfl) (by kernel_rfl)) ?_
   refine z1 1 ⟨[(0, (.sl (List.map c_Segment a))), (1, (.sl (List.map c_Segment b))), (5, (vI s55)), (14, (vB (decide (s55 < (a.length : Int)))))], []⟩ (by kernel_rfl) ?_
   refine sem_cond (decide (s55 < (a.length : Int))) (by kernel_rfl) (by kernel_rfl) (fun hb => ?_) (fun hb => ?_)
   ·replace h := iteT hb h
    refine z4 ⟨[(0, (.sl (List.map c_Segment a))), (1, (.sl (List.map c_Segment b))), (5, (vI s55))], []⟩ (by kernel_rfl) ?_
    refine sem_seq (by kernel_rfl) ?_
    refine sem_block (by kernel_rfl) ?_
    refine sem_seq (by kernel_rfl) ?_
    refine sem_drawN [] [] [] [] [] 8 (by kernel_rfl) (by kernel_rfl) (by kernel_rfl) ?_
    refine evd_run 2 (by kernel_rfl) ?_
    obtain ⟨x78, hx78, h⟩ := bindS h
    refine evd_val (by kernel_rfl) (st_idx (c := c_Segment) (l := a) (i := s55) (kd := .i64) (sz := 4) (by kernel_rfl) hx78 rfl) (by kernel_rfl) (by kernel_rfl) ?_
    refine evd_run 3 (by kernel_rfl) ?_
    obtain ⟨x79, hx79, h⟩ := bindS h
    refine evd_val (by kernel_rfl) (st_idx (c := c_Segment) (l := b) (i := s55) (kd := .i64) (sz := 4) (by kernel_rfl) hx79 rfl) (by kernel_rfl) (by kernel_rfl) ?_
    refine evd_run 1 (by kernel_rfl) ?_
    refine evd_end (by kernel_rfl) ?_
    refine evo_run 1 (by kernel_rfl) ?_
    refine evo_endS (by kernel_rfl) (fun τ hτ => ?_)
    refine th_normalS hτ ⟨[(0, (.sl (List.map c_Segment a))), (1, (.sl (List.map c_Segment b))), (5, (vI s55)), (25, (vB (!((x78.X1 == x79.X1) && ((x78.Y1 == x79.Y1) && ((x78.X2 == x79.X2) && ((x78.Y2 == x79.Y2) && true)))))))], []⟩ (here (by kernel_rfl)) ?_
    refine sem_cond (!((x78.X1 == x79.X1) && ((x78.Y1 == x79.Y1) && ((x78.X2 == x79.X2) && ((x78.Y2 == x79.Y2) && true))))) (by kernel_rfl) (by kernel_rfl) (fun hb => ?_) (fun hb => ?_)
    ·replace h := iteT hb h
     refine z8 1 ⟨[(4, (vB false))], []⟩ (by kernel_rfl) (fun τ hτ => ?_)
     refine bl_ret ?_
     refine th_ret ?_
     obtain rfl := Option.some.inj h
     exact lk_outS hτ rfl (here (by kernel_rfl))
    ·replace h := iteF hb h
     refine sem_skipS (by kernel_rfl) (fun τ hτ => ?_)
     refine bl_normal ?_
     refine th_normalS hτ ⟨[(0, (.sl (List.map c_Segment a))), (1, (.sl (List.map c_Segment b))), (5, (vI s55))], []⟩ (here (by kernel_rfl)) ?_
     refine sem_region (by kernel_rfl) ?_
     refine z6 3 (by kernel_rfl) (fun τ hτ => ?_)
     obtain rfl := Option.some.inj h
     exact lk_nextS hτ (here (by kernel_rfl))
   ·replace h := iteF hb h
    refine sem_exitS 0 (by kernel_rfl) rfl (fun τ hτ => ?_)
    refine th_exit ?_
    obtain rfl := Option.some.inj h
    exact lk_outS hτ rfl (here (by kernel_rfl))
  ·intro x
   rcases x with _ | _ <;> rfl
  ·intro τ hτ
   rcases x80 with j81 | j82
   ·refine bl_ret ?_
    refine th_ret ?_
    obtain rfl := Option.some.inj h
    exact rk_ret hτ [(4, (vB false))] (here (by kernel_rfl)) (by kernel_rfl)
   ·refine bl_hit (by kernel_rfl) ?_
    refine th_normalS hτ ⟨[], []⟩ (here (by kernel_rfl)) ?_
    refine z8 1 ⟨[(4, (vB true))], []⟩ (by kernel_rfl) (fun τ hτ => ?_)
    obtain rfl := Option.some.inj h
    exact rk_ret hτ [(4, (vB true))] (here (by kernel_rfl)) (by kernel_rfl)
theorem W.sheetmetaltop_unit_ok {r : Bool} (h : sheetmetaltop_unit = some r) : PC G.P 44 [] [] (vB r) [] := by
 refine pc_of G (fn := Try.f44) Try.func44 (by kernel_rfl) (by kernel_rfl) (by kernel_rfl) (by kernel_rfl) (by kernel_rfl) ?_
 refine sem_set ⟨[], []⟩ (by kernel_rfl) ?_
 refine z3 1 ⟨[], []⟩ (by kernel_rfl) ?_
 refine z7 (by kernel_rfl) ?_
 refine evs_run 2 (by kernel_rfl) ?_
 obtain ⟨r2, hr2, h⟩ := bindS h
 refine evs_callP [] (by kernel_rfl) (W.geom_Area_ok hr2) (by kernel_rfl) (.inl rfl) (by kernel_rfl) ?_
 refine z1 5 ⟨[(1, (vI r2.1)), (2, (vI r2.2))], []⟩ (by kernel_rfl) ?_
 refine sem_seq (by kernel_rfl) ?_
 obtain ⟨j3, hj3, h⟩ := bindS h
 refine sem_regionC ⟨[(0, (vB j3))], []⟩ (by kernel_rfl) ?_ (fun τ hτ => ?_)
 ·replace h := hj3
  refine evs_run 3 (by kernel_rfl) ?_
  refine evs_split (r2.2 == 0) (fun b0 => ⟨[(1, (vI r2.1)), (11, (vB b0))], []⟩) (by kernel_rfl) (fun hb => ?_) (fun hb => ?_)
  ·replace h := iteT hb h
   refine z6 4 (by kernel_rfl) (fun τ hτ => ?_)
   obtain rfl := Option.some.inj h
   exact leafC hτ (here (by kernel_rfl))
  ·replace h := iteF hb h
   refine z6 4 (by kernel_rfl) (fun τ hτ => ?_)
   obtain rfl := Option.some.inj h
   exact leafC hτ (here (by kernel_rfl))
 refine th_normalS hτ ⟨[(0, (vB j3))], []⟩ (here (by kernel_rfl)) ?_
 refine sem_retS (by kernel_rfl) (fun τ hτ => ?_)
 obtain rfl := Option.some.inj h
 exact rk_ret hτ [(0, (vB j3))] (here (by kernel_rfl)) (by kernel_rfl)
theorem W.sheetmetaltop_TopRegions_ok {a : (List Rect)} {b : (List Rect)} {r : Bool} (h : sheetmetaltop_TopRegions a b = some r) : PC G.P 10 [(.sl (List.map c_Rect a)), (.sl (List.map c_Rect b))] [] (vB r) [] := by
 refine pc_of G (fn := Try.f10) Try.func10 (by kernel_rfl) (by kernel_rfl) (by kernel_rfl) (by kernel_rfl) (by kernel_rfl) ?_
 refine sem_set ⟨[(0, (.sl (List.map c_Rect a))), (1, (.sl (List.map c_Rect b)))], []⟩ (by kernel_rfl) ?_
 refine z3 1 ⟨[(0, (.sl (List.map c_Rect a))), (1, (.sl (List.map c_Rect b)))], []⟩ (by kernel_rfl) ?_
 refine sem_seq (by kernel_rfl) ?_
 refine sem_seq (by kernel_rfl) ?_
 obtain ⟨j10, hj10, h⟩ := bindS h
 refine sem_regionC ⟨[(0, (.sl (List.map c_Rect a))), (1, (.sl (List.map c_Rect b))), (26, (vB j10))], []⟩ (by kernel_rfl) ?_ (fun τ hτ => ?_)
 ·replace h := hj10
  refine evs_run 1 (by kernel_rfl) ?_
  obtain ⟨r11, hr11, h⟩ := bindS h
  refine evs_callP [] (by kernel_rfl) (W.sheetmetallaw01_Many_ok hr11) (by kernel_rfl) (.inl rfl) (by kernel_rfl) ?_
  refine evs_run 1 (by kernel_rfl) ?_
  refine evs_split r11 (fun b0 => ⟨[(0, (.sl (List.map c_Rect a))), (1, (.sl (List.map c_Rect b))), (23, (vB b0))], []⟩) (by kernel_rfl) (fun hb => ?_) (fun hb => ?_)
  ·replace h := iteT hb h
   refine z6 3 (by kernel_rfl) (fun τ hτ => ?_)
   obtain rfl := Option.some.inj h
   exact leafC hτ (here (by kernel_rfl))
  ·replace h := iteF hb h
   refine evs_run 1 (by kernel_rfl) ?_
   obtain ⟨r12, hr12, h⟩ := bindS h
   refine evs_callP [] (by kernel_rfl) (W.sheetmetallaw01_Many_ok hr12) (by kernel_rfl) (.inl rfl) (by kernel_rfl) ?_
   refine z6 1 (by kernel_rfl) (fun τ hτ => ?_)
   obtain rfl := Option.some.inj h
   exact leafC hτ (here (by kernel_rfl))
 refine th_normalS hτ ⟨[(0, (.sl (List.map c_Rect a))), (1, (.sl (List.map c_Rect b))), (26, (vB j10))], []⟩ (here (by kernel_rfl)) ?_
 refine sem_cond j10 (by kernel_rfl) (by kernel_rfl) (fun hb => ?_) (fun hb => ?_)
 ·replace h := iteT hb h
  refine z7 (by kernel_rfl) ?_
  obtain ⟨r14, hr14, h⟩ := bindS h
  refine evs_callP [] (by kernel_rfl) (W.sheetmetaltop_unit_ok hr14) (by kernel_rfl) (.inl rfl) (by kernel_rfl) ?_
  refine z1 1 ⟨[(4, (vB r14))], []⟩ (by kernel_rfl) ?_
  refine sem_retS (by kernel_rfl) (fun τ hτ => ?_)
  refine th_ret ?_
  obtain rfl := Option.some.inj h
  exact rk_ret hτ [(4, (vB r14))] (here (by kernel_rfl)) (by kernel_rfl)
 ·replace h := iteF hb h
  refine z4 ⟨[(0, (.sl (List.map c_Rect a))), (1, (.sl (List.map c_Rect b)))], []⟩ (by kernel_rfl) ?_
  refine z7 (by kernel_rfl) ?_
  refine evs_run 1 (by kernel_rfl) ?_
  obtain ⟨r16, hr16, h⟩ := bindS h
  refine evs_callP [] (by kernel_rfl) (W.geom_Area_ok hr16) (by kernel_rfl) (.inl rfl) (by kernel_rfl) ?_
  refine z1 5 ⟨[(0, (.sl (List.map c_Rect a))), (1, (.sl (List.map c_Rect b))), (5, (vI r16.1)), (6, (vI r16.2))], []⟩ (by kernel_rfl) ?_
  refine z7 (by kernel_rfl) ?_
  refine evs_run 1 (by kernel_rfl) ?_
  obtain ⟨r18, hr18, h⟩ := bindS h
  refine evs_callP [] (by kernel_rfl) (W.geom_Area_ok hr18) (by kernel_rfl) (.inl rfl) (by kernel_rfl) ?_
  refine z1 5 ⟨[(0, (.sl (List.map c_Rect a))), (1, (.sl (List.map c_Rect b))), (5, (vI r16.1)), (6, (vI r16.2)), (7, (vI r18.1)), (8, (vI r18.2))], []⟩ (by kernel_rfl) ?_
  refine z7 (by kernel_rfl) ?_
  refine evs_run 2 (by kernel_rfl) ?_
  obtain ⟨r20, hr20, h⟩ := bindS h
  refine evs_callP [] (by kernel_rfl) (W.geom_SameRegion_ok hr20) (by kernel_rfl) (.inl rfl) (by kernel_rfl) ?_
  refine z1 5 ⟨[(0, (.sl (List.map c_Rect a))), (1, (.sl (List.map c_Rect b))), (5, (vI r16.1)), (6, (vI r16.2)), (7, (vI r18.1)), (8, (vI r18.2)), (9, (vB r20.1)), (10, (vI r20.2))], []⟩ (by kernel_rfl) ?_
  refine sem_seq (by kernel_rfl) ?_
  refine sem_seq (by kernel_rfl) ?_
  obtain ⟨j25, hj25, h⟩ := bindS h
  refine sem_regionC ⟨[(0, (.sl (List.map c_Rect a))), (1, (.sl (List.map c_Rect b))), (5, (vI r16.1)), (7, (vI r18.1)), (9, (vB r20.1)), (10, (vI r20.2)), (49, (vB j25))], []⟩ (by kernel_rfl) ?_ (fun τ hτ => ?_)
  ·replace h := hj25
   refine evs_run 3 (by kernel_rfl) ?_
   refine evs_split (r16.2 != 0) (fun b0 => ⟨[(0, (.sl (List.map c_Rect a))), (1, (.sl (List.map c_Rect b))), (5, (vI r16.1)), (7, (vI r18.1)), (8, (vI r18.2)), (9, (vB r20.1)), (10, (vI r20.2)), (46, (vB b0))], []⟩) (by kernel_rfl) (fun hb => ?_) (fun hb => ?_)
   ·replace h := iteT hb h
    refine z6 3 (by kernel_rfl) (fun τ hτ => ?_)
    obtain rfl := Option.some.inj h
    exact leafC hτ (here (by kernel_rfl))
   ·replace h := iteF hb h
    refine z6 3 (by kernel_rfl) (fun τ hτ => ?_)
    obtain rfl := Option.some.inj h
    exact leafC hτ (here (by kernel_rfl))
  refine th_normalS hτ ⟨[(0, (.sl (List.map c_Rect a))), (1, (.sl (List.map c_Rect b))), (5, (vI r16.1)), (7, (vI r18.1)), (9, (vB r20.1)), (10, (vI r20.2)), (49, (vB j25))], []⟩ (here (by kernel_rfl)) ?_
  refine sem_cond j25 (by kernel_rfl) (by kernel_rfl) (fun hb => ?_) (fun hb => ?_)
  ·replace h := iteT hb h
   refine sem_seq (by kernel_rfl) ?_
   obtain ⟨j27, hj27, h⟩ := bindS h
   refine sem_regionC ⟨[(4, (vB j27))], []⟩ (by kernel_rfl) ?_ (fun τ hτ => ?_)
   ·replace h := hj27
    refine evs_run 3 (by kernel_rfl) ?_
    refine evs_split (r20.2 != 0) (fun b0 => ⟨[(9, (vB r20.1)), (52, (vB b0))], []⟩) (by kernel_rfl) (fun hb => ?_) (fun hb => ?_)
    ·replace h := iteT hb h
     refine evs_run 4 (by kernel_rfl) ?_
     refine evs_split r20.1 (fun b0 => ⟨[(56, (vB (!b0)))], []⟩) (by kernel_rfl) (fun hb => ?_) (fun hb => ?_)
     ·replace h := iteT hb h
      refine z6 3 (by kernel_rfl) (fun τ hτ => ?_)
      obtain rfl := Option.some.inj h
      exact leafC hτ (here (by kernel_rfl))
     ·replace h := iteF hb h
      obtain ⟨r28, hr28, h⟩ := bindS h
      refine evs_callP [] (by kernel_rfl) (W.sheetmetaltop_unit_ok hr28) (by kernel_rfl) (.inl rfl) (by kernel_rfl) ?_
      refine z6 2 (by kernel_rfl) (fun τ hτ => ?_)
      obtain rfl := Option.some.inj h
      exact leafC hτ (here (by kernel_rfl))
    ·replace h := iteF hb h
     refine z6 7 (by kernel_rfl) (fun τ hτ => ?_)
     obtain rfl := Option.some.inj h
     exact leafC hτ (here (by kernel_rfl))
   refine th_normalS hτ ⟨[(4, (vB j27))], []⟩ (here (by kernel_rfl)) ?_
   refine sem_retS (by kernel_rfl) (fun τ hτ => ?_)
   refine th_ret ?_
   obtain rfl := Option.some.inj h
   exact rk_ret hτ [(4, (vB j27))] (here (by kernel_rfl)) (by kernel_rfl)
  ·replace h := iteF hb h
   refine z4 ⟨[(0, (.sl (List.map c_Rect a))), (1, (.sl (List.map c_Rect b))), (5, (vI r16.1)), (7, (vI r18.1)), (9, (vB r20.1)), (10, (vI r20.2))], []⟩ (by kernel_rfl) ?_
   refine z7 (by kernel_rfl) ?_
   refine evs_run 1 (by kernel_rfl) ?_
   obtain ⟨r30, hr30, h⟩ := bindS h
   refine evs_callS [] [(0, 700050)] [] (by kernel_rfl) (W.geom_Outline_ok hr30) (by kernel_rfl) (by kernel_rfl) (.inl rfl) ?_
   refine z1 5 ⟨[(0, (.sl (List.map c_Rect a))), (1, (.sl (List.map c_Rect b))), (5, (vI r16.1)), (7, (vI r18.1)), (9, (vB r20.1)), (10, (vI r20.2)), (11, (.row (.top 700050) 100)), (12, (vI r30.2))], [(700050, .row 100 [] (List.map c_Segment r30.1))]⟩ (by kernel_rfl) ?_
   refine z7 (by kernel_rfl) ?_
   refine evs_run 1 (by kernel_rfl) ?_
   obtain ⟨r32, hr32, h⟩ := bindS h
   refine evs_callS [] [(0, 700051)] [] (by kernel_rfl) (W.geom_Outline_ok hr32) (by kernel_rfl) (by kernel_rfl) (.inl rfl) ?_
   refine z1 5 ⟨[(0, (.sl (List.map c_Rect a))), (1, (.sl (List.map c_Rect b))), (5, (vI r16.1)), (7, (vI r18.1)), (9, (vB r20.1)), (10, (vI r20.2)), (11, (.row (.top 700050) 100)), (12, (vI r30.2)), (13, (.row (.top 700051) 100)), (14, (vI r32.2))], [(700050, .row 100 [] (List.map c_Segment r30.1)), (700051, .row 100 [] (List.map c_Segment r32.1))]⟩ (by kernel_rfl) ?_
   refine sem_seq (by kernel_rfl) ?_
   refine sem_seq (by kernel_rfl) ?_
   obtain ⟨j37, hj37, h⟩ := bindS h
   refine sem_regionC ⟨[(0, (.sl (List.map c_Rect a))), (1, (.sl (List.map c_Rect b))), (5, (vI r16.1)), (7, (vI r18.1)), (9, (vB r20.1)), (11, (.row (.top 500000) 100)), (85, (vB j37))], [(500000, .row 100 [] (List.map c_Segment r30.1))]⟩ (by kernel_rfl) ?_ (fun τ hτ => ?_)
   ·replace h := hj37
    refine evs_run 3 (by kernel_rfl) ?_
    refine evs_split (r20.2 != 0) (fun b0 => ⟨[(0, (.sl (List.map c_Rect a))), (1, (.sl (List.map c_Rect b))), (5, (vI r16.1)), (7, (vI r18.1)), (9, (vB r20.1)), (11, (.row (.top 700050) 100)), (12, (vI r30.2)), (13, (.row (.top 700051) 100)), (14, (vI r32.2)), (71, (vB b0))], [(700050, .row 100 [] (List.map c_Segment r30.1)), (700051, .row 100 [] (List.map c_Segment r32.1))]⟩) (by kernel_rfl) (fun hb => ?_) (fun hb => ?_)
    ·replace h := iteT hb h
     refine z6 14 (by kernel_rfl) (fun τ hτ => ?_)
     obtain rfl := Option.some.inj h
     exact leafC hτ (subR_prep [] [(700050, 500000)] (by kernel_rfl) rfl rfl (by kernel_rfl))
    ·replace h := iteF hb h
     refine evs_run 4 (by kernel_rfl) ?_
     refine evs_split (r30.2 != 0) (fun b0 => ⟨[(0, (.sl (List.map c_Rect a))), (1, (.sl (List.map c_Rect b))), (5, (vI r16.1)), (7, (vI r18.1)), (9, (vB r20.1)), (11, (.row (.top 700050) 100)), (13, (.row (.top 700051) 100)), (14, (vI r32.2)), (75, (vB b0))], [(700050, .row 100 [] (List.map c_Segment r30.1)), (700051, .row 100 [] (List.map c_Segment r32.1))]⟩) (by kernel_rfl) (fun hb => ?_) (fun hb => ?_)
     ·replace h := iteT hb h
      refine z6 10 (by kernel_rfl) (fun τ hτ => ?_)
      obtain rfl := Option.some.inj h
      exact leafC hτ (subR_prep [] [(700050, 500000)] (by kernel_rfl) rfl rfl (by kernel_rfl))
     ·replace h := iteF hb h
      refine evs_run 4 (by kernel_rfl) ?_
      refine evs_split (r32.2 != 0) (fun b0 => ⟨[(0, (.sl (List.map c_Rect a))), (1, (.sl (List.map c_Rect b))), (5, (vI r16.1)), (7, (vI r18.1)), (9, (vB r20.1)), (11, (.row (.top 700050) 100)), (13, (.row (.top 700051) 100)), (79, (vB b0))], [(700050, .row 100 [] (List.map c_Segment r30.1)), (700051, .row 100 [] (List.map c_Segment r32.1))]⟩) (by kernel_rfl) (fun hb => ?_) (fun hb => ?_)
      ·replace h := iteT hb h
       refine z6 6 (by kernel_rfl) (fun τ hτ => ?_)
       obtain rfl := Option.some.inj h
       exact leafC hτ (subR_prep [] [(700050, 500000)] (by kernel_rfl) rfl rfl (by kernel_rfl))
      ·replace h := iteF hb h
       refine evs_run 3 (by kernel_rfl) ?_
       obtain ⟨r38, hr38, h⟩ := bindS h
       refine evs_callP [700050, 700051] (by kernel_rfl) (W.sheetmetalref01_SameSegments_ok hr38) (by kernel_rfl) (.inr rfl) (by kernel_rfl) ?_
       refine z6 2 (by kernel_rfl) (fun τ hτ => ?_)
       obtain rfl := Option.some.inj h
       exact leafC hτ (subR_prep [] [(700050, 500000)] (by kernel_rfl) rfl rfl (by kernel_rfl))
   refine th_normalS hτ ⟨[(0, (.sl (List.map c_Rect a))), (1, (.sl (List.map c_Rect b))), (5, (vI r16.1)), (7, (vI r18.1)), (9, (vB r20.1)), (11, (.row (.top 500000) 100)), (85, (vB j37))], [(500000, .row 100 [] (List.map c_Segment r30.1))]⟩ (here (by kernel_rfl)) ?_
   refine sem_cond j37 (by kernel_rfl) (by kernel_rfl) (fun hb => ?_) (fun hb => ?_)
   ·replace h := iteT hb h
    refine z8 1 ⟨[(4, (vB false))], []⟩ (by kernel_rfl) (fun τ hτ => ?_)
    refine th_ret ?_
    obtain rfl := Option.some.inj h
    exact rk_ret hτ [(4, (vB false))] (here (by kernel_rfl)) (by kernel_rfl)
   ·replace h := iteF hb h
    refine z4 ⟨[(0, (.sl (List.map c_Rect a))), (1, (.sl (List.map c_Rect b))), (5, (vI r16.1)), (7, (vI r18.1)), (9, (vB r20.1)), (11, (.row (.top 500000) 100))], [(500000, .row 100 [] (List.map c_Segment r30.1))]⟩ (by kernel_rfl) ?_
    refine z7 (by kernel_rfl) ?_
    refine evs_run 2 (by kernel_rfl) ?_
    obtain ⟨r41, hr41, h⟩ := bindS h
    refine evs_callS [] [(0, 700100)] [] (by kernel_rfl) (W.sheetmetalref01_Both_ok hr41) (by kernel_rfl) (by kernel_rfl) (.inl rfl) ?_
    obtain ⟨r42, hr42, h⟩ := bindS h
    refine evs_callP [700100] (by kernel_rfl) (W.geom_Area_ok hr42) (by kernel_rfl) (.inr rfl) (by kernel_rfl) ?_
    refine z1 5 ⟨[(0, (.sl (List.map c_Rect a))), (5, (vI r16.1)), (7, (vI r18.1)), (9, (vB r20.1)), (11, (.row (.top 500000) 100)), (15, (vI r42.1)), (16, (vI r42.2))], [(500000, .row 100 [] (List.map c_Segment r30.1))]⟩ (by kernel_rfl) ?_
    refine sem_seq (by kernel_rfl) ?_
    refine sem_seq (by kernel_rfl) ?_
    obtain ⟨j44, hj44, h⟩ := bindS h
    refine sem_regionC ⟨[(0, (.sl (List.map c_Rect a))), (5, (vI r16.1)), (11, (.row (.top 500000) 100)), (123, (vB j44))], [(500000, .row 100 [] (List.map c_Segment r30.1))]⟩ (by kernel_rfl) ?_ (fun τ hτ => ?_)
    ·replace h := hj44
     refine evs_run 3 (by kernel_rfl) ?_
     refine evs_split (r42.2 == 0) (fun b0 => ⟨[(0, (.sl (List.map c_Rect a))), (5, (vI r16.1)), (7, (vI r18.1)), (9, (vB r20.1)), (11, (.row (.top 500000) 100)), (15, (vI r42.1)), (95, (vB b0))], [(500000, .row 100 [] (List.map c_Segment r30.1))]⟩) (by kernel_rfl) (fun hb => ?_) (fun hb => ?_)
     ·replace h := iteT hb h
      refine evs_run 5 (by kernel_rfl) ?_
      refine evs_split (r42.1 == r16.1) (fun b0 => ⟨[(0, (.sl (List.map c_Rect a))), (5, (vI r16.1)), (7, (vI r18.1)), (11, (.row (.top 500000) 100)), (15, (vI r42.1)), (95, (vB true)), (96, (vB r20.1)), (100, (vB b0))], [(500000, .row 100 [] (List.map c_Segment r30.1))]⟩) (by kernel_rfl) (fun hb => ?_) (fun hb => ?_)
      ·replace h := iteT hb h
       refine evs_run 6 (by kernel_rfl) ?_
       refine evs_split (r20.1 == (r42.1 == r18.1)) (fun b0 => ⟨[(0, (.sl (List.map c_Rect a))), (5, (vI r16.1)), (7, (vI r18.1)), (11, (.row (.top 500000) 100)), (15, (vI r42.1)), (95, (vB true)), (106, (vB (!b0)))], [(500000, .row 100 [] (List.map c_Segment r30.1))]⟩) (by kernel_rfl) (fun hb => ?_) (fun hb => ?_)
       ·replace h := iteT hb h
        refine evs_run 5 (by kernel_rfl) ?_
        refine evs_split (decide (r42.1 < r16.1)) (fun b0 => ⟨[(0, (.sl (List.map c_Rect a))), (5, (vI r16.1)), (7, (vI r18.1)), (11, (.row (.top 500000) 100)), (15, (vI r42.1)), (95, (vB true)), (111, (vB b0))], [(500000, .row 100 [] (List.map c_Segment r30.1))]⟩) (by kernel_rfl) (fun hb => ?_) (fun hb => ?_)
        ·replace h := iteT hb h
         refine z6 12 (by kernel_rfl) (fun τ hτ => ?_)
         obtain rfl := Option.some.inj h
         exact leafC hτ (here (by kernel_rfl))
        ·replace h := iteF hb h
         refine evs_run 5 (by kernel_rfl) ?_
         refine evs_split (decide (r42.1 < r18.1)) (fun b0 => ⟨[(0, (.sl (List.map c_Rect a))), (5, (vI r16.1)), (7, (vI r18.1)), (11, (.row (.top 500000) 100)), (15, (vI r42.1)), (95, (vB true)), (116, (vB b0))], [(500000, .row 100 [] (List.map c_Segment r30.1))]⟩) (by kernel_rfl) (fun hb => ?_) (fun hb => ?_)
         ·replace h := iteT hb h
          refine z6 7 (by kernel_rfl) (fun τ hτ => ?_)
          obtain rfl := Option.some.inj h
          exact leafC hτ (here (by kernel_rfl))
         ·replace h := iteF hb h
          refine z6 7 (by kernel_rfl) (fun τ hτ => ?_)
          obtain rfl := Option.some.inj h
          exact leafC hτ (here (by kernel_rfl))
       ·replace h := iteF hb h
        refine z6 17 (by kernel_rfl) (fun τ hτ => ?_)
        obtain rfl := Option.some.inj h
        exact leafC hτ (here (by kernel_rfl))
      ·replace h := iteF hb h
       refine evs_run 6 (by kernel_rfl) ?_
       refine evs_split (r20.1 == false) (fun b0 => ⟨[(0, (.sl (List.map c_Rect a))), (5, (vI r16.1)), (7, (vI r18.1)), (11, (.row (.top 500000) 100)), (15, (vI r42.1)), (95, (vB true)), (106, (vB (!b0)))], [(500000, .row 100 [] (List.map c_Segment r30.1))]⟩) (by kernel_rfl) (fun hb => ?_) (fun hb => ?_)
       ·replace h := iteT hb h
        refine evs_run 5 (by kernel_rfl) ?_
        refine evs_split (decide (r42.1 < r16.1)) (fun b0 => ⟨[(0, (.sl (List.map c_Rect a))), (5, (vI r16.1)), (7, (vI r18.1)), (11, (.row (.top 500000) 100)), (15, (vI r42.1)), (95, (vB true)), (111, (vB b0))], [(500000, .row 100 [] (List.map c_Segment r30.1))]⟩) (by kernel_rfl) (fun hb => ?_) (fun hb => ?_)
        ·replace h := iteT hb h
         refine z6 12 (by kernel_rfl) (fun τ hτ => ?_)
         obtain rfl := Option.some.inj h
         exact leafC hτ (here (by kernel_rfl))
        ·replace h := iteF hb h
         refine evs_run 5 (by kernel_rfl) ?_
         refine evs_split (decide (r42.1 < r18.1)) (fun b0 => ⟨[(0, (.sl (List.map c_Rect a))), (5, (vI r16.1)), (7, (vI r18.1)), (11, (.row (.top 500000) 100)), (15, (vI r42.1)), (95, (vB true)), (116, (vB b0))], [(500000, .row 100 [] (List.map c_Segment r30.1))]⟩) (by kernel_rfl) (fun hb => ?_) (fun hb => ?_)
         ·replace h := iteT hb h
          refine z6 7 (by kernel_rfl) (fun τ hτ => ?_)
          obtain rfl := Option.some.inj h
          exact leafC hτ (here (by kernel_rfl))
         ·replace h := iteF hb h
          refine z6 7 (by kernel_rfl) (fun τ hτ => ?_)
          obtain rfl := Option.some.inj h
          exact leafC hτ (here (by kernel_rfl))
       ·replace h := iteF hb h
        refine z6 17 (by kernel_rfl) (fun τ hτ => ?_)
        obtain rfl := Option.some.inj h
        exact leafC hτ (here (by kernel_rfl))
     ·replace h := iteF hb h
      refine z6 28 (by kernel_rfl) (fun τ hτ => ?_)
      obtain rfl := Option.some.inj h
      exact leafC hτ (here (by kernel_rfl))
    refine th_normalS hτ ⟨[(0, (.sl (List.map c_Rect a))), (5, (vI r16.1)), (11, (.row (.top 500000) 100)), (123, (vB j44))], [(500000, .row 100 [] (List.map c_Segment r30.1))]⟩ (here (by kernel_rfl)) ?_
    refine sem_cond j44 (by kernel_rfl) (by kernel_rfl) (fun hb => ?_) (fun hb => ?_)
    ·replace h := iteT hb h
     refine z8 1 ⟨[(4, (vB false))], []⟩ (by kernel_rfl) (fun τ hτ => ?_)
     refine th_ret ?_
     obtain rfl := Option.some.inj h
     exact rk_ret hτ [(4, (vB false))] (here (by kernel_rfl)) (by kernel_rfl)
    ·replace h := iteF hb h
     refine z4 ⟨[(0, (.sl (List.map c_Rect a))), (5, (vI r16.1)), (11, (.row (.top 500000) 100))], [(500000, .row 100 [] (List.map c_Segment r30.1))]⟩ (by kernel_rfl) ?_
     refine z3 2 ⟨[(0, (.sl (List.map c_Rect a))), (5, (vI r16.1)), (11, (.row (.top 500000) 100)), (17, (vI 0)), (18, (vB true))], [(500000, .row 100 [] (List.map c_Segment r30.1))]⟩ (by kernel_rfl) ?_
     refine sem_seq (by kernel_rfl) ?_
     refine z3 1 ⟨[(0, (.sl (List.map c_Rect a))), (5, (vI r16.1)), (11, (.row (.top 500000) 100)), (17, (vI 0)), (18, (vB true)), (19, (vI 0))], [(500000, .row 100 [] (List.map c_Segment r30.1))]⟩ (by kernel_rfl) ?_
     refine sem_block (by kernel_rfl) ?_
     obtain ⟨x912, hx912, h⟩ := bindS h
     refine sem_loopS (fun (s635 : Int × Bool × Int) => ⟨[(0, (.sl (List.map c_Rect a))), (5, (vI r16.1)), (11, (.row (.top 500000) 100)), (17, (vI s635.1)), (18, (vB s635.2.1)), (19, (vI s635.2.2))], [(500000, .row 100 [] (List.map c_Segment r30.1))]⟩) (fun (x912 : Int × Bool) => (.exit 0, ⟨[(0, (.sl (List.map c_Rect a))), (5, (vI r16.1)), (11, (.row (.top 500000) 100)), (17, (vI x912.1)), (18, (vB x912.2))], [(500000, .row 100 [] (List.map c_Segment r30.1))]⟩)) (sheetmetaltop_TopRegions_l2 a) (0, true, 0) x912 (by kernel_rfl) (here (by kernel_rfl)) hx912 ?_ ?_ ?_
     ·intro s635 r h
      refine sem_seq (by kernel_rfl) ?_
      refine z7 (by kernel_rfl) ?_
      refine evs_run 2 (by kernel_rfl) ?_
      refine evs_op (st_len (c := c_Rect) (l := a) (x := (.sl (List.map c_Rect a))) (by kernel_rfl) (by kernel_rfl)) ?_
      refine z1 1 ⟨[(0, (.sl (List.map c_Rect a))), (5, (vI r16.1)), (11, (.row (.top 500000) 100)), (17, (vI s635.1)), (18, (vB s635.2.1)), (19, (vI s635.2.2)), (127, (vB (decide (s635.2.2 < (a.length : Int)))))], [(500000, .row 100 [] (List.map c_Segment r30.1))]⟩ (by kernel_rfl) ?_
      refine sem_cond (decide (s635.2.2 < (a.length : Int))) (by kernel_rfl) (by kernel_rfl) (fun hb => ?_) (fun hb => ?_)
      ·replace h := iteT hb h
       refine z4 ⟨[(0, (.sl (List.map c_Rect a))), (5, (vI r16.1)), (11, (.row (.top 500000) 100)), (17, (vI s635.1)), (18, (vB s635.2.1)), (19, (vI s635.2.2))], [(500000, .row 100 [] (List.map c_Segment r30.1))]⟩ (by kernel_rfl) ?_
       refine sem_seq (by kernel_rfl) ?_
       refine sem_block (by kernel_rfl) ?_
       refine sem_seq (by kernel_rfl) ?_
       refine sem_drawN [] [] [] [] [] 12 (by kernel_rfl) (by kernel_rfl) (by kernel_rfl) ?_
       refine evd_run 3 (by kernel_rfl) ?_
       obtain ⟨x847, hx847, h⟩ := bindS h
       refine evd_val (by kernel_rfl) (st_idx (c := c_Rect) (l := a) (i := s635.2.2) (kd := .i64) (sz := 4) (by kernel_rfl) hx847 rfl) (by kernel_rfl) (by kernel_rfl) ?_
       refine evd_run 4 (by kernel_rfl) ?_
       obtain ⟨x848, hx848, h⟩ := bindS h
       refine evd_val (by kernel_rfl) (st_idx (c := c_Rect) (l := a) (i := s635.2.2) (kd := .i64) (sz := 4) (by kernel_rfl) hx848 rfl) (by kernel_rfl) (by kernel_rfl) ?_
       refine evd_run 3 (by kernel_rfl) ?_
       refine evd_end (by kernel_rfl) ?_
       refine evo_run 2 (by kernel_rfl) ?_
       refine evo_endS (by kernel_rfl) (fun τ hτ => ?_)
       refine th_normalS hτ ⟨[(0, (.sl (List.map c_Rect a))), (5, (vI r16.1)), (11, (.row (.top 500000) 100)), (17, (vI (iadd s635.1 (imul x847.W x848.H)))), (18, (vB s635.2.1)), (19, (vI s635.2.2))], [(500000, .row 100 [] (List.map c_Segment r30.1))]⟩ (here (by kernel_rfl)) ?_
       refine z3 1 ⟨[(0, (.sl (List.map c_Rect a))), (5, (vI r16.1)), (11, (.row (.top 500000) 100)), (17, (vI (iadd s635.1 (imul x847.W x848.H)))), (18, (vB s635.2.1)), (19, (vI s635.2.2)), (20, (vI 0))], [(500000, .row 100 [] (List.map c_Segment r30.1))]⟩ (by kernel_rfl) ?_
       refine sem_block (by kernel_rfl) ?_
       obtain ⟨x911, hx911, h⟩ := bindS h
       refine sem_loopS (fun (s870 : Bool × Int) => ⟨[(0, (.sl (List.map c_Rect a))), (5, (vI r16.1)), (11, (.row (.top 500000) 100)), (17, (vI (iadd s635.1 (imul x847.W x848.H)))), (18, (vB s870.1)), (19, (vI s635.2.2)), (20, (vI s870.2))], [(500000, .row 100 [] (List.map c_Segment r30.1))]⟩) (fun (x911 : Bool) => (.exit 2, ⟨[(0, (.sl (List.map c_Rect a))), (5, (vI r16.1)), (11, (.row (.top 500000) 100)), (17, (vI (iadd s635.1 (imul x847.W x848.H)))), (18, (vB x911)), (19, (vI s635.2.2))], [(500000, .row 100 [] (List.map c_Segment r30.1))]⟩)) (sheetmetaltop_TopRegions_l1 a s635) (s635.2.1, 0) x911 (by kernel_rfl) (here (by kernel_rfl)) hx911 ?_ ?_ ?_
       ·intro s870 r h
        refine sem_seq (by kernel_rfl) ?_
        refine z3 3 ⟨[(0, (.sl (List.map c_Rect a))), (5, (vI r16.1)), (11, (.row (.top 500000) 100)), (17, (vI (iadd s635.1 (imul x847.W x848.H)))), (18, (vB s870.1)), (19, (vI s635.2.2)), (20, (vI s870.2)), (145, (vB (decide (s870.2 < s635.2.2))))], [(500000, .row 100 [] (List.map c_Segment r30.1))]⟩ (by kernel_rfl) ?_
        refine sem_cond (decide (s870.2 < s635.2.2)) (by kernel_rfl) (by kernel_rfl) (fun hb => ?_) (fun hb => ?_)
        ·replace h := iteT hb h
         refine z4 ⟨[(0, (.sl (List.map c_Rect a))), (5, (vI r16.1)), (11, (.row (.top 500000) 100)), (17, (vI (iadd s635.1 (imul x847.W x848.H)))), (18, (vB s870.1)), (19, (vI s635.2.2)), (20, (vI s870.2))], [(500000, .row 100 [] (List.map c_Segment r30.1))]⟩ (by kernel_rfl) ?_
         refine sem_seq (by kernel_rfl) ?_
         refine sem_block (by kernel_rfl) ?_
         obtain ⟨j907, hj907, h⟩ := bindS h
         refine sem_drawP ⟨[(0, (.sl (List.map c_Rect a))), (5, (vI r16.1)), (11, (.row (.top 500000) 100)), (17, (vI (iadd s635.1 (imul x847.W x848.H)))), (18, (vB j907)), (19, (vI s635.2.2)), (20, (vI s870.2))], [(500000, .row 100 [] (List.map c_Segment r30.1))]⟩ [] [] [] [] [] 10 (by kernel_rfl) (by kernel_rfl) (by kernel_rfl) ?_ (fun τ hτ => ?_)
         ·replace h := hj907
          refine evd_run 2 (by kernel_rfl) ?_
          refine evd_split s870.1 (fun b0 => ⟨[(149, (vB b0)), (148, (vB b0)), (0, (.sl (List.map c_Rect a))), (5, (vI r16.1)), (11, (.row (.top 500000) 100)), (17, (vI (iadd s635.1 (imul x847.W x848.H)))), (18, (vB b0)), (19, (vI s635.2.2)), (20, (vI s870.2))], [(500000, .row 100 [] (List.map c_Segment r30.1))]⟩) (by kernel_rfl) (fun hb => ?_) (fun hb => ?_)
          ·replace h := iteT hb h
           refine evd_run 2 (by kernel_rfl) ?_
           obtain ⟨x908, hx908, h⟩ := bindS h
           refine evd_val (by kernel_rfl) (st_idx (c := c_Rect) (l := a) (i := s635.2.2) (kd := .i64) (sz := 4) (by kernel_rfl) hx908 rfl) (by kernel_rfl) (by kernel_rfl) ?_
           refine evd_run 3 (by kernel_rfl) ?_
           obtain ⟨x909, hx909, h⟩ := bindS h
           refine evd_val (by kernel_rfl) (st_idx (c := c_Rect) (l := a) (i := s870.2) (kd := .i64) (sz := 4) (by kernel_rfl) hx909 rfl) (by kernel_rfl) (by kernel_rfl) ?_
           refine evd_run 1 (by kernel_rfl) ?_
           refine evd_end (by kernel_rfl) ?_
           obtain ⟨r910, hr910, h⟩ := bindS h
           refine evo_callP [] (by kernel_rfl) (W.geom_Overlap_ok hr910) (by kernel_rfl) (.inl rfl) (by kernel_rfl) ?_
           refine evo_run 3 (by kernel_rfl) ?_
           refine evo_endS (by kernel_rfl) (fun τ hτ => ?_)
           obtain rfl := Option.some.inj h
           exact leafC hτ (here (by kernel_rfl))
          ·replace h := iteF hb h
           refine evd_run 8 (by kernel_rfl) ?_
           refine evd_end (by kernel_rfl) ?_
           refine evo_run 4 (by kernel_rfl) ?_
           refine evo_endS (by kernel_rfl) (fun τ hτ => ?_)
           obtain rfl := Option.some.inj h
           exact leafC hτ (here (by kernel_rfl))
         refine bl_normal ?_
         refine th_normalS hτ ⟨[(0, (.sl (List.map c_Rect a))), (5, (vI r16.1)), (11, (.row (.top 500000) 100)), (17, (vI (iadd s635.1 (imul x847.W x848.H)))), (18, (vB j907)), (19, (vI s635.2.2)), (20, (vI s870.2))], [(500000, .row 100 [] (List.map c_Segment r30.1))]⟩ (here (by kernel_rfl)) ?_
         refine sem_region (by kernel_rfl) ?_
         refine z6 3 (by kernel_rfl) (fun τ hτ => ?_)
         obtain rfl := Option.some.inj h
         exact lk_nextS hτ (here (by kernel_rfl))
        ·replace h := iteF hb h
         refine sem_exitS 2 (by kernel_rfl) rfl (fun τ hτ => ?_)
         refine th_exit ?_
         obtain rfl := Option.some.inj h
         exact lk_outS hτ rfl (here (by kernel_rfl))
       ·intro x
        rfl
       ·intro τ hτ
        refine bl_hit (by kernel_rfl) ?_
        refine bl_normal ?_
        refine th_normalS hτ ⟨[(0, (.sl (List.map c_Rect a))), (5, (vI r16.1)), (11, (.row (.top 500000) 100)), (17, (vI (iadd s635.1 (imul x847.W x848.H)))), (18, (vB x911)), (19, (vI s635.2.2))], [(500000, .row 100 [] (List.map c_Segment r30.1))]⟩ (here (by kernel_rfl)) ?_
        refine sem_region (by kernel_rfl) ?_
        refine z6 3 (by kernel_rfl) (fun τ hτ => ?_)
        obtain rfl := Option.some.inj h
        exact lk_nextS hτ (here (by kernel_rfl))
      ·replace h := iteF hb h
       refine sem_exitS 0 (by kernel_rfl) rfl (fun τ hτ => ?_)
       refine th_exit ?_
       obtain rfl := Option.some.inj h
       exact lk_outS hτ rfl (here (by kernel_rfl))
     ·intro x
      rfl
     ·intro τ hτ
      refine bl_hit (by kernel_rfl) ?_
      refine th_normalS hτ ⟨[(0, (.sl (List.map c_Rect a))), (5, (vI r16.1)), (11, (.row (.top 500000) 100)), (17, (vI x912.1)), (18, (vB x912.2))], [(500000, .row 100 [] (List.map c_Segment r30.1))]⟩ (here (by kernel_rfl)) ?_
      refine sem_seq (by kernel_rfl) ?_
      obtain ⟨j914, hj914, h⟩ := bindS h
      refine sem_regionC ⟨[(4, (vB j914))], []⟩ (by kernel_rfl) ?_ (fun τ hτ => ?_)
      ·replace h := hj914
       refine evs_run 4 (by kernel_rfl) ?_
       refine evs_split (decide (r16.1 ≤ x912.1)) (fun b0 => ⟨[(0, (.sl (List.map c_Rect a))), (5, (vI r16.1)), (11, (.row (.top 500000) 100)), (17, (vI x912.1)), (18, (vB x912.2)), (164, (vB b0))], [(500000, .row 100 [] (List.map c_Segment r30.1))]⟩) (by kernel_rfl) (fun hb => ?_) (fun hb => ?_)
       ·replace h := iteT hb h
        refine evs_run 7 (by kernel_rfl) ?_
        refine evs_split ((r16.1 == x912.1) == x912.2) (fun b0 => ⟨[(0, (.sl (List.map c_Rect a))), (11, (.row (.top 500000) 100)), (171, (vB b0))], [(500000, .row 100 [] (List.map c_Segment r30.1))]⟩) (by kernel_rfl) (fun hb => ?_) (fun hb => ?_)
        ·replace h := iteT hb h
         refine evs_run 1 (by kernel_rfl) ?_
         refine evs_op (st_len (c := c_Rect) (l := a) (x := (.sl (List.map c_Rect a))) (by kernel_rfl) (by kernel_rfl)) ?_
         refine evs_run 2 (by kernel_rfl) ?_
         refine evs_op (st_len (c := c_Segment) (l := r30.1) (x := (.row (.top 500000) 100)) (by kernel_rfl) (by kernel_rfl)) ?_
         refine evs_run 4 (by kernel_rfl) ?_
         refine evs_split (((a.length : Int) == 0) == ((r30.1.length : Int) == 0)) (fun b0 => ⟨[(180, (vB b0))], []⟩) (by kernel_rfl) (fun hb => ?_) (fun hb => ?_)
         ·replace h := iteT hb h
          obtain ⟨r915, hr915, h⟩ := bindS h
          refine evs_callP [] (by kernel_rfl) (W.sheetmetaltop_unit_ok hr915) (by kernel_rfl) (.inl rfl) (by kernel_rfl) ?_
          refine z6 2 (by kernel_rfl) (fun τ hτ => ?_)
          obtain rfl := Option.some.inj h
          exact leafC hτ (here (by kernel_rfl))
         ·replace h := iteF hb h
          refine z6 3 (by kernel_rfl) (fun τ hτ => ?_)
          obtain rfl := Option.some.inj h
          exact leafC hτ (here (by kernel_rfl))
        ·replace h := iteF hb h
         refine z6 12 (by kernel_rfl) (fun τ hτ => ?_)
         obtain rfl := Option.some.inj h
         exact leafC hτ (here (by kernel_rfl))
       ·replace h := iteF hb h
        refine z6 19 (by kernel_rfl) (fun τ hτ => ?_)
        obtain rfl := Option.some.inj h
        exact leafC hτ (here (by kernel_rfl))
      refine th_normalS hτ ⟨[(4, (vB j914))], []⟩ (here (by kernel_rfl)) ?_
      refine sem_retS (by kernel_rfl) (fun τ hτ => ?_)
      obtain rfl := Option.some.inj h
      exact rk_ret hτ [(4, (vB j914))] (here (by kernel_rfl)) (by kernel_rfl)
end Go.Proofs.Ytiodkdpfkchkjaa
