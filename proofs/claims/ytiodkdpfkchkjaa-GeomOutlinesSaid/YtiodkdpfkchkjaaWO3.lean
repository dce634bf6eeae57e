/- Each Go function does what its model says; written by a program out of the translation. -/
import Derived.Test.YtiodkdpfkchkjaaWO2
import Derived.Test.YtiodkdpfkchkjaaGeMO
set_option linter.unusedVariables false
set_option linter.unusedSimpArgs false
set_option linter.unusedSectionVars false
namespace Go.Proofs.Ytiodkdpfkchkjaa
open Go Go.VI Go.SM Go.Proofs
set_option maxRecDepth 100000
set_option maxHeartbeats 4000000
theorem W.sheetmetalref01_Outline_ok {l : (List Rect)} {r : (List Segment) × Int} (h : sheetmetalref01_Outline l = some r) : PC G.P 56 [(.sl (List.map c_Rect l))] [] (.tup [(.row (.top 0) 100), (vI r.2)]) [(0, .row 100 [] (List.map c_Segment r.1))] := by
 refine pc_of G (fn := Try.f56) Try.func56 (by kernel_rfl) (by kernel_rfl) (by kernel_rfl) (by kernel_rfl) (by kernel_rfl) ?_
 refine sem_set ⟨[(0, (.sl (List.map c_Rect l)))], []⟩ (by kernel_rfl) ?_
 refine z3 2 ⟨[(0, (.sl (List.map c_Rect l)))], []⟩ (by kernel_rfl) ?_
 refine sem_seq (by kernel_rfl) ?_
 refine z7 (by kernel_rfl) ?_
 refine evs_run 1 (by kernel_rfl) ?_
 obtain ⟨r4, hr4, h⟩ := bindS h
 refine evs_callP [] (by kernel_rfl) (W.sheetmetalref01_CheckRects_ok hr4) (by kernel_rfl) (.inl rfl) (by kernel_rfl) ?_
 refine z1 1 ⟨[(0, (.sl (List.map c_Rect l))), (4, (vI r4))], []⟩ (by kernel_rfl) ?_
 refine z3 2 ⟨[(0, (.sl (List.map c_Rect l))), (4, (vI r4)), (18, (vB (r4 != 0)))], []⟩ (by kernel_rfl) ?_
 refine sem_cond (r4 != 0) (by kernel_rfl) (by kernel_rfl) (fun hb => ?_) (fun hb => ?_)
 ·replace h := iteT hb h
  refine z8 3 ⟨[(2, (.row (.top 2) 100)), (3, (vI r4))], [(2, .row 100 [] (List.map c_Segment []))]⟩ (by kernel_rfl) (fun τ hτ => ?_)
  refine th_ret ?_
  obtain rfl := Option.some.inj h
  exact rk_ret hτ [(2, (.row (.top 0) 100)), (3, (vI r4))] (subR_prep [] [(2, 0)] (by kernel_rfl) rfl rfl (by kernel_rfl)) (by kernel_rfl)
 ·replace h := iteF hb h
  refine z4 ⟨[(0, (.sl (List.map c_Rect l)))], []⟩ (by kernel_rfl) ?_
  refine z7 (by kernel_rfl) ?_
  refine evs_run 2 (by kernel_rfl) ?_
  obtain ⟨r6, hr6, h⟩ := bindS h
  refine evs_callS [] [(0, 700100), (1, 700101)] [] (by kernel_rfl) (W.sheetmetalref01_MakeGrid_ok hr6) (by kernel_rfl) (by kernel_rfl) (.inl rfl) ?_
  refine z1 2 ⟨[(5, (.ptr 5 0))], [(5, .box [(.sl (List.map cI r6.1.X)), (.sl (List.map cI r6.1.Y)), (.row (.top 700101) 94)]), (700101, .row 94 [] (List.map (cS cB) r6.1.On))]⟩ (by kernel_rfl) ?_
  refine z3 1 ⟨[(5, (.ptr 5 0)), (6, (.row (.top 6) 100))], [(5, .box [(.sl (List.map cI r6.1.X)), (.sl (List.map cI r6.1.Y)), (.row (.top 700101) 94)]), (6, .row 100 [] (List.map c_Segment [])), (700101, .row 94 [] (List.map (cS cB) r6.1.On))]⟩ (by kernel_rfl) ?_
  refine sem_seq (by kernel_rfl) ?_
  refine z3 1 ⟨[(5, (.ptr 5 0)), (6, (.row (.top 6) 100)), (7, (vI 0))], [(5, .box [(.sl (List.map cI r6.1.X)), (.sl (List.map cI r6.1.Y)), (.row (.top 700101) 94)]), (6, .row 100 [] (List.map c_Segment [])), (700101, .row 94 [] (List.map (cS cB) r6.1.On))]⟩ (by kernel_rfl) ?_
  refine sem_block (by kernel_rfl) ?_
  obtain ⟨x4800, hx4800, h⟩ := bindS h
  refine sem_loopS (fun (s3203 : Int × (List Segment)) => ⟨[(5, (.ptr 500000 0)), (6, (.row (.top 500002) 100)), (7, (vI s3203.1))], [(500000, .box [(.sl (List.map cI r6.1.X)), (.sl (List.map cI r6.1.Y)), (.row (.top 500001) 94)]), (500001, .row 94 [] (List.map (cS cB) r6.1.On)), (500002, .row 100 [] (List.map c_Segment s3203.2))]⟩) (fun (x4800 : (List Segment)) => (.exit 0, ⟨[(5, (.ptr 500000 0)), (6, (.row (.top 500002) 100))], [(500000, .box [(.sl (List.map cI r6.1.X)), (.sl (List.map cI r6.1.Y)), (.row (.top 500001) 94)]), (500001, .row 94 [] (List.map (cS cB) r6.1.On)), (500002, .row 100 [] (List.map c_Segment x4800))]⟩)) (sheetmetalref01_Outline_l6 r6) (0, []) x4800 (by kernel_rfl) (subR_prep [] [(5, 500000), (6, 500002), (700101, 500001)] (by kernel_rfl) rfl rfl (by kernel_rfl)) hx4800 ?_ ?_ ?_
  ·intro s3203 r h
   refine sem_seq (by kernel_rfl) ?_
   refine z7 (by kernel_rfl) ?_
   refine evs_run 3 (by kernel_rfl) ?_
   refine evs_op (st_len (c := cI) (l := r6.1.Y) (x := (.sl (List.map cI r6.1.Y))) (by kernel_rfl) (by kernel_rfl)) ?_
   refine z1 1 ⟨[(5, (.ptr 500000 0)), (6, (.row (.top 500002) 100)), (7, (vI s3203.1)), (27, (vB (decide (s3203.1 < (r6.1.Y.length : Int)))))], [(500000, .box [(.sl (List.map cI r6.1.X)), (.sl (List.map cI r6.1.Y)), (.row (.top 500001) 94)]), (500001, .row 94 [] (List.map (cS cB) r6.1.On)), (500002, .row 100 [] (List.map c_Segment s3203.2))]⟩ (by kernel_rfl) ?_
   refine sem_cond (decide (s3203.1 < (r6.1.Y.length : Int))) (by kernel_rfl) (by kernel_rfl) (fun hb => ?_) (fun hb => ?_)
   ·replace h := iteT hb h
    refine z4 ⟨[(5, (.ptr 500000 0)), (6, (.row (.top 500002) 100)), (7, (vI s3203.1))], [(500000, .box [(.sl (List.map cI r6.1.X)), (.sl (List.map cI r6.1.Y)), (.row (.top 500001) 94)]), (500001, .row 94 [] (List.map (cS cB) r6.1.On)), (500002, .row 100 [] (List.map c_Segment s3203.2))]⟩ (by kernel_rfl) ?_
    refine sem_seq (by kernel_rfl) ?_
    refine sem_block (by kernel_rfl) ?_
    refine z3 1 ⟨[(5, (.ptr 500000 0)), (6, (.row (.top 500002) 100)), (7, (vI s3203.1)), (8, (vI 0))], [(500000, .box [(.sl (List.map cI r6.1.X)), (.sl (List.map cI r6.1.Y)), (.row (.top 500001) 94)]), (500001, .row 94 [] (List.map (cS cB) r6.1.On)), (500002, .row 100 [] (List.map c_Segment s3203.2))]⟩ (by kernel_rfl) ?_
    refine z3 1 ⟨[(5, (.ptr 500000 0)), (6, (.row (.top 500002) 100)), (7, (vI s3203.1)), (8, (vI 0)), (9, (vI 0))], [(500000, .box [(.sl (List.map cI r6.1.X)), (.sl (List.map cI r6.1.Y)), (.row (.top 500001) 94)]), (500001, .row 94 [] (List.map (cS cB) r6.1.On)), (500002, .row 100 [] (List.map c_Segment s3203.2))]⟩ (by kernel_rfl) ?_
    refine sem_block (by kernel_rfl) ?_
    obtain ⟨x4799, hx4799, h⟩ := bindS h
    refine sem_loopS (fun (s4534 : Int × Int × (List Segment)) => ⟨[(5, (.ptr 500000 0)), (6, (.row (.top 500002) 100)), (7, (vI s3203.1)), (8, (vI s4534.1)), (9, (vI s4534.2.1))], [(500000, .box [(.sl (List.map cI r6.1.X)), (.sl (List.map cI r6.1.Y)), (.row (.top 500001) 94)]), (500001, .row 94 [] (List.map (cS cB) r6.1.On)), (500002, .row 100 [] (List.map c_Segment s4534.2.2))]⟩) (fun (x4799 : (List Segment)) => (.exit 2, ⟨[(5, (.ptr 500000 0)), (6, (.row (.top 500002) 100)), (7, (vI s3203.1))], [(500000, .box [(.sl (List.map cI r6.1.X)), (.sl (List.map cI r6.1.Y)), (.row (.top 500001) 94)]), (500001, .row 94 [] (List.map (cS cB) r6.1.On)), (500002, .row 100 [] (List.map c_Segment x4799))]⟩)) (sheetmetalref01_Outline_l5 r6 s3203) (0, 0, s3203.2) x4799 (by kernel_rfl) (here (by kernel_rfl)) hx4799 ?_ ?_ ?_
    ·intro s4534 r h
     refine sem_seq (by kernel_rfl) ?_
     refine z7 (by kernel_rfl) ?_
     refine evs_run 3 (by kernel_rfl) ?_
     refine evs_op (st_len (c := cI) (l := r6.1.X) (x := (.sl (List.map cI r6.1.X))) (by kernel_rfl) (by kernel_rfl)) ?_
     refine z1 1 ⟨[(5, (.ptr 500000 0)), (6, (.row (.top 500002) 100)), (7, (vI s3203.1)), (8, (vI s4534.1)), (9, (vI s4534.2.1)), (34, (vB (decide (s4534.2.1 < (r6.1.X.length : Int)))))], [(500000, .box [(.sl (List.map cI r6.1.X)), (.sl (List.map cI r6.1.Y)), (.row (.top 500001) 94)]), (500001, .row 94 [] (List.map (cS cB) r6.1.On)), (500002, .row 100 [] (List.map c_Segment s4534.2.2))]⟩ (by kernel_rfl) ?_
     refine sem_cond (decide (s4534.2.1 < (r6.1.X.length : Int))) (by kernel_rfl) (by kernel_rfl) (fun hb => ?_) (fun hb => ?_)
     ·replace h := iteT hb h
      refine z4 ⟨[(5, (.ptr 500000 0)), (6, (.row (.top 500002) 100)), (7, (vI s3203.1)), (8, (vI s4534.1)), (9, (vI s4534.2.1))], [(500000, .box [(.sl (List.map cI r6.1.X)), (.sl (List.map cI r6.1.Y)), (.row (.top 500001) 94)]), (500001, .row 94 [] (List.map (cS cB) r6.1.On)), (500002, .row 100 [] (List.map c_Segment s4534.2.2))]⟩ (by kernel_rfl) ?_
      refine sem_seq (by kernel_rfl) ?_
      refine sem_block (by kernel_rfl) ?_
      refine z3 1 ⟨[(5, (.ptr 500000 0)), (6, (.row (.top 500002) 100)), (7, (vI s3203.1)), (8, (vI s4534.1)), (9, (vI s4534.2.1)), (10, (vI 0))], [(500000, .box [(.sl (List.map cI r6.1.X)), (.sl (List.map cI r6.1.Y)), (.row (.top 500001) 94)]), (500001, .row 94 [] (List.map (cS cB) r6.1.On)), (500002, .row 100 [] (List.map c_Segment s4534.2.2))]⟩ (by kernel_rfl) ?_
      refine sem_seqJ (fun (j4738 : Int) => ⟨[(5, (.ptr 500000 0)), (6, (.row (.top 500002) 100)), (7, (vI s3203.1)), (8, (vI s4534.1)), (9, (vI s4534.2.1)), (10, (vI j4738))], [(500000, .box [(.sl (List.map cI r6.1.X)), (.sl (List.map cI r6.1.Y)), (.row (.top 500001) 94)]), (500001, .row 94 [] (List.map (cS cB) r6.1.On)), (500002, .row 100 [] (List.map c_Segment s4534.2.2))]⟩) (sheetmetalref01_Outline_k4 r6 s3203 s4534) r (by kernel_rfl) (fun j4738 h => ?_) ?_
      ·refine sem_seqJ (fun (j4744 : Int) => ⟨[(5, (.ptr 500000 0)), (6, (.row (.top 500002) 100)), (7, (vI s3203.1)), (8, (vI s4534.1)), (9, (vI s4534.2.1)), (10, (vI j4744))], [(500000, .box [(.sl (List.map cI r6.1.X)), (.sl (List.map cI r6.1.Y)), (.row (.top 500001) 94)]), (500001, .row 94 [] (List.map (cS cB) r6.1.On)), (500002, .row 100 [] (List.map c_Segment s4534.2.2))]⟩) (sheetmetalref01_Outline_k3 r6 s3203 s4534) r (by kernel_rfl) (fun j4744 h => ?_) ?_
       ·refine sem_seqJ (fun (j4750 : (List Segment)) => ⟨[(5, (.ptr 500000 0)), (6, (.row (.top 500002) 100)), (7, (vI s3203.1)), (8, (vI s4534.1)), (9, (vI s4534.2.1)), (10, (vI j4744))], [(500000, .box [(.sl (List.map cI r6.1.X)), (.sl (List.map cI r6.1.Y)), (.row (.top 500001) 94)]), (500001, .row 94 [] (List.map (cS cB) r6.1.On)), (500002, .row 100 [] (List.map c_Segment j4750))]⟩) (sheetmetalref01_Outline_k2 r6 s3203 s4534 j4744) r (by kernel_rfl) (fun j4750 h => ?_) ?_
        ·refine sem_seqJ (fun (j4767 : (List Segment)) => ⟨[(5, (.ptr 500000 0)), (6, (.row (.top 500002) 100)), (7, (vI s3203.1)), (9, (vI s4534.2.1)), (10, (vI j4744))], [(500000, .box [(.sl (List.map cI r6.1.X)), (.sl (List.map cI r6.1.Y)), (.row (.top 500001) 94)]), (500001, .row 94 [] (List.map (cS cB) r6.1.On)), (500002, .row 100 [] (List.map c_Segment j4767))]⟩) (sheetmetalref01_Outline_k1 s4534 j4744) r (by kernel_rfl) (fun j4767 h => ?_) ?_
         ·refine sem_region (by kernel_rfl) ?_
          refine z6 2 (by kernel_rfl) (fun τ hτ => ?_)
          refine bl_normal ?_
          refine th_normalS hτ ⟨[(5, (.ptr 500000 0)), (6, (.row (.top 500002) 100)), (7, (vI s3203.1)), (8, (vI j4744)), (9, (vI s4534.2.1))], [(500000, .box [(.sl (List.map cI r6.1.X)), (.sl (List.map cI r6.1.Y)), (.row (.top 500001) 94)]), (500001, .row 94 [] (List.map (cS cB) r6.1.On)), (500002, .row 100 [] (List.map c_Segment j4767))]⟩ (here (by kernel_rfl)) ?_
          refine sem_region (by kernel_rfl) ?_
          refine z6 3 (by kernel_rfl) (fun τ hτ => ?_)
          obtain rfl := Option.some.inj h
          exact lk_nextS hτ (here (by kernel_rfl))
         refine sem_seq (by kernel_rfl) ?_
         obtain ⟨j4768, hj4768, h⟩ := bindS h
         refine sem_regionC ⟨[(5, (.ptr 500000 0)), (6, (.row (.top 500002) 100)), (7, (vI s3203.1)), (9, (vI s4534.2.1)), (10, (vI j4744)), (86, (vB j4768))], [(500000, .box [(.sl (List.map cI r6.1.X)), (.sl (List.map cI r6.1.Y)), (.row (.top 500001) 94)]), (500001, .row 94 [] (List.map (cS cB) r6.1.On)), (500002, .row 100 [] (List.map c_Segment j4750))]⟩ (by kernel_rfl) ?_ (fun τ hτ => ?_)
         ·replace h := hj4768
          refine evs_run 3 (by kernel_rfl) ?_
          refine evs_split (j4744 != 0) (fun b0 => ⟨[(5, (.ptr 500000 0)), (6, (.row (.top 500002) 100)), (7, (vI s3203.1)), (8, (vI s4534.1)), (9, (vI s4534.2.1)), (10, (vI j4744)), (82, (vB b0))], [(500000, .box [(.sl (List.map cI r6.1.X)), (.sl (List.map cI r6.1.Y)), (.row (.top 500001) 94)]), (500001, .row 94 [] (List.map (cS cB) r6.1.On)), (500002, .row 100 [] (List.map c_Segment j4750))]⟩) (by kernel_rfl) (fun hb => ?_) (fun hb => ?_)
          ·replace h := iteT hb h
           refine z6 4 (by kernel_rfl) (fun τ hτ => ?_)
           obtain rfl := Option.some.inj h
           exact leafC hτ (here (by kernel_rfl))
          ·replace h := iteF hb h
           refine z6 4 (by kernel_rfl) (fun τ hτ => ?_)
           obtain rfl := Option.some.inj h
           exact leafC hτ (here (by kernel_rfl))
         refine th_normalS hτ ⟨[(5, (.ptr 500000 0)), (6, (.row (.top 500002) 100)), (7, (vI s3203.1)), (9, (vI s4534.2.1)), (10, (vI j4744)), (86, (vB j4768))], [(500000, .box [(.sl (List.map cI r6.1.X)), (.sl (List.map cI r6.1.Y)), (.row (.top 500001) 94)]), (500001, .row 94 [] (List.map (cS cB) r6.1.On)), (500002, .row 100 [] (List.map c_Segment j4750))]⟩ (here (by kernel_rfl)) ?_
         refine sem_cond j4768 (by kernel_rfl) (by kernel_rfl) (fun hb => ?_) (fun hb => ?_)
         ·replace h := iteT hb h
          refine sem_drawN [] [] [] [] [] 24 (by kernel_rfl) (by kernel_rfl) (by kernel_rfl) ?_
          refine evd_run 4 (by kernel_rfl) ?_
          obtain ⟨x4779, hx4779, h⟩ := bindS h
          refine evd_val (by kernel_rfl) (st_idx (c := cI) (l := r6.1.X) (i := s4534.2.1) (kd := .i64) (sz := 1) (by kernel_rfl) hx4779 rfl) (by kernel_rfl) (by kernel_rfl) ?_
          refine evd_run 4 (by kernel_rfl) ?_
          obtain ⟨x4780, hx4780, h⟩ := bindS h
          refine evd_val (by kernel_rfl) (st_idx (c := cI) (l := r6.1.Y) (i := s3203.1) (kd := .i64) (sz := 1) (by kernel_rfl) hx4780 rfl) (by kernel_rfl) (by kernel_rfl) ?_
          refine evd_run 5 (by kernel_rfl) ?_
          obtain ⟨x4781, hx4781, h⟩ := bindS h
          refine evd_val (by kernel_rfl) (st_idx (c := cI) (l := r6.1.X) (i := (iadd s4534.2.1 1)) (kd := .i64) (sz := 1) (by kernel_rfl) hx4781 rfl) (by kernel_rfl) (by kernel_rfl) ?_
          refine evd_run 4 (by kernel_rfl) ?_
          obtain ⟨x4782, hx4782, h⟩ := bindS h
          refine evd_val (by kernel_rfl) (st_idx (c := cI) (l := r6.1.Y) (i := s3203.1) (kd := .i64) (sz := 1) (by kernel_rfl) hx4782 rfl) (by kernel_rfl) (by kernel_rfl) ?_
          refine evd_run 3 (by kernel_rfl) ?_
          refine evd_end (by kernel_rfl) ?_
          obtain ⟨l4783, hl4783, h⟩ := bindS h
          refine evo_op (st_app (c := c_Segment) (l := j4750) (l2 := [(Segment.mk x4779 x4780 x4781 x4782)]) (x := (.sl (List.map c_Segment [(Segment.mk x4779 x4780 x4781 x4782)]))) (g := 500002) (e := 100) (sz := 4) (d := 111) (by kernel_rfl) (by kernel_rfl) (by kernel_rfl) (by kernel_rfl) (fun _ => rfl) rfl hl4783) ?_
          refine evo_run 1 (by kernel_rfl) ?_
          refine evo_endS (by kernel_rfl) (fun τ hτ => ?_)
          exact jk_normal l4783 h hτ (here (by kernel_rfl))
         ·replace h := iteF hb h
          refine sem_skipS (by kernel_rfl) (fun τ hτ => ?_)
          exact jk_normal j4750 h hτ (here (by kernel_rfl))
        refine sem_seq (by kernel_rfl) ?_
        obtain ⟨j4784, hj4784, h⟩ := bindS h
        refine sem_regionC ⟨[(5, (.ptr 500000 0)), (6, (.row (.top 500002) 100)), (7, (vI s3203.1)), (8, (vI s4534.1)), (9, (vI s4534.2.1)), (10, (vI j4744)), (67, (vB j4784))], [(500000, .box [(.sl (List.map cI r6.1.X)), (.sl (List.map cI r6.1.Y)), (.row (.top 500001) 94)]), (500001, .row 94 [] (List.map (cS cB) r6.1.On)), (500002, .row 100 [] (List.map c_Segment s4534.2.2))]⟩ (by kernel_rfl) ?_ (fun τ hτ => ?_)
        ·replace h := hj4784
         refine evs_run 3 (by kernel_rfl) ?_
         refine evs_split (j4744 != 0) (fun b0 => ⟨[(5, (.ptr 500000 0)), (6, (.row (.top 500002) 100)), (7, (vI s3203.1)), (8, (vI s4534.1)), (9, (vI s4534.2.1)), (10, (vI j4744)), (63, (vB b0))], [(500000, .box [(.sl (List.map cI r6.1.X)), (.sl (List.map cI r6.1.Y)), (.row (.top 500001) 94)]), (500001, .row 94 [] (List.map (cS cB) r6.1.On)), (500002, .row 100 [] (List.map c_Segment s4534.2.2))]⟩) (by kernel_rfl) (fun hb => ?_) (fun hb => ?_)
         ·replace h := iteT hb h
          refine z6 4 (by kernel_rfl) (fun τ hτ => ?_)
          obtain rfl := Option.some.inj h
          exact leafC hτ (here (by kernel_rfl))
         ·replace h := iteF hb h
          refine z6 4 (by kernel_rfl) (fun τ hτ => ?_)
          obtain rfl := Option.some.inj h
          exact leafC hτ (here (by kernel_rfl))
        refine th_normalS hτ ⟨[(5, (.ptr 500000 0)), (6, (.row (.top 500002) 100)), (7, (vI s3203.1)), (8, (vI s4534.1)), (9, (vI s4534.2.1)), (10, (vI j4744)), (67, (vB j4784))], [(500000, .box [(.sl (List.map cI r6.1.X)), (.sl (List.map cI r6.1.Y)), (.row (.top 500001) 94)]), (500001, .row 94 [] (List.map (cS cB) r6.1.On)), (500002, .row 100 [] (List.map c_Segment s4534.2.2))]⟩ (here (by kernel_rfl)) ?_
        refine sem_cond j4784 (by kernel_rfl) (by kernel_rfl) (fun hb => ?_) (fun hb => ?_)
        ·replace h := iteT hb h
         refine sem_region (by kernel_rfl) ?_
         refine evs_run 2 (by kernel_rfl) ?_
         refine evs_op (st_len (c := c_Segment) (l := s4534.2.2) (x := (.row (.top 500002) 100)) (by kernel_rfl) (by kernel_rfl)) ?_
         refine evs_run 5 (by kernel_rfl) ?_
         obtain ⟨x4787, hx4787, h⟩ := bindS h
         refine evs_op (st_idx (c := cI) (l := r6.1.X) (i := (iadd s4534.2.1 1)) (kd := .i64) (sz := 1) (by kernel_rfl) hx4787 rfl) ?_
         refine evs_run 1 (by kernel_rfl) ?_
         obtain ⟨x4788, hx4788, h⟩ := bindS h
         refine evs_op (st_idxO (c := c_Segment) (l := s4534.2.2) (i := (isub (s4534.2.2.length : Int) 1)) (kd := .i64) (kk := (.top 500002)) (e := 100) (sz := 4) (by kernel_rfl) (by kernel_rfl) hx4788 rfl) ?_
         refine evs_run 1 (by kernel_rfl) ?_
         refine evs_op (st_stO (c := c_Segment) (l := s4534.2.2) (i := (Int.toNat (isub (s4534.2.2.length : Int) 1))) (x := x4788) (x' := (Segment.mk x4788.X1 x4788.Y1 x4787 x4788.Y2)) (v := (vI x4787)) (agg := false) (sz := 1) (kk := (.top 500002)) (e := 100) (off := 2) (J := []) (o := .row 100 [] (List.map c_Segment (List.set s4534.2.2 (Int.toNat (isub (s4534.2.2.length : Int) 1)) (Segment.mk x4788.X1 x4788.Y1 x4787 x4788.Y2)))) (by kernel_rfl) (by kernel_rfl) (by kernel_rfl) ((idxS hx4788).2) (by kernel_rfl) (by kernel_rfl) (by kernel_rfl)) ?_
         refine evs_endS (by kernel_rfl) (fun τ hτ => ?_)
         exact jk_normal (List.set s4534.2.2 (Int.toNat (isub (s4534.2.2.length : Int) 1)) (Segment.mk x4788.X1 x4788.Y1 x4787 x4788.Y2)) h hτ (here (by kernel_rfl))
        ·replace h := iteF hb h
         refine sem_skipS (by kernel_rfl) (fun τ hτ => ?_)
         exact jk_normal s4534.2.2 h hτ (here (by kernel_rfl))
       refine sem_seq (by kernel_rfl) ?_
       obtain ⟨j4791, hj4791, h⟩ := bindS h
       refine sem_regionC ⟨[(5, (.ptr 500000 0)), (6, (.row (.top 500002) 100)), (7, (vI s3203.1)), (8, (vI s4534.1)), (9, (vI s4534.2.1)), (10, (vI j4738)), (60, (vB j4791))], [(500000, .box [(.sl (List.map cI r6.1.X)), (.sl (List.map cI r6.1.Y)), (.row (.top 500001) 94)]), (500001, .row 94 [] (List.map (cS cB) r6.1.On)), (500002, .row 100 [] (List.map c_Segment s4534.2.2))]⟩ (by kernel_rfl) ?_ (fun τ hτ => ?_)
       ·replace h := hj4791
        refine evs_run 3 (by kernel_rfl) ?_
        obtain ⟨r4792, hr4792, h⟩ := bindS h
        refine evs_callP [500001] (by kernel_rfl) (W.sheetmetalref01_Grid_At_ok hr4792) (by kernel_rfl) (.inr rfl) (by kernel_rfl) ?_
        refine evs_run 2 (by kernel_rfl) ?_
        refine evs_split r4792 (fun b0 => ⟨[(5, (.ptr 500000 0)), (6, (.row (.top 500002) 100)), (7, (vI s3203.1)), (8, (vI s4534.1)), (9, (vI s4534.2.1)), (10, (vI j4738)), (54, (vB (!b0)))], [(500000, .box [(.sl (List.map cI r6.1.X)), (.sl (List.map cI r6.1.Y)), (.row (.top 500001) 94)]), (500001, .row 94 [] (List.map (cS cB) r6.1.On)), (500002, .row 100 [] (List.map c_Segment s4534.2.2))]⟩) (by kernel_rfl) (fun hb => ?_) (fun hb => ?_)
        ·replace h := iteT hb h
         refine z6 6 (by kernel_rfl) (fun τ hτ => ?_)
         obtain rfl := Option.some.inj h
         exact leafC hτ (here (by kernel_rfl))
        ·replace h := iteF hb h
         refine evs_run 4 (by kernel_rfl) ?_
         obtain ⟨r4793, hr4793, h⟩ := bindS h
         refine evs_callP [500001] (by kernel_rfl) (W.sheetmetalref01_Grid_At_ok hr4793) (by kernel_rfl) (.inr rfl) (by kernel_rfl) ?_
         refine z6 1 (by kernel_rfl) (fun τ hτ => ?_)
         obtain rfl := Option.some.inj h
         exact leafC hτ (here (by kernel_rfl))
       refine th_normalS hτ ⟨[(5, (.ptr 500000 0)), (6, (.row (.top 500002) 100)), (7, (vI s3203.1)), (8, (vI s4534.1)), (9, (vI s4534.2.1)), (10, (vI j4738)), (60, (vB j4791))], [(500000, .box [(.sl (List.map cI r6.1.X)), (.sl (List.map cI r6.1.Y)), (.row (.top 500001) 94)]), (500001, .row 94 [] (List.map (cS cB) r6.1.On)), (500002, .row 100 [] (List.map c_Segment s4534.2.2))]⟩ (here (by kernel_rfl)) ?_
       refine sem_cond j4791 (by kernel_rfl) (by kernel_rfl) (fun hb => ?_) (fun hb => ?_)
       ·replace h := iteT hb h
        refine sem_region (by kernel_rfl) ?_
        refine z6 1 (by kernel_rfl) (fun τ hτ => ?_)
        exact jk_normal (-1) h hτ (here (by kernel_rfl))
       ·replace h := iteF hb h
        refine sem_skipS (by kernel_rfl) (fun τ hτ => ?_)
        exact jk_normal j4738 h hτ (here (by kernel_rfl))
      refine sem_seq (by kernel_rfl) ?_
      obtain ⟨j4796, hj4796, h⟩ := bindS h
      refine sem_regionC ⟨[(5, (.ptr 500000 0)), (6, (.row (.top 500002) 100)), (7, (vI s3203.1)), (8, (vI s4534.1)), (9, (vI s4534.2.1)), (10, (vI 0)), (48, (vB j4796))], [(500000, .box [(.sl (List.map cI r6.1.X)), (.sl (List.map cI r6.1.Y)), (.row (.top 500001) 94)]), (500001, .row 94 [] (List.map (cS cB) r6.1.On)), (500002, .row 100 [] (List.map c_Segment s4534.2.2))]⟩ (by kernel_rfl) ?_ (fun τ hτ => ?_)
      ·replace h := hj4796
       refine evs_run 3 (by kernel_rfl) ?_
       obtain ⟨r4797, hr4797, h⟩ := bindS h
       refine evs_callP [500001] (by kernel_rfl) (W.sheetmetalref01_Grid_At_ok hr4797) (by kernel_rfl) (.inr rfl) (by kernel_rfl) ?_
       refine evs_run 1 (by kernel_rfl) ?_
       refine evs_split r4797 (fun b0 => ⟨[(5, (.ptr 500000 0)), (6, (.row (.top 500002) 100)), (7, (vI s3203.1)), (8, (vI s4534.1)), (9, (vI s4534.2.1)), (10, (vI 0)), (41, (vB b0))], [(500000, .box [(.sl (List.map cI r6.1.X)), (.sl (List.map cI r6.1.Y)), (.row (.top 500001) 94)]), (500001, .row 94 [] (List.map (cS cB) r6.1.On)), (500002, .row 100 [] (List.map c_Segment s4534.2.2))]⟩) (by kernel_rfl) (fun hb => ?_) (fun hb => ?_)
       ·replace h := iteT hb h
        refine evs_run 4 (by kernel_rfl) ?_
        obtain ⟨r4798, hr4798, h⟩ := bindS h
        refine evs_callP [500001] (by kernel_rfl) (W.sheetmetalref01_Grid_At_ok hr4798) (by kernel_rfl) (.inr rfl) (by kernel_rfl) ?_
        refine z6 2 (by kernel_rfl) (fun τ hτ => ?_)
        obtain rfl := Option.some.inj h
        exact leafC hτ (here (by kernel_rfl))
       ·replace h := iteF hb h
        refine z6 7 (by kernel_rfl) (fun τ hτ => ?_)
        obtain rfl := Option.some.inj h
        exact leafC hτ (here (by kernel_rfl))
      refine th_normalS hτ ⟨[(5, (.ptr 500000 0)), (6, (.row (.top 500002) 100)), (7, (vI s3203.1)), (8, (vI s4534.1)), (9, (vI s4534.2.1)), (10, (vI 0)), (48, (vB j4796))], [(500000, .box [(.sl (List.map cI r6.1.X)), (.sl (List.map cI r6.1.Y)), (.row (.top 500001) 94)]), (500001, .row 94 [] (List.map (cS cB) r6.1.On)), (500002, .row 100 [] (List.map c_Segment s4534.2.2))]⟩ (here (by kernel_rfl)) ?_
      refine sem_cond j4796 (by kernel_rfl) (by kernel_rfl) (fun hb => ?_) (fun hb => ?_)
      ·replace h := iteT hb h
       refine sem_region (by kernel_rfl) ?_
       refine z6 1 (by kernel_rfl) (fun τ hτ => ?_)
       exact jk_normal 1 h hτ (here (by kernel_rfl))
      ·replace h := iteF hb h
       refine sem_skipS (by kernel_rfl) (fun τ hτ => ?_)
       exact jk_normal 0 h hτ (here (by kernel_rfl))
     ·replace h := iteF hb h
      refine sem_exitS 2 (by kernel_rfl) rfl (fun τ hτ => ?_)
      refine th_exit ?_
      obtain rfl := Option.some.inj h
      exact lk_outS hτ rfl (here (by kernel_rfl))
    ·intro x
     rfl
    ·intro τ hτ
     refine bl_hit (by kernel_rfl) ?_
     refine bl_normal ?_
     refine th_normalS hτ ⟨[(5, (.ptr 500000 0)), (6, (.row (.top 500002) 100)), (7, (vI s3203.1))], [(500000, .box [(.sl (List.map cI r6.1.X)), (.sl (List.map cI r6.1.Y)), (.row (.top 500001) 94)]), (500001, .row 94 [] (List.map (cS cB) r6.1.On)), (500002, .row 100 [] (List.map c_Segment x4799))]⟩ (here (by kernel_rfl)) ?_
     refine sem_region (by kernel_rfl) ?_
     refine z6 3 (by kernel_rfl) (fun τ hτ => ?_)
     obtain rfl := Option.some.inj h
     exact lk_nextS hτ (here (by kernel_rfl))
   ·replace h := iteF hb h
    refine sem_exitS 0 (by kernel_rfl) rfl (fun τ hτ => ?_)
    refine th_exit ?_
    obtain rfl := Option.some.inj h
    exact lk_outS hτ rfl (here (by kernel_rfl))
  ·intro x
   rfl
  ·intro τ hτ
   refine bl_hit (by kernel_rfl) ?_
   refine th_normalS hτ ⟨[(5, (.ptr 500000 0)), (6, (.row (.top 500002) 100))], [(500000, .box [(.sl (List.map cI r6.1.X)), (.sl (List.map cI r6.1.Y)), (.row (.top 500001) 94)]), (500001, .row 94 [] (List.map (cS cB) r6.1.On)), (500002, .row 100 [] (List.map c_Segment x4800))]⟩ (here (by kernel_rfl)) ?_
   refine sem_seq (by kernel_rfl) ?_
   refine z3 1 ⟨[(5, (.ptr 500000 0)), (6, (.row (.top 500002) 100)), (11, (vI 0))], [(500000, .box [(.sl (List.map cI r6.1.X)), (.sl (List.map cI r6.1.Y)), (.row (.top 500001) 94)]), (500001, .row 94 [] (List.map (cS cB) r6.1.On)), (500002, .row 100 [] (List.map c_Segment x4800))]⟩ (by kernel_rfl) ?_
   refine sem_block (by kernel_rfl) ?_
   obtain ⟨x9594, hx9594, h⟩ := bindS h
   refine sem_loopS (fun (s7997 : Int × (List Segment)) => ⟨[(5, (.ptr 500000 0)), (6, (.row (.top 500002) 100)), (11, (vI s7997.1))], [(500000, .box [(.sl (List.map cI r6.1.X)), (.sl (List.map cI r6.1.Y)), (.row (.top 500001) 94)]), (500001, .row 94 [] (List.map (cS cB) r6.1.On)), (500002, .row 100 [] (List.map c_Segment s7997.2))]⟩) (fun (x9594 : (List Segment)) => (.exit 4, ⟨[(6, (.row (.top 500000) 100))], [(500000, .row 100 [] (List.map c_Segment x9594))]⟩)) (sheetmetalref01_Outline_l12 r6) (0, x4800) x9594 (by kernel_rfl) (here (by kernel_rfl)) hx9594 ?_ ?_ ?_
   ·intro s7997 r h
    refine sem_seq (by kernel_rfl) ?_
    refine z7 (by kernel_rfl) ?_
    refine evs_run 3 (by kernel_rfl) ?_
    refine evs_op (st_len (c := cI) (l := r6.1.X) (x := (.sl (List.map cI r6.1.X))) (by kernel_rfl) (by kernel_rfl)) ?_
    refine z1 1 ⟨[(5, (.ptr 500000 0)), (6, (.row (.top 500002) 100)), (11, (vI s7997.1)), (117, (vB (decide (s7997.1 < (r6.1.X.length : Int)))))], [(500000, .box [(.sl (List.map cI r6.1.X)), (.sl (List.map cI r6.1.Y)), (.row (.top 500001) 94)]), (500001, .row 94 [] (List.map (cS cB) r6.1.On)), (500002, .row 100 [] (List.map c_Segment s7997.2))]⟩ (by kernel_rfl) ?_
    refine sem_cond (decide (s7997.1 < (r6.1.X.length : Int))) (by kernel_rfl) (by kernel_rfl) (fun hb => ?_) (fun hb => ?_)
    ·replace h := iteT hb h
     refine z4 ⟨[(5, (.ptr 500000 0)), (6, (.row (.top 500002) 100)), (11, (vI s7997.1))], [(500000, .box [(.sl (List.map cI r6.1.X)), (.sl (List.map cI r6.1.Y)), (.row (.top 500001) 94)]), (500001, .row 94 [] (List.map (cS cB) r6.1.On)), (500002, .row 100 [] (List.map c_Segment s7997.2))]⟩ (by kernel_rfl) ?_
     refine sem_seq (by kernel_rfl) ?_
     refine sem_block (by kernel_rfl) ?_
     refine z3 1 ⟨[(5, (.ptr 500000 0)), (6, (.row (.top 500002) 100)), (11, (vI s7997.1)), (12, (vI 0))], [(500000, .box [(.sl (List.map cI r6.1.X)), (.sl (List.map cI r6.1.Y)), (.row (.top 500001) 94)]), (500001, .row 94 [] (List.map (cS cB) r6.1.On)), (500002, .row 100 [] (List.map c_Segment s7997.2))]⟩ (by kernel_rfl) ?_
     refine z3 1 ⟨[(5, (.ptr 500000 0)), (6, (.row (.top 500002) 100)), (11, (vI s7997.1)), (12, (vI 0)), (13, (vI 0))], [(500000, .box [(.sl (List.map cI r6.1.X)), (.sl (List.map cI r6.1.Y)), (.row (.top 500001) 94)]), (500001, .row 94 [] (List.map (cS cB) r6.1.On)), (500002, .row 100 [] (List.map c_Segment s7997.2))]⟩ (by kernel_rfl) ?_
     refine sem_block (by kernel_rfl) ?_
     obtain ⟨x9593, hx9593, h⟩ := bindS h
     refine sem_loopS (fun (s9328 : Int × Int × (List Segment)) => ⟨[(5, (.ptr 500000 0)), (6, (.row (.top 500002) 100)), (11, (vI s7997.1)), (12, (vI s9328.1)), (13, (vI s9328.2.1))], [(500000, .box [(.sl (List.map cI r6.1.X)), (.sl (List.map cI r6.1.Y)), (.row (.top 500001) 94)]), (500001, .row 94 [] (List.map (cS cB) r6.1.On)), (500002, .row 100 [] (List.map c_Segment s9328.2.2))]⟩) (fun (x9593 : (List Segment)) => (.exit 6, ⟨[(5, (.ptr 500000 0)), (6, (.row (.top 500002) 100)), (11, (vI s7997.1))], [(500000, .box [(.sl (List.map cI r6.1.X)), (.sl (List.map cI r6.1.Y)), (.row (.top 500001) 94)]), (500001, .row 94 [] (List.map (cS cB) r6.1.On)), (500002, .row 100 [] (List.map c_Segment x9593))]⟩)) (sheetmetalref01_Outline_l11 r6 s7997) (0, 0, s7997.2) x9593 (by kernel_rfl) (here (by kernel_rfl)) hx9593 ?_ ?_ ?_
     ·intro s9328 r h
      refine sem_seq (by kernel_rfl) ?_
      refine z7 (by kernel_rfl) ?_
      refine evs_run 3 (by kernel_rfl) ?_
      refine evs_op (st_len (c := cI) (l := r6.1.Y) (x := (.sl (List.map cI r6.1.Y))) (by kernel_rfl) (by kernel_rfl)) ?_
      refine z1 1 ⟨[(5, (.ptr 500000 0)), (6, (.row (.top 500002) 100)), (11, (vI s7997.1)), (12, (vI s9328.1)), (13, (vI s9328.2.1)), (124, (vB (decide (s9328.2.1 < (r6.1.Y.length : Int)))))], [(500000, .box [(.sl (List.map cI r6.1.X)), (.sl (List.map cI r6.1.Y)), (.row (.top 500001) 94)]), (500001, .row 94 [] (List.map (cS cB) r6.1.On)), (500002, .row 100 [] (List.map c_Segment s9328.2.2))]⟩ (by kernel_rfl) ?_
      refine sem_cond (decide (s9328.2.1 < (r6.1.Y.length : Int))) (by kernel_rfl) (by kernel_rfl) (fun hb => ?_) (fun hb => ?_)
      ·replace h := iteT hb h
       refine z4 ⟨[(5, (.ptr 500000 0)), (6, (.row (.top 500002) 100)), (11, (vI s7997.1)), (12, (vI s9328.1)), (13, (vI s9328.2.1))], [(500000, .box [(.sl (List.map cI r6.1.X)), (.sl (List.map cI r6.1.Y)), (.row (.top 500001) 94)]), (500001, .row 94 [] (List.map (cS cB) r6.1.On)), (500002, .row 100 [] (List.map c_Segment s9328.2.2))]⟩ (by kernel_rfl) ?_
       refine sem_seq (by kernel_rfl) ?_
       refine sem_block (by kernel_rfl) ?_
       refine z3 1 ⟨[(5, (.ptr 500000 0)), (6, (.row (.top 500002) 100)), (11, (vI s7997.1)), (12, (vI s9328.1)), (13, (vI s9328.2.1)), (14, (vI 0))], [(500000, .box [(.sl (List.map cI r6.1.X)), (.sl (List.map cI r6.1.Y)), (.row (.top 500001) 94)]), (500001, .row 94 [] (List.map (cS cB) r6.1.On)), (500002, .row 100 [] (List.map c_Segment s9328.2.2))]⟩ (by kernel_rfl) ?_
       refine sem_seqJ (fun (j9532 : Int) => ⟨[(5, (.ptr 500000 0)), (6, (.row (.top 500002) 100)), (11, (vI s7997.1)), (12, (vI s9328.1)), (13, (vI s9328.2.1)), (14, (vI j9532))], [(500000, .box [(.sl (List.map cI r6.1.X)), (.sl (List.map cI r6.1.Y)), (.row (.top 500001) 94)]), (500001, .row 94 [] (List.map (cS cB) r6.1.On)), (500002, .row 100 [] (List.map c_Segment s9328.2.2))]⟩) (sheetmetalref01_Outline_k10 r6 s7997 s9328) r (by kernel_rfl) (fun j9532 h => ?_) ?_
       ·refine sem_seqJ (fun (j9538 : Int) => ⟨[(5, (.ptr 500000 0)), (6, (.row (.top 500002) 100)), (11, (vI s7997.1)), (12, (vI s9328.1)), (13, (vI s9328.2.1)), (14, (vI j9538))], [(500000, .box [(.sl (List.map cI r6.1.X)), (.sl (List.map cI r6.1.Y)), (.row (.top 500001) 94)]), (500001, .row 94 [] (List.map (cS cB) r6.1.On)), (500002, .row 100 [] (List.map c_Segment s9328.2.2))]⟩) (sheetmetalref01_Outline_k9 r6 s7997 s9328) r (by kernel_rfl) (fun j9538 h => ?_) ?_
        ·refine sem_seqJ (fun (j9544 : (List Segment)) => ⟨[(5, (.ptr 500000 0)), (6, (.row (.top 500002) 100)), (11, (vI s7997.1)), (12, (vI s9328.1)), (13, (vI s9328.2.1)), (14, (vI j9538))], [(500000, .box [(.sl (List.map cI r6.1.X)), (.sl (List.map cI r6.1.Y)), (.row (.top 500001) 94)]), (500001, .row 94 [] (List.map (cS cB) r6.1.On)), (500002, .row 100 [] (List.map c_Segment j9544))]⟩) (sheetmetalref01_Outline_k8 r6 s7997 s9328 j9538) r (by kernel_rfl) (fun j9544 h => ?_) ?_
         ·refine sem_seqJ (fun (j9561 : (List Segment)) => ⟨[(5, (.ptr 500000 0)), (6, (.row (.top 500002) 100)), (11, (vI s7997.1)), (13, (vI s9328.2.1)), (14, (vI j9538))], [(500000, .box [(.sl (List.map cI r6.1.X)), (.sl (List.map cI r6.1.Y)), (.row (.top 500001) 94)]), (500001, .row 94 [] (List.map (cS cB) r6.1.On)), (500002, .row 100 [] (List.map c_Segment j9561))]⟩) (sheetmetalref01_Outline_k7 s9328 j9538) r (by kernel_rfl) (fun j9561 h => ?_) ?_
          ·refine sem_region (by kernel_rfl) ?_
           refine z6 2 (by kernel_rfl) (fun τ hτ => ?_)
           refine bl_normal ?_
           refine th_normalS hτ ⟨[(5, (.ptr 500000 0)), (6, (.row (.top 500002) 100)), (11, (vI s7997.1)), (12, (vI j9538)), (13, (vI s9328.2.1))], [(500000, .box [(.sl (List.map cI r6.1.X)), (.sl (List.map cI r6.1.Y)), (.row (.top 500001) 94)]), (500001, .row 94 [] (List.map (cS cB) r6.1.On)), (500002, .row 100 [] (List.map c_Segment j9561))]⟩ (here (by kernel_rfl)) ?_
           refine sem_region (by kernel_rfl) ?_
           refine z6 3 (by kernel_rfl) (fun τ hτ => ?_)
           obtain rfl := Option.some.inj h
           exact lk_nextS hτ (here (by kernel_rfl))
          refine sem_seq (by kernel_rfl) ?_
          obtain ⟨j9562, hj9562, h⟩ := bindS h
          refine sem_regionC ⟨[(5, (.ptr 500000 0)), (6, (.row (.top 500002) 100)), (11, (vI s7997.1)), (13, (vI s9328.2.1)), (14, (vI j9538)), (176, (vB j9562))], [(500000, .box [(.sl (List.map cI r6.1.X)), (.sl (List.map cI r6.1.Y)), (.row (.top 500001) 94)]), (500001, .row 94 [] (List.map (cS cB) r6.1.On)), (500002, .row 100 [] (List.map c_Segment j9544))]⟩ (by kernel_rfl) ?_ (fun τ hτ => ?_)
          ·replace h := hj9562
           refine evs_run 3 (by kernel_rfl) ?_
           refine evs_split (j9538 != 0) (fun b0 => ⟨[(5, (.ptr 500000 0)), (6, (.row (.top 500002) 100)), (11, (vI s7997.1)), (12, (vI s9328.1)), (13, (vI s9328.2.1)), (14, (vI j9538)), (172, (vB b0))], [(500000, .box [(.sl (List.map cI r6.1.X)), (.sl (List.map cI r6.1.Y)), (.row (.top 500001) 94)]), (500001, .row 94 [] (List.map (cS cB) r6.1.On)), (500002, .row 100 [] (List.map c_Segment j9544))]⟩) (by kernel_rfl) (fun hb => ?_) (fun hb => ?_)
           ·replace h := iteT hb h
            refine z6 4 (by kernel_rfl) (fun τ hτ => ?_)
            obtain rfl := Option.some.inj h
            exact leafC hτ (here (by kernel_rfl))
           ·replace h := iteF hb h
            refine z6 4 (by kernel_rfl) (fun τ hτ => ?_)
            obtain rfl := Option.some.inj h
            exact leafC hτ (here (by kernel_rfl))
          refine th_normalS hτ ⟨[(5, (.ptr 500000 0)), (6, (.row (.top 500002) 100)), (11, (vI s7997.1)), (13, (vI s9328.2.1)), (14, (vI j9538)), (176, (vB j9562))], [(500000, .box [(.sl (List.map cI r6.1.X)), (.sl (List.map cI r6.1.Y)), (.row (.top 500001) 94)]), (500001, .row 94 [] (List.map (cS cB) r6.1.On)), (500002, .row 100 [] (List.map c_Segment j9544))]⟩ (here (by kernel_rfl)) ?_
          refine sem_cond j9562 (by kernel_rfl) (by kernel_rfl) (fun hb => ?_) (fun hb => ?_)
          ·replace h := iteT hb h
           refine sem_drawN [] [] [] [] [] 24 (by kernel_rfl) (by kernel_rfl) (by kernel_rfl) ?_
           refine evd_run 4 (by kernel_rfl) ?_
           obtain ⟨x9573, hx9573, h⟩ := bindS h
           refine evd_val (by kernel_rfl) (st_idx (c := cI) (l := r6.1.X) (i := s7997.1) (kd := .i64) (sz := 1) (by kernel_rfl) hx9573 rfl) (by kernel_rfl) (by kernel_rfl) ?_
           refine evd_run 4 (by kernel_rfl) ?_
           obtain ⟨x9574, hx9574, h⟩ := bindS h
           refine evd_val (by kernel_rfl) (st_idx (c := cI) (l := r6.1.Y) (i := s9328.2.1) (kd := .i64) (sz := 1) (by kernel_rfl) hx9574 rfl) (by kernel_rfl) (by kernel_rfl) ?_
           refine evd_run 4 (by kernel_rfl) ?_
           obtain ⟨x9575, hx9575, h⟩ := bindS h
           refine evd_val (by kernel_rfl) (st_idx (c := cI) (l := r6.1.X) (i := s7997.1) (kd := .i64) (sz := 1) (by kernel_rfl) hx9575 rfl) (by kernel_rfl) (by kernel_rfl) ?_
           refine evd_run 5 (by kernel_rfl) ?_
           obtain ⟨x9576, hx9576, h⟩ := bindS h
           refine evd_val (by kernel_rfl) (st_idx (c := cI) (l := r6.1.Y) (i := (iadd s9328.2.1 1)) (kd := .i64) (sz := 1) (by kernel_rfl) hx9576 rfl) (by kernel_rfl) (by kernel_rfl) ?_
           refine evd_run 3 (by kernel_rfl) ?_
           refine evd_end (by kernel_rfl) ?_
           obtain ⟨l9577, hl9577, h⟩ := bindS h
           refine evo_op (st_app (c := c_Segment) (l := j9544) (l2 := [(Segment.mk x9573 x9574 x9575 x9576)]) (x := (.sl (List.map c_Segment [(Segment.mk x9573 x9574 x9575 x9576)]))) (g := 500002) (e := 100) (sz := 4) (d := 201) (by kernel_rfl) (by kernel_rfl) (by kernel_rfl) (by kernel_rfl) (fun _ => rfl) rfl hl9577) ?_
           refine evo_run 1 (by kernel_rfl) ?_
           refine evo_endS (by kernel_rfl) (fun τ hτ => ?_)
           exact jk_normal l9577 h hτ (here (by kernel_rfl))
          ·replace h := iteF hb h
           refine sem_skipS (by kernel_rfl) (fun τ hτ => ?_)
           exact jk_normal j9544 h hτ (here (by kernel_rfl))
         refine sem_seq (by kernel_rfl) ?_
         obtain ⟨j9578, hj9578, h⟩ := bindS h
         refine sem_regionC ⟨[(5, (.ptr 500000 0)), (6, (.row (.top 500002) 100)), (11, (vI s7997.1)), (12, (vI s9328.1)), (13, (vI s9328.2.1)), (14, (vI j9538)), (157, (vB j9578))], [(500000, .box [(.sl (List.map cI r6.1.X)), (.sl (List.map cI r6.1.Y)), (.row (.top 500001) 94)]), (500001, .row 94 [] (List.map (cS cB) r6.1.On)), (500002, .row 100 [] (List.map c_Segment s9328.2.2))]⟩ (by kernel_rfl) ?_ (fun τ hτ => ?_)
         ·replace h := hj9578
          refine evs_run 3 (by kernel_rfl) ?_
          refine evs_split (j9538 != 0) (fun b0 => ⟨[(5, (.ptr 500000 0)), (6, (.row (.top 500002) 100)), (11, (vI s7997.1)), (12, (vI s9328.1)), (13, (vI s9328.2.1)), (14, (vI j9538)), (153, (vB b0))], [(500000, .box [(.sl (List.map cI r6.1.X)), (.sl (List.map cI r6.1.Y)), (.row (.top 500001) 94)]), (500001, .row 94 [] (List.map (cS cB) r6.1.On)), (500002, .row 100 [] (List.map c_Segment s9328.2.2))]⟩) (by kernel_rfl) (fun hb => ?_) (fun hb => ?_)
          ·replace h := iteT hb h
           refine z6 4 (by kernel_rfl) (fun τ hτ => ?_)
           obtain rfl := Option.some.inj h
           exact leafC hτ (here (by kernel_rfl))
          ·replace h := iteF hb h
           refine z6 4 (by kernel_rfl) (fun τ hτ => ?_)
           obtain rfl := Option.some.inj h
           exact leafC hτ (here (by kernel_rfl))
         refine th_normalS hτ ⟨[(5, (.ptr 500000 0)), (6, (.row (.top 500002) 100)), (11, (vI s7997.1)), (12, (vI s9328.1)), (13, (vI s9328.2.1)), (14, (vI j9538)), (157, (vB j9578))], [(500000, .box [(.sl (List.map cI r6.1.X)), (.sl (List.map cI r6.1.Y)), (.row (.top 500001) 94)]), (500001, .row 94 [] (List.map (cS cB) r6.1.On)), (500002, .row 100 [] (List.map c_Segment s9328.2.2))]⟩ (here (by kernel_rfl)) ?_
         refine sem_cond j9578 (by kernel_rfl) (by kernel_rfl) (fun hb => ?_) (fun hb => ?_)
         ·replace h := iteT hb h
          refine sem_region (by kernel_rfl) ?_
          refine evs_run 2 (by kernel_rfl) ?_
          refine evs_op (st_len (c := c_Segment) (l := s9328.2.2) (x := (.row (.top 500002) 100)) (by kernel_rfl) (by kernel_rfl)) ?_
          refine evs_run 5 (by kernel_rfl) ?_
          obtain ⟨x9581, hx9581, h⟩ := bindS h
          refine evs_op (st_idx (c := cI) (l := r6.1.Y) (i := (iadd s9328.2.1 1)) (kd := .i64) (sz := 1) (by kernel_rfl) hx9581 rfl) ?_
          refine evs_run 1 (by kernel_rfl) ?_
          obtain ⟨x9582, hx9582, h⟩ := bindS h
          refine evs_op (st_idxO (c := c_Segment) (l := s9328.2.2) (i := (isub (s9328.2.2.length : Int) 1)) (kd := .i64) (kk := (.top 500002)) (e := 100) (sz := 4) (by kernel_rfl) (by kernel_rfl) hx9582 rfl) ?_
          refine evs_run 1 (by kernel_rfl) ?_
          refine evs_op (st_stO (c := c_Segment) (l := s9328.2.2) (i := (Int.toNat (isub (s9328.2.2.length : Int) 1))) (x := x9582) (x' := (Segment.mk x9582.X1 x9582.Y1 x9582.X2 x9581)) (v := (vI x9581)) (agg := false) (sz := 1) (kk := (.top 500002)) (e := 100) (off := 3) (J := []) (o := .row 100 [] (List.map c_Segment (List.set s9328.2.2 (Int.toNat (isub (s9328.2.2.length : Int) 1)) (Segment.mk x9582.X1 x9582.Y1 x9582.X2 x9581)))) (by kernel_rfl) (by kernel_rfl) (by kernel_rfl) ((idxS hx9582).2) (by kernel_rfl) (by kernel_rfl) (by kernel_rfl)) ?_
          refine evs_endS (by kernel_rfl) (fun τ hτ => ?_)
          exact jk_normal (List.set s9328.2.2 (Int.toNat (isub (s9328.2.2.length : Int) 1)) (Segment.mk x9582.X1 x9582.Y1 x9582.X2 x9581)) h hτ (here (by kernel_rfl))
         ·replace h := iteF hb h
          refine sem_skipS (by kernel_rfl) (fun τ hτ => ?_)
          exact jk_normal s9328.2.2 h hτ (here (by kernel_rfl))
        refine sem_seq (by kernel_rfl) ?_
        obtain ⟨j9585, hj9585, h⟩ := bindS h
        refine sem_regionC ⟨[(5, (.ptr 500000 0)), (6, (.row (.top 500002) 100)), (11, (vI s7997.1)), (12, (vI s9328.1)), (13, (vI s9328.2.1)), (14, (vI j9532)), (150, (vB j9585))], [(500000, .box [(.sl (List.map cI r6.1.X)), (.sl (List.map cI r6.1.Y)), (.row (.top 500001) 94)]), (500001, .row 94 [] (List.map (cS cB) r6.1.On)), (500002, .row 100 [] (List.map c_Segment s9328.2.2))]⟩ (by kernel_rfl) ?_ (fun τ hτ => ?_)
        ·replace h := hj9585
         refine evs_run 3 (by kernel_rfl) ?_
         obtain ⟨r9586, hr9586, h⟩ := bindS h
         refine evs_callP [500001] (by kernel_rfl) (W.sheetmetalref01_Grid_At_ok hr9586) (by kernel_rfl) (.inr rfl) (by kernel_rfl) ?_
         refine evs_run 2 (by kernel_rfl) ?_
         refine evs_split r9586 (fun b0 => ⟨[(5, (.ptr 500000 0)), (6, (.row (.top 500002) 100)), (11, (vI s7997.1)), (12, (vI s9328.1)), (13, (vI s9328.2.1)), (14, (vI j9532)), (144, (vB (!b0)))], [(500000, .box [(.sl (List.map cI r6.1.X)), (.sl (List.map cI r6.1.Y)), (.row (.top 500001) 94)]), (500001, .row 94 [] (List.map (cS cB) r6.1.On)), (500002, .row 100 [] (List.map c_Segment s9328.2.2))]⟩) (by kernel_rfl) (fun hb => ?_) (fun hb => ?_)
         ·replace h := iteT hb h
          refine z6 6 (by kernel_rfl) (fun τ hτ => ?_)
          obtain rfl := Option.some.inj h
          exact leafC hτ (here (by kernel_rfl))
         ·replace h := iteF hb h
          refine evs_run 4 (by kernel_rfl) ?_
          obtain ⟨r9587, hr9587, h⟩ := bindS h
          refine evs_callP [500001] (by kernel_rfl) (W.sheetmetalref01_Grid_At_ok hr9587) (by kernel_rfl) (.inr rfl) (by kernel_rfl) ?_
          refine z6 1 (by kernel_rfl) (fun τ hτ => ?_)
          obtain rfl := Option.some.inj h
          exact leafC hτ (here (by kernel_rfl))
        refine th_normalS hτ ⟨[(5, (.ptr 500000 0)), (6, (.row (.top 500002) 100)), (11, (vI s7997.1)), (12, (vI s9328.1)), (13, (vI s9328.2.1)), (14, (vI j9532)), (150, (vB j9585))], [(500000, .box [(.sl (List.map cI r6.1.X)), (.sl (List.map cI r6.1.Y)), (.row (.top 500001) 94)]), (500001, .row 94 [] (List.map (cS cB) r6.1.On)), (500002, .row 100 [] (List.map c_Segment s9328.2.2))]⟩ (here (by kernel_rfl)) ?_
        refine sem_cond j9585 (by kernel_rfl) (by kernel_rfl) (fun hb => ?_) (fun hb => ?_)
        ·replace h := iteT hb h
         refine sem_region (by kernel_rfl) ?_
         refine z6 1 (by kernel_rfl) (fun τ hτ => ?_)
         exact jk_normal (-1) h hτ (here (by kernel_rfl))
        ·replace h := iteF hb h
         refine sem_skipS (by kernel_rfl) (fun τ hτ => ?_)
         exact jk_normal j9532 h hτ (here (by kernel_rfl))
       refine sem_seq (by kernel_rfl) ?_
       obtain ⟨j9590, hj9590, h⟩ := bindS h
       refine sem_regionC ⟨[(5, (.ptr 500000 0)), (6, (.row (.top 500002) 100)), (11, (vI s7997.1)), (12, (vI s9328.1)), (13, (vI s9328.2.1)), (14, (vI 0)), (138, (vB j9590))], [(500000, .box [(.sl (List.map cI r6.1.X)), (.sl (List.map cI r6.1.Y)), (.row (.top 500001) 94)]), (500001, .row 94 [] (List.map (cS cB) r6.1.On)), (500002, .row 100 [] (List.map c_Segment s9328.2.2))]⟩ (by kernel_rfl) ?_ (fun τ hτ => ?_)
       ·replace h := hj9590
        refine evs_run 3 (by kernel_rfl) ?_
        obtain ⟨r9591, hr9591, h⟩ := bindS h
        refine evs_callP [500001] (by kernel_rfl) (W.sheetmetalref01_Grid_At_ok hr9591) (by kernel_rfl) (.inr rfl) (by kernel_rfl) ?_
        refine evs_run 1 (by kernel_rfl) ?_
        refine evs_split r9591 (fun b0 => ⟨[(5, (.ptr 500000 0)), (6, (.row (.top 500002) 100)), (11, (vI s7997.1)), (12, (vI s9328.1)), (13, (vI s9328.2.1)), (14, (vI 0)), (131, (vB b0))], [(500000, .box [(.sl (List.map cI r6.1.X)), (.sl (List.map cI r6.1.Y)), (.row (.top 500001) 94)]), (500001, .row 94 [] (List.map (cS cB) r6.1.On)), (500002, .row 100 [] (List.map c_Segment s9328.2.2))]⟩) (by kernel_rfl) (fun hb => ?_) (fun hb => ?_)
        ·replace h := iteT hb h
         refine evs_run 4 (by kernel_rfl) ?_
         obtain ⟨r9592, hr9592, h⟩ := bindS h
         refine evs_callP [500001] (by kernel_rfl) (W.sheetmetalref01_Grid_At_ok hr9592) (by kernel_rfl) (.inr rfl) (by kernel_rfl) ?_
         refine z6 2 (by kernel_rfl) (fun τ hτ => ?_)
         obtain rfl := Option.some.inj h
         exact leafC hτ (here (by kernel_rfl))
        ·replace h := iteF hb h
         refine z6 7 (by kernel_rfl) (fun τ hτ => ?_)
         obtain rfl := Option.some.inj h
         exact leafC hτ (here (by kernel_rfl))
       refine th_normalS hτ ⟨[(5, (.ptr 500000 0)), (6, (.row (.top 500002) 100)), (11, (vI s7997.1)), (12, (vI s9328.1)), (13, (vI s9328.2.1)), (14, (vI 0)), (138, (vB j9590))], [(500000, .box [(.sl (List.map cI r6.1.X)), (.sl (List.map cI r6.1.Y)), (.row (.top 500001) 94)]), (500001, .row 94 [] (List.map (cS cB) r6.1.On)), (500002, .row 100 [] (List.map c_Segment s9328.2.2))]⟩ (here (by kernel_rfl)) ?_
       refine sem_cond j9590 (by kernel_rfl) (by kernel_rfl) (fun hb => ?_) (fun hb => ?_)
       ·replace h := iteT hb h
        refine sem_region (by kernel_rfl) ?_
        refine z6 1 (by kernel_rfl) (fun τ hτ => ?_)
        exact jk_normal 1 h hτ (here (by kernel_rfl))
       ·replace h := iteF hb h
        refine sem_skipS (by kernel_rfl) (fun τ hτ => ?_)
        exact jk_normal 0 h hτ (here (by kernel_rfl))
      ·replace h := iteF hb h
       refine sem_exitS 6 (by kernel_rfl) rfl (fun τ hτ => ?_)
       refine th_exit ?_
       obtain rfl := Option.some.inj h
       exact lk_outS hτ rfl (here (by kernel_rfl))
     ·intro x
      rfl
     ·intro τ hτ
      refine bl_hit (by kernel_rfl) ?_
      refine bl_normal ?_
      refine th_normalS hτ ⟨[(5, (.ptr 500000 0)), (6, (.row (.top 500002) 100)), (11, (vI s7997.1))], [(500000, .box [(.sl (List.map cI r6.1.X)), (.sl (List.map cI r6.1.Y)), (.row (.top 500001) 94)]), (500001, .row 94 [] (List.map (cS cB) r6.1.On)), (500002, .row 100 [] (List.map c_Segment x9593))]⟩ (here (by kernel_rfl)) ?_
      refine sem_region (by kernel_rfl) ?_
      refine z6 3 (by kernel_rfl) (fun τ hτ => ?_)
      obtain rfl := Option.some.inj h
      exact lk_nextS hτ (here (by kernel_rfl))
    ·replace h := iteF hb h
     refine sem_exitS 4 (by kernel_rfl) rfl (fun τ hτ => ?_)
     refine th_exit ?_
     obtain rfl := Option.some.inj h
     exact lk_outS hτ rfl (subR_prep [] [(500002, 500000)] (by kernel_rfl) rfl rfl (by kernel_rfl))
   ·intro x
    rfl
   ·intro τ hτ
    refine bl_hit (by kernel_rfl) ?_
    refine th_normalS hτ ⟨[(6, (.row (.top 500000) 100))], [(500000, .row 100 [] (List.map c_Segment x9594))]⟩ (here (by kernel_rfl)) ?_
    refine z8 3 ⟨[(2, (.row (.top 500000) 100)), (3, (vI 0))], [(500000, .row 100 [] (List.map c_Segment x9594))]⟩ (by kernel_rfl) (fun τ hτ => ?_)
    obtain rfl := Option.some.inj h
    exact rk_ret hτ [(2, (.row (.top 0) 100)), (3, (vI 0))] (subR_prep [] [(500000, 0)] (by kernel_rfl) rfl rfl (by kernel_rfl)) (by kernel_rfl)
theorem W.sheetmetalref01_SameSegments_ok {a : (List Segment)} {b : (List Segment)} {r : Bool} (h : sheetmetalref01_SameSegments a b = some r) : PC G.P 48 [(.sl (List.map c_Segment a)), (.sl (List.map c_Segment b))] [] (vB r) [] := by
 refine pc_of G (fn := Try.f48) Try.func48 (by kernel_rfl) (by kernel_rfl) (by kernel_rfl) (by kernel_rfl) (by kernel_rfl) ?_
 refine sem_set ⟨[(0, (.sl (List.map c_Segment a))), (1, (.sl (List.map c_Segment b)))], []⟩ (by kernel_rfl) ?_
 refine z3 1 ⟨[(0, (.sl (List.map c_Segment a))), (1, (.sl (List.map c_Segment b)))], []⟩ (by kernel_rfl) ?_
 refine sem_seq (by kernel_rfl) ?_
 refine z7 (by kernel_rfl) ?_
 refine evs_run 1 (by kernel_rfl) ?_
 refine evs_op (st_len (c := c_Segment) (l := a) (x := (.sl (List.map c_Segment a))) (by kernel_rfl) (by kernel_rfl)) ?_
 refine evs_run 1 (by kernel_rfl) ?_
 refine evs_op (st_len (c := c_Segment) (l := b) (x := (.sl (List.map c_Segment b))) (by kernel_rfl) (by kernel_rfl)) ?_
 refine z1 1 ⟨[(0, (.sl (List.map c_Segment a))), (1, (.sl (List.map c_Segment b))), (10, (vB ((a.length : Int) != (b.length : Int))))], []⟩ (by kernel_rfl) ?_
 refine sem_cond ((a.length : Int) != (b.length : Int)) (by kernel_rfl) (by kernel_rfl) (fun hb => ?_) (fun hb => ?_)
 ·replace h := iteT hb h
  refine z8 1 ⟨[(4, (vB false))], []⟩ (by kernel_rfl) (fun τ hτ => ?_)
  refine th_ret ?_
  obtain rfl := Option.some.inj h
  exact rk_ret hτ [(4, (vB false))] (here (by kernel_rfl)) (by kernel_rfl)
 ·replace h := iteF hb h
  refine z4 ⟨[(0, (.sl (List.map c_Segment a))), (1, (.sl (List.map c_Segment b)))], []⟩ (by kernel_rfl) ?_
  refine sem_seq (by kernel_rfl) ?_
  refine z3 1 ⟨[(0, (.sl (List.map c_Segment a))), (1, (.sl (List.map c_Segment b))), (5, (vI 0))], []⟩ (by kernel_rfl) ?_
  refine sem_block (by kernel_rfl) ?_
  obtain ⟨x80, hx80, h⟩ := bindS h
  refine sem_loopS (fun (s55 : Int) => ⟨[(0, (.sl (List.map c_Segment a))), (1, (.sl (List.map c_Segment b))), (5, (vI s55))], []⟩) (fun (x80 : Unit ⊕ Unit) => match x80 with | .inl j81 => (.ret, ⟨[(4, (vB false))], []⟩) | .inr j82 => (.exit 0, ⟨[], []⟩)) (sheetmetalref01_SameSegments_l1 a b) 0 x80 (by kernel_rfl) (here (by kernel_rfl)) hx80 ?_ ?_ ?_
  ·intro s55 r h
   refine sem_seq (by kernel_rfl) ?_
   refine z7 (by kernel_rfl) ?_
   refine evs_run 2 (by kernel_rfl) ?_
   refine evs_op (st_len (c := c_Segment) (l := a) (x := (.sl (List.map c_Segment a))) (by kernel_rfl) (by kernel_rfl)) ?_
   refine z1 1 ⟨[(0, (.sl (List.map c_Segment a))), (1, (.sl (List.map c_Segment b))), (5, (vI s55)), (14, (vB (decide (s55 < (a.length : Int)))))], []⟩ (by kernel_rfl) ?_
   refine sem_cond (decide (s55 < (a.length : Int))) (by kernel_rfl) (by kernel_rfl) (fun hb => ?_) (fun hb => ?_)
   ·replace h := iteT hb h
    refine z4 ⟨[(0, (.sl (List.map c_Segment a))), (1, (.sl (List.map c_Segment b))), (5, (vI s55))], []⟩ (by kernel_rfl) ?_
    refine sem_seq (by kernel_rfl) ?_
    refine sem_block (by kernel_rfl) ?_
    refine sem_seq (by kernel_rfl) ?_
    refine sem_drawN [] [] [] [] [] 8 (by kernel_rfl) (by kernel_rfl) (by kernel_rfl) ?_
    refine evd_run 2 (by kernel_rfl) ?_
    obtain ⟨x78, hx78, h⟩ := bindS h
    refine evd_val (by kernel_rfl) (st_idx (c := c_Segment) (l := a) (i := s55) (kd := .i64) (sz := 4) (by kernel_rfl) hx78 rfl) (by kernel_rfl) (by kernel_rfl) ?_
    refine evd_run 3 (by kernel_rfl) ?_
    obtain ⟨x79, hx79, h⟩ := bindS h
    refine evd_val (by kernel_rfl) (st_idx (c := c_Segment) (l := b) (i := s55) (kd := .i64) (sz := 4) (by kernel_rfl) hx79 rfl) (by kernel_rfl) (by kernel_rfl) ?_
    refine evd_run 1 (by kernel_rfl) ?_
    refine evd_end (by kernel_rfl) ?_
    refine evo_run 1 (by kernel_rfl) ?_
    refine evo_endS (by kernel_rfl) (fun τ hτ => ?_)
    refine th_normalS hτ ⟨[(0, (.sl (List.map c_Segment a))), (1, (.sl (List.map c_Segment b))), (5, (vI s55)), (25, (vB (!((x78.X1 == x79.X1) && ((x78.Y1 == x79.Y1) && ((x78.X2 == x79.X2) && ((x78.Y2 == x79.Y2) && true)))))))], []⟩ (here (by kernel_rfl)) ?_
    refine sem_cond (!((x78.X1 == x79.X1) && ((x78.Y1 == x79.Y1) && ((x78.X2 == x79.X2) && ((x78.Y2 == x79.Y2) && true))))) (by kernel_rfl) (by kernel_rfl) (fun hb => ?_) (fun hb => ?_)
    ·replace h := iteT hb h
     refine z8 1 ⟨[(4, (vB false))], []⟩ (by kernel_rfl) (fun τ hτ => ?_)
     refine bl_ret ?_
     refine th_ret ?_
     obtain rfl := Option.some.inj h
     exact lk_outS hτ rfl (here (by kernel_rfl))
    ·replace h := iteF hb h
     refine sem_skipS (by kernel_rfl) (fun τ hτ => ?_)
     refine bl_normal ?_
     refine th_normalS hτ ⟨[(0, (.sl (List.map c_Segment a))), (1, (.sl (List.map c_Segment b))), (5, (vI s55))], []⟩ (here (by kernel_rfl)) ?_
     refine sem_region (by kernel_rfl) ?_
     refine z6 3 (by kernel_rfl) (fun τ hτ => ?_)
     obtain rfl := Option.some.inj h
     exact lk_nextS hτ (here (by kernel_rfl))
   ·replace h := iteF hb h
    refine sem_exitS 0 (by kernel_rfl) rfl (fun τ hτ => ?_)
    refine th_exit ?_
    obtain rfl := Option.some.inj h
    exact lk_outS hτ rfl (here (by kernel_rfl))
  ·intro x
   rcases x with _ | _ <;> rfl
  ·intro τ hτ
   rcases x80 with j81 | j82
   ·refine bl_ret ?_
    refine th_ret ?_
    obtain rfl := Option.some.inj h
    exact rk_ret hτ [(4, (vB false))] (here (by kernel_rfl)) (by kernel_rfl)
   ·refine bl_hit (by kernel_rfl) ?_
    refine th_normalS hτ ⟨[], []⟩ (here (by kernel_rfl)) ?_
    refine z8 1 ⟨[(4, (vB true))], []⟩ (by kernel_rfl) (fun τ hτ => ?_)
    obtain rfl := Option.some.inj h
    exact rk_ret hτ [(4, (vB true))] (here (by kernel_rfl)) (by kernel_rfl)
theorem W.sheetmetalref01_SameRects_ok {a : (List Rect)} {b : (List Rect)} {r : Bool} (h : sheetmetalref01_SameRects a b = some r) : PC G.P 57 [(.sl (List.map c_Rect a)), (.sl (List.map c_Rect b))] [] (vB r) [] := by
 refine pc_of G (fn := Try.f57) Try.func57 (by kernel_rfl) (by kernel_rfl) (by kernel_rfl) (by kernel_rfl) (by kernel_rfl) ?_
 refine sem_set ⟨[(0, (.sl (List.map c_Rect a))), (1, (.sl (List.map c_Rect b)))], []⟩ (by kernel_rfl) ?_
 refine z3 1 ⟨[(0, (.sl (List.map c_Rect a))), (1, (.sl (List.map c_Rect b)))], []⟩ (by kernel_rfl) ?_
 refine sem_seq (by kernel_rfl) ?_
 refine z7 (by kernel_rfl) ?_
 refine evs_run 1 (by kernel_rfl) ?_
 refine evs_op (st_len (c := c_Rect) (l := a) (x := (.sl (List.map c_Rect a))) (by kernel_rfl) (by kernel_rfl)) ?_
 refine evs_run 1 (by kernel_rfl) ?_
 refine evs_op (st_len (c := c_Rect) (l := b) (x := (.sl (List.map c_Rect b))) (by kernel_rfl) (by kernel_rfl)) ?_
 refine z1 1 ⟨[(0, (.sl (List.map c_Rect a))), (1, (.sl (List.map c_Rect b))), (10, (vB ((a.length : Int) != (b.length : Int))))], []⟩ (by kernel_rfl) ?_
 refine sem_cond ((a.length : Int) != (b.length : Int)) (by kernel_rfl) (by kernel_rfl) (fun hb => ?_) (fun hb => ?_)
 ·replace h := iteT hb h
  refine z8 1 ⟨[(4, (vB false))], []⟩ (by kernel_rfl) (fun τ hτ => ?_)
  refine th_ret ?_
  obtain rfl := Option.some.inj h
  exact rk_ret hτ [(4, (vB false))] (here (by kernel_rfl)) (by kernel_rfl)
 ·replace h := iteF hb h
  refine z4 ⟨[(0, (.sl (List.map c_Rect a))), (1, (.sl (List.map c_Rect b)))], []⟩ (by kernel_rfl) ?_
  refine sem_seq (by kernel_rfl) ?_
  refine z3 1 ⟨[(0, (.sl (List.map c_Rect a))), (1, (.sl (List.map c_Rect b))), (5, (vI 0))], []⟩ (by kernel_rfl) ?_
  refine sem_block (by kernel_rfl) ?_
  obtain ⟨x80, hx80, h⟩ := bindS h
  refine sem_loopS (fun (s55 : Int) => ⟨[(0, (.sl (List.map c_Rect a))), (1, (.sl (List.map c_Rect b))), (5, (vI s55))], []⟩) (fun (x80 : Unit ⊕ Unit) => match x80 with | .inl j81 => (.ret, ⟨[(4, (vB false))], []⟩) | .inr j82 => (.exit 0, ⟨[], []⟩)) (sheetmetalref01_SameRects_l1 a b) 0 x80 (by kernel_rfl) (here (by kernel_rfl)) hx80 ?_ ?_ ?_
  ·intro s55 r h
   refine sem_seq (by kernel_rfl) ?_
   refine z7 (by kernel_rfl) ?_
   refine evs_run 2 (by kernel_rfl) ?_
   refine evs_op (st_len (c := c_Rect) (l := a) (x := (.sl (List.map c_Rect a))) (by kernel_rfl) (by kernel_rfl)) ?_
   refine z1 1 ⟨[(0, (.sl (List.map c_Rect a))), (1, (.sl (List.map c_Rect b))), (5, (vI s55)), (14, (vB (decide (s55 < (a.length : Int)))))], []⟩ (by kernel_rfl) ?_
   refine sem_cond (decide (s55 < (a.length : Int))) (by kernel_rfl) (by kernel_rfl) (fun hb => ?_) (fun hb => ?_)
   ·replace h := iteT hb h
    refine z4 ⟨[(0, (.sl (List.map c_Rect a))), (1, (.sl (List.map c_Rect b))), (5, (vI s55))], []⟩ (by kernel_rfl) ?_
    refine sem_seq (by kernel_rfl) ?_
    refine sem_block (by kernel_rfl) ?_
    refine sem_seq (by kernel_rfl) ?_
    refine sem_drawN [] [] [] [] [] 8 (by kernel_rfl) (by kernel_rfl) (by kernel_rfl) ?_
    refine evd_run 2 (by kernel_rfl) ?_
    obtain ⟨x78, hx78, h⟩ := bindS h
    refine evd_val (by kernel_rfl) (st_idx (c := c_Rect) (l := a) (i := s55) (kd := .i64) (sz := 4) (by kernel_rfl) hx78 rfl) (by kernel_rfl) (by kernel_rfl) ?_
    refine evd_run 3 (by kernel_rfl) ?_
    obtain ⟨x79, hx79, h⟩ := bindS h
    refine evd_val (by kernel_rfl) (st_idx (c := c_Rect) (l := b) (i := s55) (kd := .i64) (sz := 4) (by kernel_rfl) hx79 rfl) (by kernel_rfl) (by kernel_rfl) ?_
    refine evd_run 1 (by kernel_rfl) ?_
    refine evd_end (by kernel_rfl) ?_
    refine evo_run 1 (by kernel_rfl) ?_
    refine evo_endS (by kernel_rfl) (fun τ hτ => ?_)
    refine th_normalS hτ ⟨[(0, (.sl (List.map c_Rect a))), (1, (.sl (List.map c_Rect b))), (5, (vI s55)), (25, (vB (!((x78.X == x79.X) && ((x78.Y == x79.Y) && ((x78.W == x79.W) && ((x78.H == x79.H) && true)))))))], []⟩ (here (by kernel_rfl)) ?_
    refine sem_cond (!((x78.X == x79.X) && ((x78.Y == x79.Y) && ((x78.W == x79.W) && ((x78.H == x79.H) && true))))) (by kernel_rfl) (by kernel_rfl) (fun hb => ?_) (fun hb => ?_)
    ·replace h := iteT hb h
     refine z8 1 ⟨[(4, (vB false))], []⟩ (by kernel_rfl) (fun τ hτ => ?_)
     refine bl_ret ?_
     refine th_ret ?_
     obtain rfl := Option.some.inj h
     exact lk_outS hτ rfl (here (by kernel_rfl))
    ·replace h := iteF hb h
     refine sem_skipS (by kernel_rfl) (fun τ hτ => ?_)
     refine bl_normal ?_
     refine th_normalS hτ ⟨[(0, (.sl (List.map c_Rect a))), (1, (.sl (List.map c_Rect b))), (5, (vI s55))], []⟩ (here (by kernel_rfl)) ?_
     refine sem_region (by kernel_rfl) ?_
     refine z6 3 (by kernel_rfl) (fun τ hτ => ?_)
     obtain rfl := Option.some.inj h
     exact lk_nextS hτ (here (by kernel_rfl))
   ·replace h := iteF hb h
    refine sem_exitS 0 (by kernel_rfl) rfl (fun τ hτ => ?_)
    refine th_exit ?_
    obtain rfl := Option.some.inj h
    exact lk_outS hτ rfl (here (by kernel_rfl))
  ·intro x
   rcases x with _ | _ <;> rfl
  ·intro τ hτ
   rcases x80 with j81 | j82
   ·refine bl_ret ?_
    refine th_ret ?_
    obtain rfl := Option.some.inj h
    exact rk_ret hτ [(4, (vB false))] (here (by kernel_rfl)) (by kernel_rfl)
   ·refine bl_hit (by kernel_rfl) ?_
    refine th_normalS hτ ⟨[], []⟩ (here (by kernel_rfl)) ?_
    refine z8 1 ⟨[(4, (vB true))], []⟩ (by kernel_rfl) (fun τ hτ => ?_)
    obtain rfl := Option.some.inj h
    exact rk_ret hτ [(4, (vB true))] (here (by kernel_rfl)) (by kernel_rfl)
theorem W.sheetmetallaw01_GeomOutlines_ok {l : (List Rect)} {r : Bool} (h : sheetmetallaw01_GeomOutlines l = some r) : PC G.P 16 [(.sl (List.map c_Rect l))] [] (vB r) [] := by
 refine pc_of G (fn := Try.f16) Try.func16 (by kernel_rfl) (by kernel_rfl) (by kernel_rfl) (by kernel_rfl) (by kernel_rfl) ?_
 refine sem_set ⟨[(0, (.sl (List.map c_Rect l)))], []⟩ (by kernel_rfl) ?_
 refine z3 1 ⟨[(0, (.sl (List.map c_Rect l)))], []⟩ (by kernel_rfl) ?_
 refine sem_seq (by kernel_rfl) ?_
 refine z7 (by kernel_rfl) ?_
 refine evs_run 1 (by kernel_rfl) ?_
 obtain ⟨r6, hr6, h⟩ := bindS h
 refine evs_callP [] (by kernel_rfl) (W.sheetmetallaw01_Many_ok hr6) (by kernel_rfl) (.inl rfl) (by kernel_rfl) ?_
 refine evs_endS (by kernel_rfl) (fun τ hτ => ?_)
 refine th_normalS hτ ⟨[(0, (.sl (List.map c_Rect l))), (9, (vB r6))], []⟩ (here (by kernel_rfl)) ?_
 refine sem_cond r6 (by kernel_rfl) (by kernel_rfl) (fun hb => ?_) (fun hb => ?_)
 ·replace h := iteT hb h
  refine z7 (by kernel_rfl) ?_
  obtain ⟨r8, hr8, h⟩ := bindS h
  refine evs_callP [] (by kernel_rfl) (W.sheetmetallaw01_known_ok hr8) (by kernel_rfl) (.inl rfl) (by kernel_rfl) ?_
  refine z1 1 ⟨[(2, (vB r8))], []⟩ (by kernel_rfl) ?_
  refine sem_retS (by kernel_rfl) (fun τ hτ => ?_)
  refine th_ret ?_
  obtain rfl := Option.some.inj h
  exact rk_ret hτ [(2, (vB r8))] (here (by kernel_rfl)) (by kernel_rfl)
 ·replace h := iteF hb h
  refine z4 ⟨[(0, (.sl (List.map c_Rect l)))], []⟩ (by kernel_rfl) ?_
  refine z7 (by kernel_rfl) ?_
  refine evs_run 1 (by kernel_rfl) ?_
  obtain ⟨r10, hr10, h⟩ := bindS h
  refine evs_callS [] [(0, 700050)] [] (by kernel_rfl) (W.sheetmetalref01_CopyRects_ok hr10) (by kernel_rfl) (by kernel_rfl) (.inl rfl) ?_
  refine z1 1 ⟨[(0, (.sl (List.map c_Rect l))), (3, (.row (.top 700050) 41))], [(700050, .row 41 [] (List.map c_Rect r10))]⟩ (by kernel_rfl) ?_
  refine z7 (by kernel_rfl) ?_
  refine evs_run 1 (by kernel_rfl) ?_
  obtain ⟨r12, hr12, h⟩ := bindS h
  refine evs_callS [] [(0, 700051)] [700050] (by kernel_rfl) (W.geom_Outline_ok hr12) (by kernel_rfl) (by kernel_rfl) (.inr ⟨rfl, fun _ _ => ind_cons (ind_row fun _ => rfl) (fun _ _ => ind_nil)⟩) ?_
  refine z1 5 ⟨[(0, (.sl (List.map c_Rect l))), (3, (.row (.top 700050) 41)), (4, (.row (.top 700051) 100)), (5, (vI r12.2))], [(700050, .row 41 [] (List.map c_Rect r10)), (700051, .row 100 [] (List.map c_Segment r12.1))]⟩ (by kernel_rfl) ?_
  refine z7 (by kernel_rfl) ?_
  refine evs_run 1 (by kernel_rfl) ?_
  obtain ⟨r14, hr14, h⟩ := bindS h
  refine evs_callS [] [(0, 700052)] [] (by kernel_rfl) (W.sheetmetalref01_Outline_ok hr14) (by kernel_rfl) (by kernel_rfl) (.inl rfl) ?_
  refine z1 5 ⟨[(0, (.sl (List.map c_Rect l))), (3, (.row (.top 700050) 41)), (4, (.row (.top 700051) 100)), (5, (vI r12.2)), (6, (.row (.top 700052) 100)), (7, (vI r14.2))], [(700050, .row 41 [] (List.map c_Rect r10)), (700051, .row 100 [] (List.map c_Segment r12.1)), (700052, .row 100 [] (List.map c_Segment r14.1))]⟩ (by kernel_rfl) ?_
  refine sem_seq (by kernel_rfl) ?_
  obtain ⟨j18, hj18, h⟩ := bindS h
  refine sem_regionC ⟨[(2, (vB j18))], []⟩ (by kernel_rfl) ?_ (fun τ hτ => ?_)
  ·replace h := hj18
   refine evs_run 4 (by kernel_rfl) ?_
   refine evs_split (r12.2 == r14.2) (fun b0 => ⟨[(0, (.sl (List.map c_Rect l))), (3, (.row (.top 700050) 41)), (4, (.row (.top 700051) 100)), (6, (.row (.top 700052) 100)), (26, (vB b0))], [(700050, .row 41 [] (List.map c_Rect r10)), (700051, .row 100 [] (List.map c_Segment r12.1)), (700052, .row 100 [] (List.map c_Segment r14.1))]⟩) (by kernel_rfl) (fun hb => ?_) (fun hb => ?_)
   ·replace h := iteT hb h
    refine evs_run 2 (by kernel_rfl) ?_
    obtain ⟨r19, hr19, h⟩ := bindS h
    refine evs_callP [700051, 700052] (by kernel_rfl) (W.sheetmetalref01_SameSegments_ok hr19) (by kernel_rfl) (.inr rfl) (by kernel_rfl) ?_
    refine evs_run 2 (by kernel_rfl) ?_
    refine evs_split r19 (fun b0 => ⟨[(0, (.sl (List.map c_Rect l))), (3, (.row (.top 700050) 41)), (31, (vB b0))], [(700050, .row 41 [] (List.map c_Rect r10))]⟩) (by kernel_rfl) (fun hb => ?_) (fun hb => ?_)
    ·replace h := iteT hb h
     refine evs_run 2 (by kernel_rfl) ?_
     obtain ⟨r20, hr20, h⟩ := bindS h
     refine evs_callP [700050] (by kernel_rfl) (W.sheetmetalref01_SameRects_ok hr20) (by kernel_rfl) (.inr rfl) (by kernel_rfl) ?_
     refine evs_run 2 (by kernel_rfl) ?_
     refine evs_split r20 (fun b0 => ⟨[(36, (vB b0))], []⟩) (by kernel_rfl) (fun hb => ?_) (fun hb => ?_)
     ·replace h := iteT hb h
      obtain ⟨r21, hr21, h⟩ := bindS h
      refine evs_callP [] (by kernel_rfl) (W.sheetmetallaw01_known_ok hr21) (by kernel_rfl) (.inl rfl) (by kernel_rfl) ?_
      refine z6 2 (by kernel_rfl) (fun τ hτ => ?_)
      obtain rfl := Option.some.inj h
      exact leafC hτ (here (by kernel_rfl))
     ·replace h := iteF hb h
      refine z6 3 (by kernel_rfl) (fun τ hτ => ?_)
      obtain rfl := Option.some.inj h
      exact leafC hτ (here (by kernel_rfl))
    ·replace h := iteF hb h
     refine z6 8 (by kernel_rfl) (fun τ hτ => ?_)
     obtain rfl := Option.some.inj h
     exact leafC hτ (here (by kernel_rfl))
   ·replace h := iteF hb h
    refine z6 13 (by kernel_rfl) (fun τ hτ => ?_)
    obtain rfl := Option.some.inj h
    exact leafC hτ (here (by kernel_rfl))
  refine th_normalS hτ ⟨[(2, (vB j18))], []⟩ (here (by kernel_rfl)) ?_
  refine sem_retS (by kernel_rfl) (fun τ hτ => ?_)
  obtain rfl := Option.some.inj h
  exact rk_ret hτ [(2, (vB j18))] (here (by kernel_rfl)) (by kernel_rfl)
end Go.Proofs.Ytiodkdpfkchkjaa
