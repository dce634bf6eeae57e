/- Each Go function does what its model says; written by a program out of the translation. -/
import Derived.Test.YtonmponhpfpokaaGreatRWV1
import Derived.Test.YtonmponhpfpokaaGreatRNeMV
set_option linter.unusedVariables false
set_option linter.unusedSimpArgs false
set_option linter.unusedSectionVars false
namespace Go.Proofs.YtonmponhpfpokaaGreatR
open Go Go.VI Go.SM Go.Proofs
set_option maxRecDepth 100000
set_option maxHeartbeats 4000000
theorem W.nest_Fit_k_ok {s0 : Sheet} {taken : (List (List Rect))} {x2 : Piece} {set3 : Settings} {r : Placement × Bool × Int × Int × Int × Int} (h : nest_Fit_k s0 taken x2 set3 = some r) : PC G.P 24 [(.agg (c_Sheet s0)), (.sl (List.map (cS c_Rect) taken)), (.agg (c_Piece x2)), (.agg (c_Settings set3))] [] (.tup [(.agg (c_Placement r.1)), (vB r.2.1), (vI r.2.2.1)]) [(0, .box [(vI 0), (vI 0), (vI r.2.2.2.1), (vI r.2.2.2.2.1), (vI r.2.2.2.2.2)])] := by
 refine pc_of G (fn := Tryz.f24) Tryz.func24 (by kernel_rfl) (by kernel_rfl) (by kernel_rfl) (by kernel_rfl) (by kernel_rfl) ?_
 refine sem_set ⟨[(0, (.agg (c_Sheet s0))), (1, (.sl (List.map (cS c_Rect) taken))), (2, (.agg (c_Piece x2))), (3, (.agg (c_Settings set3)))], []⟩ (by kernel_rfl) ?_
 refine z3 6 ⟨[(1, (.sl (List.map (cS c_Rect) taken))), (4, (.ptr 4 0)), (6, (.ptr 6 0)), (7, (.ptr 7 0)), (8, (.ptr 8 0))], [(4, .box (c_Sheet s0)), (6, .box (c_Piece x2)), (7, .box (c_Settings set3)), (8, .box [(vI 0), (vI 0), (vI 0), (vI 0), (vI 0)])]⟩ (by kernel_rfl) ?_
 refine sem_seq (by kernel_rfl) ?_
 refine z7 (by kernel_rfl) ?_
 refine evs_run 1 (by kernel_rfl) ?_
 obtain ⟨r4, hr4, h⟩ := bindS h
 refine evs_callP [] (by kernel_rfl) (W.nest_ValidateSheet_k_ok hr4) (by kernel_rfl) (.inl rfl) (by kernel_rfl) ?_
 refine z1 1 ⟨[(1, (.sl (List.map (cS c_Rect) taken))), (4, (.ptr 4 0)), (6, (.ptr 6 0)), (7, (.ptr 7 0)), (8, (.ptr 8 0)), (11, (vI r4))], [(4, .box (c_Sheet s0)), (6, .box (c_Piece x2)), (7, .box (c_Settings set3)), (8, .box [(vI 0), (vI 0), (vI 0), (vI 0), (vI 0)])]⟩ (by kernel_rfl) ?_
 refine z3 2 ⟨[(1, (.sl (List.map (cS c_Rect) taken))), (4, (.ptr 4 0)), (6, (.ptr 6 0)), (7, (.ptr 7 0)), (8, (.ptr 8 0)), (11, (vI r4)), (31, (vB (r4 != 0)))], [(4, .box (c_Sheet s0)), (6, .box (c_Piece x2)), (7, .box (c_Settings set3)), (8, .box [(vI 0), (vI 0), (vI 0), (vI 0), (vI 0)])]⟩ (by kernel_rfl) ?_
 refine sem_cond (r4 != 0) (by kernel_rfl) (by kernel_rfl) (fun hb => ?_) (fun hb => ?_)
 ·replace h := iteT hb h
  exact nomatch h
 ·replace h := iteF hb h
  refine z4 ⟨[(1, (.sl (List.map (cS c_Rect) taken))), (4, (.ptr 4 0)), (6, (.ptr 6 0)), (7, (.ptr 7 0)), (8, (.ptr 8 0))], [(4, .box (c_Sheet s0)), (6, .box (c_Piece x2)), (7, .box (c_Settings set3)), (8, .box [(vI 0), (vI 0), (vI 0), (vI 0), (vI 0)])]⟩ (by kernel_rfl) ?_
  refine sem_seq (by kernel_rfl) ?_
  refine z7 (by kernel_rfl) ?_
  refine evs_run 1 (by kernel_rfl) ?_
  obtain ⟨r8, hr8, h⟩ := bindS h
  refine evs_callP [] (by kernel_rfl) (W.nest_takenError_k_ok hr8) (by kernel_rfl) (.inl rfl) (by kernel_rfl) ?_
  refine z1 1 ⟨[(1, (.sl (List.map (cS c_Rect) taken))), (4, (.ptr 4 0)), (6, (.ptr 6 0)), (7, (.ptr 7 0)), (8, (.ptr 8 0)), (12, (vI r8))], [(4, .box (c_Sheet s0)), (6, .box (c_Piece x2)), (7, .box (c_Settings set3)), (8, .box [(vI 0), (vI 0), (vI 0), (vI 0), (vI 0)])]⟩ (by kernel_rfl) ?_
  refine z3 2 ⟨[(1, (.sl (List.map (cS c_Rect) taken))), (4, (.ptr 4 0)), (6, (.ptr 6 0)), (7, (.ptr 7 0)), (8, (.ptr 8 0)), (12, (vI r8)), (37, (vB (r8 != 0)))], [(4, .box (c_Sheet s0)), (6, .box (c_Piece x2)), (7, .box (c_Settings set3)), (8, .box [(vI 0), (vI 0), (vI 0), (vI 0), (vI 0)])]⟩ (by kernel_rfl) ?_
  refine sem_cond (r8 != 0) (by kernel_rfl) (by kernel_rfl) (fun hb => ?_) (fun hb => ?_)
  ·replace h := iteT hb h
   exact nomatch h
  ·replace h := iteF hb h
   refine z4 ⟨[(1, (.sl (List.map (cS c_Rect) taken))), (4, (.ptr 4 0)), (6, (.ptr 6 0)), (7, (.ptr 7 0)), (8, (.ptr 8 0))], [(4, .box (c_Sheet s0)), (6, .box (c_Piece x2)), (7, .box (c_Settings set3)), (8, .box [(vI 0), (vI 0), (vI 0), (vI 0), (vI 0)])]⟩ (by kernel_rfl) ?_
   refine sem_seq (by kernel_rfl) ?_
   refine z7 (by kernel_rfl) ?_
   refine evs_run 1 (by kernel_rfl) ?_
   obtain ⟨r12, hr12, h⟩ := bindS h
   refine evs_callP [] (by kernel_rfl) (W.nest_ValidatePiece_k_ok hr12) (by kernel_rfl) (.inl rfl) (by kernel_rfl) ?_
   refine z1 1 ⟨[(1, (.sl (List.map (cS c_Rect) taken))), (4, (.ptr 4 0)), (6, (.ptr 6 0)), (7, (.ptr 7 0)), (8, (.ptr 8 0)), (13, (vI r12))], [(4, .box (c_Sheet s0)), (6, .box (c_Piece x2)), (7, .box (c_Settings set3)), (8, .box [(vI 0), (vI 0), (vI 0), (vI 0), (vI 0)])]⟩ (by kernel_rfl) ?_
   refine z3 2 ⟨[(1, (.sl (List.map (cS c_Rect) taken))), (4, (.ptr 4 0)), (6, (.ptr 6 0)), (7, (.ptr 7 0)), (8, (.ptr 8 0)), (13, (vI r12)), (43, (vB (r12 != 0)))], [(4, .box (c_Sheet s0)), (6, .box (c_Piece x2)), (7, .box (c_Settings set3)), (8, .box [(vI 0), (vI 0), (vI 0), (vI 0), (vI 0)])]⟩ (by kernel_rfl) ?_
   refine sem_cond (r12 != 0) (by kernel_rfl) (by kernel_rfl) (fun hb => ?_) (fun hb => ?_)
   ·replace h := iteT hb h
    exact nomatch h
   ·replace h := iteF hb h
    refine z4 ⟨[(1, (.sl (List.map (cS c_Rect) taken))), (4, (.ptr 4 0)), (6, (.ptr 6 0)), (7, (.ptr 7 0)), (8, (.ptr 8 0))], [(4, .box (c_Sheet s0)), (6, .box (c_Piece x2)), (7, .box (c_Settings set3)), (8, .box [(vI 0), (vI 0), (vI 0), (vI 0), (vI 0)])]⟩ (by kernel_rfl) ?_
    refine sem_seq (by kernel_rfl) ?_
    refine z7 (by kernel_rfl) ?_
    refine evs_run 1 (by kernel_rfl) ?_
    obtain ⟨r16, hr16, h⟩ := bindS h
    refine evs_callP [] (by kernel_rfl) (W.nest_ValidSettings_k_ok hr16) (by kernel_rfl) (.inl rfl) (by kernel_rfl) ?_
    refine z1 1 ⟨[(1, (.sl (List.map (cS c_Rect) taken))), (4, (.ptr 4 0)), (6, (.ptr 6 0)), (7, (.ptr 7 0)), (8, (.ptr 8 0)), (48, (vB (!r16)))], [(4, .box (c_Sheet s0)), (6, .box (c_Piece x2)), (7, .box (c_Settings set3)), (8, .box [(vI 0), (vI 0), (vI 0), (vI 0), (vI 0)])]⟩ (by kernel_rfl) ?_
    refine sem_cond (!r16) (by kernel_rfl) (by kernel_rfl) (fun hb => ?_) (fun hb => ?_)
    ·replace h := iteT hb h
     exact nomatch h
    ·replace h := iteF hb h
     refine z4 ⟨[(1, (.sl (List.map (cS c_Rect) taken))), (4, (.ptr 4 0)), (6, (.ptr 6 0)), (7, (.ptr 7 0)), (8, (.ptr 8 0))], [(4, .box (c_Sheet s0)), (6, .box (c_Piece x2)), (7, .box (c_Settings set3)), (8, .box [(vI 0), (vI 0), (vI 0), (vI 0), (vI 0)])]⟩ (by kernel_rfl) ?_
     refine z7 (by kernel_rfl) ?_
     refine evs_run 3 (by kernel_rfl) ?_
     obtain ⟨r18, hr18, h⟩ := bindS h
     refine evs_callS [] [(0, 700150)] [] (by kernel_rfl) (W.nest_inner_k_ok hr18) (by kernel_rfl) (by kernel_rfl) (.inl rfl) ?_
     refine z1 6 ⟨[(1, (.sl (List.map (cS c_Rect) taken))), (4, (.ptr 4 0)), (6, (.ptr 6 0)), (7, (.ptr 7 0)), (8, (.ptr 8 0)), (14, (.ptr 14 0)), (15, (vB r18.2))], [(4, .box (c_Sheet s0)), (6, .box (c_Piece x2)), (7, .box (c_Settings set3)), (8, .box [(vI 0), (vI 0), (vI 0), (vI 0), (vI 0)]), (14, .box (c_Rect r18.1))]⟩ (by kernel_rfl) ?_
     refine sem_seq (by kernel_rfl) ?_
     refine z3 2 ⟨[(1, (.sl (List.map (cS c_Rect) taken))), (4, (.ptr 4 0)), (6, (.ptr 6 0)), (7, (.ptr 7 0)), (8, (.ptr 8 0)), (14, (.ptr 14 0)), (58, (vB (!r18.2)))], [(4, .box (c_Sheet s0)), (6, .box (c_Piece x2)), (7, .box (c_Settings set3)), (8, .box [(vI 0), (vI 0), (vI 0), (vI 0), (vI 0)]), (14, .box (c_Rect r18.1))]⟩ (by kernel_rfl) ?_
     refine sem_cond (!r18.2) (by kernel_rfl) (by kernel_rfl) (fun hb => ?_) (fun hb => ?_)
     ·replace h := iteT hb h
      exact nomatch h
     ·replace h := iteF hb h
      refine z4 ⟨[(1, (.sl (List.map (cS c_Rect) taken))), (4, (.ptr 4 0)), (6, (.ptr 6 0)), (7, (.ptr 7 0)), (8, (.ptr 8 0)), (14, (.ptr 14 0))], [(4, .box (c_Sheet s0)), (6, .box (c_Piece x2)), (7, .box (c_Settings set3)), (8, .box [(vI 0), (vI 0), (vI 0), (vI 0), (vI 0)]), (14, .box (c_Rect r18.1))]⟩ (by kernel_rfl) ?_
      refine z7 (by kernel_rfl) ?_
      refine evs_run 3 (by kernel_rfl) ?_
      obtain ⟨r20, hr20, h⟩ := bindS h
      refine evs_callS [] [(0, 700150)] [] (by kernel_rfl) (W.nest_obstaclesOf_k_ok hr20) (by kernel_rfl) (by kernel_rfl) (.inl rfl) ?_
      refine z1 1 ⟨[(4, (.ptr 4 0)), (6, (.ptr 6 0)), (8, (.ptr 8 0)), (14, (.ptr 14 0)), (16, (.row (.top 700150) 131))], [(4, .box (c_Sheet s0)), (6, .box (c_Piece x2)), (8, .box [(vI 0), (vI 0), (vI 0), (vI 0), (vI 0)]), (14, .box (c_Rect r18.1)), (700150, .row 131 [] (List.map c_nest_obstacle r20))]⟩ (by kernel_rfl) ?_
      refine z3 4 ⟨[(4, (.ptr 4 0)), (6, (.ptr 6 0)), (8, (.ptr 8 0)), (14, (.ptr 14 0)), (16, (.row (.top 700150) 131)), (17, (.ptr 17 0)), (18, (vB false))], [(4, .box (c_Sheet s0)), (6, .box (c_Piece x2)), (8, .box [(vI 0), (vI 0), (vI 0), (vI 0), (vI 0)]), (14, .box (c_Rect r18.1)), (17, .box [(vI 0), (vI 0), (vI 0), (vI 0), (vI 0)]), (700150, .row 131 [] (List.map c_nest_obstacle r20))]⟩ (by kernel_rfl) ?_
      refine sem_seq (by kernel_rfl) ?_
      refine z3 1 ⟨[(4, (.ptr 4 0)), (6, (.ptr 6 0)), (8, (.ptr 8 0)), (14, (.ptr 14 0)), (16, (.row (.top 700150) 131)), (17, (.ptr 17 0)), (18, (vB false)), (65, (vI 0))], [(4, .box (c_Sheet s0)), (6, .box (c_Piece x2)), (8, .box [(vI 0), (vI 0), (vI 0), (vI 0), (vI 0)]), (14, .box (c_Rect r18.1)), (17, .box [(vI 0), (vI 0), (vI 0), (vI 0), (vI 0)]), (700150, .row 131 [] (List.map c_nest_obstacle r20))]⟩ (by kernel_rfl) ?_
      refine sem_block (by kernel_rfl) ?_
      obtain ⟨x660, hx660, h⟩ := bindS h
      refine sem_loopS (fun (s501 : Bool × Int × Int × Int × Int) => ⟨[(4, (.ptr 500000 0)), (6, (.ptr 500001 0)), (8, (.ptr 500002 0)), (14, (.ptr 500003 0)), (16, (.row (.top 500004) 131)), (17, (.ptr 500005 0)), (18, (vB s501.1)), (65, (vI s501.2.1))], [(500000, .box (c_Sheet s0)), (500001, .box (c_Piece x2)), (500002, .box [(vI 0), (vI 0), (vI 0), (vI 0), (vI 0)]), (500003, .box (c_Rect r18.1)), (500004, .row 131 [] (List.map c_nest_obstacle r20)), (500005, .box [(vI 0), (vI 0), (vI s501.2.2.1), (vI s501.2.2.2.1), (vI s501.2.2.2.2)])]⟩) (fun (x660 : Bool × Int × Int × Int) => (.exit 0, ⟨[(8, (.ptr 500000 0)), (17, (.ptr 500001 0)), (18, (vB x660.1))], [(500000, .box [(vI 0), (vI 0), (vI 0), (vI 0), (vI 0)]), (500001, .box [(vI 0), (vI 0), (vI x660.2.1), (vI x660.2.2.1), (vI x660.2.2.2)])]⟩)) (nest_Fit_k_l3 s0 x2 r18 r20) (false, 0, 0, 0, 0) x660 (by kernel_rfl) (subR_prep [] [(4, 500000), (6, 500001), (8, 500002), (14, 500003), (17, 500005), (700150, 500004)] (by kernel_rfl) rfl rfl (by kernel_rfl)) (iter_loop hx660) ?_ ?_ ?_
      ·intro s501 r h
       refine z3 1 ⟨[(4, (.ptr 500000 0)), (6, (.ptr 500001 0)), (8, (.ptr 500002 0)), (14, (.ptr 500003 0)), (16, (.row (.top 500004) 131)), (17, (.ptr 500005 0)), (18, (vB s501.1)), (65, (vI s501.2.1)), (66, (vB (decide (s501.2.1 < 4))))], [(500000, .box (c_Sheet s0)), (500001, .box (c_Piece x2)), (500002, .box [(vI 0), (vI 0), (vI 0), (vI 0), (vI 0)]), (500003, .box (c_Rect r18.1)), (500004, .row 131 [] (List.map c_nest_obstacle r20)), (500005, .box [(vI 0), (vI 0), (vI s501.2.2.1), (vI s501.2.2.2.1), (vI s501.2.2.2.2)])]⟩ (by kernel_rfl) ?_
       refine sem_seq (by kernel_rfl) ?_
       refine sem_cond (decide (s501.2.1 < 4)) (by kernel_rfl) (by kernel_rfl) (fun hb => ?_) (fun hb => ?_)
       ·replace h := iteT hb h
        refine z4 ⟨[(4, (.ptr 500000 0)), (6, (.ptr 500001 0)), (8, (.ptr 500002 0)), (14, (.ptr 500003 0)), (16, (.row (.top 500004) 131)), (17, (.ptr 500005 0)), (18, (vB s501.1)), (65, (vI s501.2.1))], [(500000, .box (c_Sheet s0)), (500001, .box (c_Piece x2)), (500002, .box [(vI 0), (vI 0), (vI 0), (vI 0), (vI 0)]), (500003, .box (c_Rect r18.1)), (500004, .row 131 [] (List.map c_nest_obstacle r20)), (500005, .box [(vI 0), (vI 0), (vI s501.2.2.1), (vI s501.2.2.2.1), (vI s501.2.2.2.2)])]⟩ (by kernel_rfl) ?_
        refine sem_seqJ (fun (j620 : Bool × Int × Int × Int) => ⟨[(4, (.ptr 500000 0)), (6, (.ptr 500001 0)), (8, (.ptr 500002 0)), (14, (.ptr 500003 0)), (16, (.row (.top 500004) 131)), (17, (.ptr 500005 0)), (18, (vB j620.1)), (65, (vI s501.2.1))], [(500000, .box (c_Sheet s0)), (500001, .box (c_Piece x2)), (500002, .box [(vI 0), (vI 0), (vI 0), (vI 0), (vI 0)]), (500003, .box (c_Rect r18.1)), (500004, .row 131 [] (List.map c_nest_obstacle r20)), (500005, .box [(vI 0), (vI 0), (vI j620.2.1), (vI j620.2.2.1), (vI j620.2.2.2)])]⟩) (nest_Fit_k_k1 s501) r (by kernel_rfl) (fun j620 h => ?_) ?_
        ·refine sem_region (by kernel_rfl) ?_
         refine z6 2 (by kernel_rfl) (fun τ hτ => ?_)
         obtain rfl := Option.some.inj h
         exact lk_nextS hτ (here (by kernel_rfl))
        refine sem_block (by kernel_rfl) ?_
        refine z3 2 ⟨[(4, (.ptr 500000 0)), (6, (.ptr 500001 0)), (8, (.ptr 500002 0)), (14, (.ptr 500003 0)), (16, (.row (.top 500004) 131)), (17, (.ptr 500005 0)), (18, (vB s501.1)), (19, (vI s501.2.1)), (65, (vI s501.2.1))], [(500000, .box (c_Sheet s0)), (500001, .box (c_Piece x2)), (500002, .box [(vI 0), (vI 0), (vI 0), (vI 0), (vI 0)]), (500003, .box (c_Rect r18.1)), (500004, .row 131 [] (List.map c_nest_obstacle r20)), (500005, .box [(vI 0), (vI 0), (vI s501.2.2.1), (vI s501.2.2.2.1), (vI s501.2.2.2.2)])]⟩ (by kernel_rfl) ?_
        refine sem_seq (by kernel_rfl) ?_
        refine z7 (by kernel_rfl) ?_
        refine evs_run 3 (by kernel_rfl) ?_
        obtain ⟨r624, hr624, h⟩ := bindS h
        refine evs_callP [] (by kernel_rfl) (W.nest_Allowed_k_ok hr624) (by kernel_rfl) (.inl rfl) (by kernel_rfl) ?_
        refine z1 1 ⟨[(4, (.ptr 500000 0)), (6, (.ptr 500001 0)), (8, (.ptr 500002 0)), (14, (.ptr 500003 0)), (16, (.row (.top 500004) 131)), (17, (.ptr 500005 0)), (18, (vB s501.1)), (19, (vI s501.2.1)), (65, (vI s501.2.1)), (72, (vB (!r624)))], [(500000, .box (c_Sheet s0)), (500001, .box (c_Piece x2)), (500002, .box [(vI 0), (vI 0), (vI 0), (vI 0), (vI 0)]), (500003, .box (c_Rect r18.1)), (500004, .row 131 [] (List.map c_nest_obstacle r20)), (500005, .box [(vI 0), (vI 0), (vI s501.2.2.1), (vI s501.2.2.2.1), (vI s501.2.2.2.2)])]⟩ (by kernel_rfl) ?_
        refine sem_cond (!r624) (by kernel_rfl) (by kernel_rfl) (fun hb => ?_) (fun hb => ?_)
        ·replace h := iteT hb h
         exact nomatch h
        ·replace h := iteF hb h
         refine z4 ⟨[(4, (.ptr 500000 0)), (6, (.ptr 500001 0)), (8, (.ptr 500002 0)), (14, (.ptr 500003 0)), (16, (.row (.top 500004) 131)), (17, (.ptr 500005 0)), (18, (vB s501.1)), (19, (vI s501.2.1)), (65, (vI s501.2.1))], [(500000, .box (c_Sheet s0)), (500001, .box (c_Piece x2)), (500002, .box [(vI 0), (vI 0), (vI 0), (vI 0), (vI 0)]), (500003, .box (c_Rect r18.1)), (500004, .row 131 [] (List.map c_nest_obstacle r20)), (500005, .box [(vI 0), (vI 0), (vI s501.2.2.1), (vI s501.2.2.2.1), (vI s501.2.2.2.2)])]⟩ (by kernel_rfl) ?_
         refine z7 (by kernel_rfl) ?_
         refine evs_run 3 (by kernel_rfl) ?_
         obtain ⟨r626, hr626, h⟩ := bindS h
         refine evs_callS [] [(0, 700150), (1, 700151), (2, 700152), (3, 700153)] [] (by kernel_rfl) (W.nest_put_k_ok hr626) (by kernel_rfl) (by kernel_rfl) (.inl rfl) ?_
         refine z1 6 ⟨[(4, (.ptr 500000 0)), (6, (.ptr 500001 0)), (8, (.ptr 500002 0)), (14, (.ptr 500003 0)), (16, (.row (.top 500004) 131)), (17, (.ptr 500005 0)), (18, (vB s501.1)), (19, (vI s501.2.1)), (20, (.ptr 20 0)), (21, (vI r626.2)), (65, (vI s501.2.1))], [(20, .box [(vS r626.1.Name), (vS r626.1.Material), (vI r626.1.Gauge), (vI r626.1.Grain), (.row (.top 700151) 86), (.row (.top 700152) 86), (.row (.top 700153) 86)]), (500000, .box (c_Sheet s0)), (500001, .box (c_Piece x2)), (500002, .box [(vI 0), (vI 0), (vI 0), (vI 0), (vI 0)]), (500003, .box (c_Rect r18.1)), (500004, .row 131 [] (List.map c_nest_obstacle r20)), (500005, .box [(vI 0), (vI 0), (vI s501.2.2.1), (vI s501.2.2.2.1), (vI s501.2.2.2.2)]), (700151, .row 86 [] (List.map c_Rect r626.1.Rects)), (700152, .row 86 [] (List.map c_Rect r626.1.Cuts)), (700153, .row 86 [] (List.map c_Rect r626.1.Forms))]⟩ (by kernel_rfl) ?_
         refine sem_seq (by kernel_rfl) ?_
         refine z3 2 ⟨[(4, (.ptr 500000 0)), (6, (.ptr 500001 0)), (8, (.ptr 500002 0)), (14, (.ptr 500003 0)), (16, (.row (.top 500004) 131)), (17, (.ptr 500005 0)), (18, (vB s501.1)), (19, (vI s501.2.1)), (20, (.ptr 20 0)), (65, (vI s501.2.1)), (81, (vB (r626.2 != 0)))], [(20, .box [(vS r626.1.Name), (vS r626.1.Material), (vI r626.1.Gauge), (vI r626.1.Grain), (.row (.top 700151) 86), (.row (.top 700152) 86), (.row (.top 700153) 86)]), (500000, .box (c_Sheet s0)), (500001, .box (c_Piece x2)), (500002, .box [(vI 0), (vI 0), (vI 0), (vI 0), (vI 0)]), (500003, .box (c_Rect r18.1)), (500004, .row 131 [] (List.map c_nest_obstacle r20)), (500005, .box [(vI 0), (vI 0), (vI s501.2.2.1), (vI s501.2.2.2.1), (vI s501.2.2.2.2)]), (700151, .row 86 [] (List.map c_Rect r626.1.Rects)), (700152, .row 86 [] (List.map c_Rect r626.1.Cuts)), (700153, .row 86 [] (List.map c_Rect r626.1.Forms))]⟩ (by kernel_rfl) ?_
         refine sem_cond (r626.2 != 0) (by kernel_rfl) (by kernel_rfl) (fun hb => ?_) (fun hb => ?_)
         ·replace h := iteT hb h
          exact nomatch h
         ·replace h := iteF hb h
          refine z4 ⟨[(4, (.ptr 500000 0)), (6, (.ptr 500001 0)), (8, (.ptr 500002 0)), (14, (.ptr 500003 0)), (16, (.row (.top 500004) 131)), (17, (.ptr 500005 0)), (18, (vB s501.1)), (19, (vI s501.2.1)), (20, (.ptr 20 0)), (65, (vI s501.2.1))], [(20, .box [(vS r626.1.Name), (vS r626.1.Material), (vI r626.1.Gauge), (vI r626.1.Grain), (.row (.top 700151) 86), (.row (.top 700152) 86), (.row (.top 700153) 86)]), (500000, .box (c_Sheet s0)), (500001, .box (c_Piece x2)), (500002, .box [(vI 0), (vI 0), (vI 0), (vI 0), (vI 0)]), (500003, .box (c_Rect r18.1)), (500004, .row 131 [] (List.map c_nest_obstacle r20)), (500005, .box [(vI 0), (vI 0), (vI s501.2.2.1), (vI s501.2.2.2.1), (vI s501.2.2.2.2)]), (700151, .row 86 [] (List.map c_Rect r626.1.Rects)), (700152, .row 86 [] (List.map c_Rect r626.1.Cuts)), (700153, .row 86 [] (List.map c_Rect r626.1.Forms))]⟩ (by kernel_rfl) ?_
          refine z3 7 ⟨[(4, (.ptr 500000 0)), (6, (.ptr 500001 0)), (8, (.ptr 500002 0)), (14, (.ptr 500003 0)), (16, (.row (.top 500004) 131)), (17, (.ptr 500005 0)), (18, (vB s501.1)), (19, (vI s501.2.1)), (20, (.ptr 20 0)), (22, (.ptr 22 0)), (65, (vI s501.2.1))], [(20, .box [(vS r626.1.Name), (vS r626.1.Material), (vI r626.1.Gauge), (vI r626.1.Grain), (.row (.top 700151) 86), (.row (.top 700152) 86), (.row (.top 700153) 86)]), (22, .box [(.row (.top 700151) 86), (.row (.top 500004) 131), (vI r18.1.X), (vI r18.1.Y), (vI r18.1.W), (vI r18.1.H), (vI 0), (vI 0)]), (500000, .box (c_Sheet s0)), (500001, .box (c_Piece x2)), (500002, .box [(vI 0), (vI 0), (vI 0), (vI 0), (vI 0)]), (500003, .box (c_Rect r18.1)), (500004, .row 131 [] (List.map c_nest_obstacle r20)), (500005, .box [(vI 0), (vI 0), (vI s501.2.2.1), (vI s501.2.2.2.1), (vI s501.2.2.2.2)]), (700151, .row 86 [] (List.map c_Rect r626.1.Rects)), (700152, .row 86 [] (List.map c_Rect r626.1.Cuts)), (700153, .row 86 [] (List.map c_Rect r626.1.Forms))]⟩ (by kernel_rfl) ?_
          refine sem_seq (by kernel_rfl) ?_
          refine z7 (by kernel_rfl) ?_
          refine evs_run 2 (by kernel_rfl) ?_
          refine evs_op (st_len (c := c_Rect) (l := r626.1.Rects) (x := (.row (.top 700151) 86)) (by kernel_rfl) (by kernel_rfl)) ?_
          refine z1 1 ⟨[(4, (.ptr 500000 0)), (6, (.ptr 500001 0)), (8, (.ptr 500002 0)), (14, (.ptr 500003 0)), (16, (.row (.top 500004) 131)), (17, (.ptr 500005 0)), (18, (vB s501.1)), (19, (vI s501.2.1)), (22, (.ptr 22 0)), (65, (vI s501.2.1)), (88, (.row (.top 700151) 86)), (89, (vI (r626.1.Rects.length : Int))), (90, (vI 0))], [(22, .box [(.row (.top 700151) 86), (.row (.top 500004) 131), (vI r18.1.X), (vI r18.1.Y), (vI r18.1.W), (vI r18.1.H), (vI 0), (vI 0)]), (500000, .box (c_Sheet s0)), (500001, .box (c_Piece x2)), (500002, .box [(vI 0), (vI 0), (vI 0), (vI 0), (vI 0)]), (500003, .box (c_Rect r18.1)), (500004, .row 131 [] (List.map c_nest_obstacle r20)), (500005, .box [(vI 0), (vI 0), (vI s501.2.2.1), (vI s501.2.2.2.1), (vI s501.2.2.2.2)]), (700151, .row 86 [] (List.map c_Rect r626.1.Rects))]⟩ (by kernel_rfl) ?_
          refine sem_block (by kernel_rfl) ?_
          obtain ⟨x656, hx656, h⟩ := bindS h
          refine sem_loopS (fun (s647 : Int × Int × Int) => ⟨[(4, (.ptr 500000 0)), (6, (.ptr 500001 0)), (8, (.ptr 500002 0)), (14, (.ptr 500003 0)), (16, (.row (.top 500004) 131)), (17, (.ptr 500005 0)), (18, (vB s501.1)), (19, (vI s501.2.1)), (22, (.ptr 500006 0)), (65, (vI s501.2.1)), (88, (.row (.top 500007) 86)), (89, (vI (r626.1.Rects.length : Int))), (90, (vI s647.1))], [(500000, .box (c_Sheet s0)), (500001, .box (c_Piece x2)), (500002, .box [(vI 0), (vI 0), (vI 0), (vI 0), (vI 0)]), (500003, .box (c_Rect r18.1)), (500004, .row 131 [] (List.map c_nest_obstacle r20)), (500005, .box [(vI 0), (vI 0), (vI s501.2.2.1), (vI s501.2.2.2.1), (vI s501.2.2.2.2)]), (500006, .box [(.row (.top 500007) 86), (.row (.top 500004) 131), (vI r18.1.X), (vI r18.1.Y), (vI r18.1.W), (vI r18.1.H), (vI s647.2.1), (vI s647.2.2)]), (500007, .row 86 [] (List.map c_Rect r626.1.Rects))]⟩) (fun (x656 : Int × Int) => (.exit 2, ⟨[(4, (.ptr 500000 0)), (6, (.ptr 500001 0)), (8, (.ptr 500002 0)), (14, (.ptr 500003 0)), (16, (.row (.top 500004) 131)), (17, (.ptr 500005 0)), (18, (vB s501.1)), (19, (vI s501.2.1)), (22, (.ptr 500006 0)), (65, (vI s501.2.1))], [(500000, .box (c_Sheet s0)), (500001, .box (c_Piece x2)), (500002, .box [(vI 0), (vI 0), (vI 0), (vI 0), (vI 0)]), (500003, .box (c_Rect r18.1)), (500004, .row 131 [] (List.map c_nest_obstacle r20)), (500005, .box [(vI 0), (vI 0), (vI s501.2.2.1), (vI s501.2.2.2.1), (vI s501.2.2.2.2)]), (500006, .box [(.row (.top 500007) 86), (.row (.top 500004) 131), (vI r18.1.X), (vI r18.1.Y), (vI r18.1.W), (vI r18.1.H), (vI x656.1), (vI x656.2)]), (500007, .row 86 [] (List.map c_Rect r626.1.Rects))]⟩)) (nest_Fit_k_l2 r626) (0, 0, 0) x656 (by kernel_rfl) (subR_prep [] [(22, 500006), (500000, 500000), (500001, 500001), (500002, 500002), (500003, 500003), (500004, 500004), (500005, 500005), (700151, 500007)] (by kernel_rfl) rfl rfl (by kernel_rfl)) (iter_loop hx656) ?_ ?_ ?_
          ·intro s647 r h
           refine z3 1 ⟨[(4, (.ptr 500000 0)), (6, (.ptr 500001 0)), (8, (.ptr 500002 0)), (14, (.ptr 500003 0)), (16, (.row (.top 500004) 131)), (17, (.ptr 500005 0)), (18, (vB s501.1)), (19, (vI s501.2.1)), (22, (.ptr 500006 0)), (65, (vI s501.2.1)), (88, (.row (.top 500007) 86)), (89, (vI (r626.1.Rects.length : Int))), (90, (vI s647.1)), (91, (vB (decide (s647.1 < (r626.1.Rects.length : Int)))))], [(500000, .box (c_Sheet s0)), (500001, .box (c_Piece x2)), (500002, .box [(vI 0), (vI 0), (vI 0), (vI 0), (vI 0)]), (500003, .box (c_Rect r18.1)), (500004, .row 131 [] (List.map c_nest_obstacle r20)), (500005, .box [(vI 0), (vI 0), (vI s501.2.2.1), (vI s501.2.2.2.1), (vI s501.2.2.2.2)]), (500006, .box [(.row (.top 500007) 86), (.row (.top 500004) 131), (vI r18.1.X), (vI r18.1.Y), (vI r18.1.W), (vI r18.1.H), (vI s647.2.1), (vI s647.2.2)]), (500007, .row 86 [] (List.map c_Rect r626.1.Rects))]⟩ (by kernel_rfl) ?_
           refine sem_seq (by kernel_rfl) ?_
           refine sem_cond (decide (s647.1 < (r626.1.Rects.length : Int))) (by kernel_rfl) (by kernel_rfl) (fun hb => ?_) (fun hb => ?_)
           ·replace h := iteT hb h
            refine z4 ⟨[(4, (.ptr 500000 0)), (6, (.ptr 500001 0)), (8, (.ptr 500002 0)), (14, (.ptr 500003 0)), (16, (.row (.top 500004) 131)), (17, (.ptr 500005 0)), (18, (vB s501.1)), (19, (vI s501.2.1)), (22, (.ptr 500006 0)), (65, (vI s501.2.1)), (88, (.row (.top 500007) 86)), (89, (vI (r626.1.Rects.length : Int))), (90, (vI s647.1))], [(500000, .box (c_Sheet s0)), (500001, .box (c_Piece x2)), (500002, .box [(vI 0), (vI 0), (vI 0), (vI 0), (vI 0)]), (500003, .box (c_Rect r18.1)), (500004, .row 131 [] (List.map c_nest_obstacle r20)), (500005, .box [(vI 0), (vI 0), (vI s501.2.2.1), (vI s501.2.2.2.1), (vI s501.2.2.2.2)]), (500006, .box [(.row (.top 500007) 86), (.row (.top 500004) 131), (vI r18.1.X), (vI r18.1.Y), (vI r18.1.W), (vI r18.1.H), (vI s647.2.1), (vI s647.2.2)]), (500007, .row 86 [] (List.map c_Rect r626.1.Rects))]⟩ (by kernel_rfl) ?_
            refine sem_seq (by kernel_rfl) ?_
            refine sem_block (by kernel_rfl) ?_
            refine z7 (by kernel_rfl) ?_
            obtain ⟨x655, hx655, h⟩ := bindS h
            refine evs_op (st_idxO (c := c_Rect) (l := r626.1.Rects) (i := s647.1) (kd := .i64) (kk := (.top 500007)) (e := 86) (sz := 4) (by kernel_rfl) (by kernel_rfl) hx655 rfl) ?_
            refine evs_op (st_ldO (c := c_Rect) (l := r626.1.Rects) (i := (Int.toNat s647.1)) (v := (.agg (c_Rect x655))) (agg := true) (sz := 4) (kk := (.top 500007)) (e := 86) (off := 0) (J := []) (by kernel_rfl) (by kernel_rfl) (by kernel_rfl) ((idxS hx655).2) (by kernel_rfl)) ?_
            refine z1 2 ⟨[(4, (.ptr 500000 0)), (6, (.ptr 500001 0)), (8, (.ptr 500002 0)), (14, (.ptr 500003 0)), (16, (.row (.top 500004) 131)), (17, (.ptr 500005 0)), (18, (vB s501.1)), (19, (vI s501.2.1)), (22, (.ptr 500006 0)), (24, (.ptr 24 0)), (65, (vI s501.2.1)), (88, (.row (.top 500007) 86)), (89, (vI (r626.1.Rects.length : Int))), (90, (vI s647.1))], [(24, .box (c_Rect x655)), (500000, .box (c_Sheet s0)), (500001, .box (c_Piece x2)), (500002, .box [(vI 0), (vI 0), (vI 0), (vI 0), (vI 0)]), (500003, .box (c_Rect r18.1)), (500004, .row 131 [] (List.map c_nest_obstacle r20)), (500005, .box [(vI 0), (vI 0), (vI s501.2.2.1), (vI s501.2.2.2.1), (vI s501.2.2.2.2)]), (500006, .box [(.row (.top 500007) 86), (.row (.top 500004) 131), (vI r18.1.X), (vI r18.1.Y), (vI r18.1.W), (vI r18.1.H), (vI s647.2.1), (vI s647.2.2)]), (500007, .row 86 [] (List.map c_Rect r626.1.Rects))]⟩ (by kernel_rfl) ?_
            refine sem_drawN [(17, [500006])] [] [] [(10, [500006]), (11, [500006]), (12, [500006]), (13, [500006]), (14, [500006]), (15, [500006])] [] 18 (by kernel_rfl) (by kernel_rfl) (by kernel_rfl) ?_
            refine evd_run 17 (by kernel_rfl) ?_
            refine evd_set (g := 500006) (ob := .box [(.row (.top 500007) 86), (.row (.top 500004) 131), (vI r18.1.X), (vI r18.1.Y), (vI r18.1.W), (vI r18.1.H), (vI (imax s647.2.1 (iadd x655.X x655.W))), (vI s647.2.2)]) (v := vU) (by kernel_rfl) (by kernel_rfl) (by kernel_rfl) (by kernel_rfl) (by kernel_rfl) ?_
            refine evd_end (by kernel_rfl) ?_
            refine evo_run 2 (by kernel_rfl) ?_
            refine evo_endS (by kernel_rfl) (fun τ hτ => ?_)
            refine bl_normal ?_
            refine th_normalS hτ ⟨[(4, (.ptr 500000 0)), (6, (.ptr 500001 0)), (8, (.ptr 500002 0)), (14, (.ptr 500003 0)), (16, (.row (.top 500004) 131)), (17, (.ptr 500005 0)), (18, (vB s501.1)), (19, (vI s501.2.1)), (22, (.ptr 500006 0)), (65, (vI s501.2.1)), (88, (.row (.top 500007) 86)), (89, (vI (r626.1.Rects.length : Int))), (90, (vI s647.1))], [(500000, .box (c_Sheet s0)), (500001, .box (c_Piece x2)), (500002, .box [(vI 0), (vI 0), (vI 0), (vI 0), (vI 0)]), (500003, .box (c_Rect r18.1)), (500004, .row 131 [] (List.map c_nest_obstacle r20)), (500005, .box [(vI 0), (vI 0), (vI s501.2.2.1), (vI s501.2.2.2.1), (vI s501.2.2.2.2)]), (500006, .box [(.row (.top 500007) 86), (.row (.top 500004) 131), (vI r18.1.X), (vI r18.1.Y), (vI r18.1.W), (vI r18.1.H), (vI (imax s647.2.1 (iadd x655.X x655.W))), (vI (imax s647.2.2 (iadd x655.Y x655.H)))]), (500007, .row 86 [] (List.map c_Rect r626.1.Rects))]⟩ (here (by kernel_rfl)) ?_
            refine sem_region (by kernel_rfl) ?_
            refine z6 2 (by kernel_rfl) (fun τ hτ => ?_)
            obtain rfl := Option.some.inj h
            exact lk_nextS hτ (here (by kernel_rfl))
           ·replace h := iteF hb h
            refine sem_exitS 2 (by kernel_rfl) rfl (fun τ hτ => ?_)
            refine th_exit ?_
            obtain rfl := Option.some.inj h
            exact lk_outS hτ rfl (here (by kernel_rfl))
          ·intro x
           rfl
          ·intro τ hτ
           refine bl_hit (by kernel_rfl) ?_
           refine th_normalS hτ ⟨[(4, (.ptr 500000 0)), (6, (.ptr 500001 0)), (8, (.ptr 500002 0)), (14, (.ptr 500003 0)), (16, (.row (.top 500004) 131)), (17, (.ptr 500005 0)), (18, (vB s501.1)), (19, (vI s501.2.1)), (22, (.ptr 500006 0)), (65, (vI s501.2.1))], [(500000, .box (c_Sheet s0)), (500001, .box (c_Piece x2)), (500002, .box [(vI 0), (vI 0), (vI 0), (vI 0), (vI 0)]), (500003, .box (c_Rect r18.1)), (500004, .row 131 [] (List.map c_nest_obstacle r20)), (500005, .box [(vI 0), (vI 0), (vI s501.2.2.1), (vI s501.2.2.2.1), (vI s501.2.2.2.2)]), (500006, .box [(.row (.top 500007) 86), (.row (.top 500004) 131), (vI r18.1.X), (vI r18.1.Y), (vI r18.1.W), (vI r18.1.H), (vI x656.1), (vI x656.2)]), (500007, .row 86 [] (List.map c_Rect r626.1.Rects))]⟩ (here (by kernel_rfl)) ?_
           refine z7 (by kernel_rfl) ?_
           refine evs_run 1 (by kernel_rfl) ?_
           obtain ⟨r658, hr658, h⟩ := bindS h
           refine evs_callP [500007, 500004] (by kernel_rfl) (W.nest_search_place_k_ok hr658) (by kernel_rfl) (.inr rfl) (by kernel_rfl) ?_
           refine z1 7 ⟨[(4, (.ptr 500000 0)), (6, (.ptr 500001 0)), (8, (.ptr 500002 0)), (14, (.ptr 500003 0)), (16, (.row (.top 500004) 131)), (17, (.ptr 500005 0)), (18, (vB s501.1)), (19, (vI s501.2.1)), (25, (vI r658.1)), (26, (vI r658.2.1)), (27, (vB r658.2.2)), (65, (vI s501.2.1))], [(500000, .box (c_Sheet s0)), (500001, .box (c_Piece x2)), (500002, .box [(vI 0), (vI 0), (vI 0), (vI 0), (vI 0)]), (500003, .box (c_Rect r18.1)), (500004, .row 131 [] (List.map c_nest_obstacle r20)), (500005, .box [(vI 0), (vI 0), (vI s501.2.2.1), (vI s501.2.2.2.1), (vI s501.2.2.2.2)])]⟩ (by kernel_rfl) ?_
           refine sem_seq (by kernel_rfl) ?_
           obtain ⟨j659, hj659, h⟩ := bindS h
           refine sem_regionC ⟨[(4, (.ptr 500000 0)), (6, (.ptr 500001 0)), (8, (.ptr 500002 0)), (14, (.ptr 500003 0)), (16, (.row (.top 500004) 131)), (17, (.ptr 500005 0)), (18, (vB j659.1)), (19, (vI s501.2.1)), (25, (vI r658.1)), (26, (vI r658.2.1)), (65, (vI s501.2.1)), (141, (vB j659.2))], [(500000, .box (c_Sheet s0)), (500001, .box (c_Piece x2)), (500002, .box [(vI 0), (vI 0), (vI 0), (vI 0), (vI 0)]), (500003, .box (c_Rect r18.1)), (500004, .row 131 [] (List.map c_nest_obstacle r20)), (500005, .box [(vI 0), (vI 0), (vI s501.2.2.1), (vI s501.2.2.2.1), (vI s501.2.2.2.2)])]⟩ (by kernel_rfl) ?_ (fun τ hτ => ?_)
           ·replace h := hj659
            refine evs_run 2 (by kernel_rfl) ?_
            refine evs_split r658.2.2 (fun b0 => ⟨[(4, (.ptr 500000 0)), (6, (.ptr 500001 0)), (8, (.ptr 500002 0)), (14, (.ptr 500003 0)), (16, (.row (.top 500004) 131)), (17, (.ptr 500005 0)), (18, (vB s501.1)), (19, (vI s501.2.1)), (25, (vI r658.1)), (26, (vI r658.2.1)), (65, (vI s501.2.1)), (120, (vB b0))], [(500000, .box (c_Sheet s0)), (500001, .box (c_Piece x2)), (500002, .box [(vI 0), (vI 0), (vI 0), (vI 0), (vI 0)]), (500003, .box (c_Rect r18.1)), (500004, .row 131 [] (List.map c_nest_obstacle r20)), (500005, .box [(vI 0), (vI 0), (vI s501.2.2.1), (vI s501.2.2.2.1), (vI s501.2.2.2.2)])]⟩) (by kernel_rfl) (fun hb => ?_) (fun hb => ?_)
            ·replace h := iteT hb h
             refine evs_run 3 (by kernel_rfl) ?_
             refine evs_split s501.1 (fun b0 => ⟨[(4, (.ptr 500000 0)), (6, (.ptr 500001 0)), (8, (.ptr 500002 0)), (14, (.ptr 500003 0)), (16, (.row (.top 500004) 131)), (17, (.ptr 500005 0)), (18, (vB b0)), (19, (vI s501.2.1)), (25, (vI r658.1)), (26, (vI r658.2.1)), (65, (vI s501.2.1)), (120, (vB true)), (123, (vB (!b0)))], [(500000, .box (c_Sheet s0)), (500001, .box (c_Piece x2)), (500002, .box [(vI 0), (vI 0), (vI 0), (vI 0), (vI 0)]), (500003, .box (c_Rect r18.1)), (500004, .row 131 [] (List.map c_nest_obstacle r20)), (500005, .box [(vI 0), (vI 0), (vI s501.2.2.1), (vI s501.2.2.2.1), (vI s501.2.2.2.2)])]⟩) (by kernel_rfl) (fun hb => ?_) (fun hb => ?_)
             ·replace h := iteT hb h
              refine evs_run 6 (by kernel_rfl) ?_
              refine evs_split (decide (r658.2.1 < s501.2.2.2.1)) (fun b0 => ⟨[(4, (.ptr 500000 0)), (6, (.ptr 500001 0)), (8, (.ptr 500002 0)), (14, (.ptr 500003 0)), (16, (.row (.top 500004) 131)), (17, (.ptr 500005 0)), (18, (vB true)), (19, (vI s501.2.1)), (25, (vI r658.1)), (26, (vI r658.2.1)), (65, (vI s501.2.1)), (120, (vB true)), (129, (vB b0))], [(500000, .box (c_Sheet s0)), (500001, .box (c_Piece x2)), (500002, .box [(vI 0), (vI 0), (vI 0), (vI 0), (vI 0)]), (500003, .box (c_Rect r18.1)), (500004, .row 131 [] (List.map c_nest_obstacle r20)), (500005, .box [(vI 0), (vI 0), (vI s501.2.2.1), (vI s501.2.2.2.1), (vI s501.2.2.2.2)])]⟩) (by kernel_rfl) (fun hb => ?_) (fun hb => ?_)
              ·replace h := iteT hb h
               refine z6 12 (by kernel_rfl) (fun τ hτ => ?_)
               obtain rfl := Option.some.inj h
               exact leafC hτ (here (by kernel_rfl))
              ·replace h := iteF hb h
               refine evs_run 5 (by kernel_rfl) ?_
               refine evs_split (r658.2.1 == s501.2.2.2.1) (fun b0 => ⟨[(4, (.ptr 500000 0)), (6, (.ptr 500001 0)), (8, (.ptr 500002 0)), (14, (.ptr 500003 0)), (16, (.row (.top 500004) 131)), (17, (.ptr 500005 0)), (18, (vB true)), (19, (vI s501.2.1)), (25, (vI r658.1)), (26, (vI r658.2.1)), (65, (vI s501.2.1)), (120, (vB true)), (129, (vB false)), (134, (vB b0))], [(500000, .box (c_Sheet s0)), (500001, .box (c_Piece x2)), (500002, .box [(vI 0), (vI 0), (vI 0), (vI 0), (vI 0)]), (500003, .box (c_Rect r18.1)), (500004, .row 131 [] (List.map c_nest_obstacle r20)), (500005, .box [(vI 0), (vI 0), (vI s501.2.2.1), (vI s501.2.2.2.1), (vI s501.2.2.2.2)])]⟩) (by kernel_rfl) (fun hb => ?_) (fun hb => ?_)
               ·replace h := iteT hb h
                refine z6 7 (by kernel_rfl) (fun τ hτ => ?_)
                obtain rfl := Option.some.inj h
                exact leafC hτ (here (by kernel_rfl))
               ·replace h := iteF hb h
                refine z6 7 (by kernel_rfl) (fun τ hτ => ?_)
                obtain rfl := Option.some.inj h
                exact leafC hτ (here (by kernel_rfl))
             ·replace h := iteF hb h
              refine z6 18 (by kernel_rfl) (fun τ hτ => ?_)
              obtain rfl := Option.some.inj h
              exact leafC hτ (here (by kernel_rfl))
            ·replace h := iteF hb h
             exact nomatch h
           refine th_normalS hτ ⟨[(4, (.ptr 500000 0)), (6, (.ptr 500001 0)), (8, (.ptr 500002 0)), (14, (.ptr 500003 0)), (16, (.row (.top 500004) 131)), (17, (.ptr 500005 0)), (18, (vB j659.1)), (19, (vI s501.2.1)), (25, (vI r658.1)), (26, (vI r658.2.1)), (65, (vI s501.2.1)), (141, (vB j659.2))], [(500000, .box (c_Sheet s0)), (500001, .box (c_Piece x2)), (500002, .box [(vI 0), (vI 0), (vI 0), (vI 0), (vI 0)]), (500003, .box (c_Rect r18.1)), (500004, .row 131 [] (List.map c_nest_obstacle r20)), (500005, .box [(vI 0), (vI 0), (vI s501.2.2.1), (vI s501.2.2.2.1), (vI s501.2.2.2.2)])]⟩ (here (by kernel_rfl)) ?_
           refine sem_cond j659.2 (by kernel_rfl) (by kernel_rfl) (fun hb => ?_) (fun hb => ?_)
           ·replace h := iteT hb h
            refine sem_region (by kernel_rfl) ?_
            refine z6 6 (by kernel_rfl) (fun τ hτ => ?_)
            refine bl_normal ?_
            exact jk_normal (true, r658.1, r658.2.1, s501.2.1) h hτ (here (by kernel_rfl))
           ·replace h := iteF hb h
            refine sem_skipS (by kernel_rfl) (fun τ hτ => ?_)
            refine bl_normal ?_
            exact jk_normal (j659.1, s501.2.2.1, s501.2.2.2.1, s501.2.2.2.2) h hτ (here (by kernel_rfl))
       ·replace h := iteF hb h
        refine sem_exitS 0 (by kernel_rfl) rfl (fun τ hτ => ?_)
        refine th_exit ?_
        obtain rfl := Option.some.inj h
        exact lk_outS hτ rfl (subR_prep [] [(500002, 500000), (500005, 500001)] (by kernel_rfl) rfl rfl (by kernel_rfl))
      ·intro x
       rfl
      ·intro τ hτ
       refine bl_hit (by kernel_rfl) ?_
       refine th_normalS hτ ⟨[(8, (.ptr 500000 0)), (17, (.ptr 500001 0)), (18, (vB x660.1))], [(500000, .box [(vI 0), (vI 0), (vI 0), (vI 0), (vI 0)]), (500001, .box [(vI 0), (vI 0), (vI x660.2.1), (vI x660.2.2.1), (vI x660.2.2.2)])]⟩ (here (by kernel_rfl)) ?_
       refine z8 5 ⟨[(8, (.ptr 500000 0)), (9, (vB x660.1)), (10, (vI 0))], [(500000, .box [(vI 0), (vI 0), (vI x660.2.1), (vI x660.2.2.1), (vI x660.2.2.2)])]⟩ (by kernel_rfl) (fun τ hτ => ?_)
       obtain rfl := Option.some.inj h
       exact rk_ret hτ [(8, (.ptr 0 0)), (9, (vB x660.1)), (10, (vI 0))] (subR_prep [] [(500000, 0)] (by kernel_rfl) rfl rfl (by kernel_rfl)) (by kernel_rfl)
theorem W.nest_lists_k_ok {sheets : (List Sheet)} {pieces : (List Piece)} {r : Int} (h : nest_lists_k sheets pieces = some r) : PC G.P 77 [(.sl (List.map c_Sheet sheets)), (.sl (List.map c_Piece pieces))] [] (vI r) [] := by
 refine pc_of G (fn := Tryz.f77) Tryz.func77 (by kernel_rfl) (by kernel_rfl) (by kernel_rfl) (by kernel_rfl) (by kernel_rfl) ?_
 refine sem_set ⟨[(0, (.sl (List.map c_Sheet sheets))), (1, (.sl (List.map c_Piece pieces)))], []⟩ (by kernel_rfl) ?_
 refine z3 1 ⟨[(0, (.sl (List.map c_Sheet sheets))), (1, (.sl (List.map c_Piece pieces)))], []⟩ (by kernel_rfl) ?_
 refine sem_seq (by kernel_rfl) ?_
 refine z7 (by kernel_rfl) ?_
 refine evs_run 1 (by kernel_rfl) ?_
 refine evs_op (st_len (c := c_Sheet) (l := sheets) (x := (.sl (List.map c_Sheet sheets))) (by kernel_rfl) (by kernel_rfl)) ?_
 refine evs_run 2 (by kernel_rfl) ?_
 refine evs_split (decide ((sheets.length : Int) > 4)) (fun b0 => ⟨[(0, (.sl (List.map c_Sheet sheets))), (1, (.sl (List.map c_Piece pieces))), (14, (vB b0))], []⟩) (by kernel_rfl) (fun hb => ?_) (fun hb => ?_)
 ·replace h := iteT hb h
  exact nomatch h
 ·replace h := iteF hb h
  refine evs_run 1 (by kernel_rfl) ?_
  refine evs_op (st_len (c := c_Piece) (l := pieces) (x := (.sl (List.map c_Piece pieces))) (by kernel_rfl) (by kernel_rfl)) ?_
  refine z1 2 ⟨[(0, (.sl (List.map c_Sheet sheets))), (1, (.sl (List.map c_Piece pieces))), (18, (vB (decide ((pieces.length : Int) > 8))))], []⟩ (by kernel_rfl) ?_
  refine sem_cond (decide ((pieces.length : Int) > 8)) (by kernel_rfl) (by kernel_rfl) (fun hb => ?_) (fun hb => ?_)
  ·replace h := iteT hb h
   exact nomatch h
  ·replace h := iteF hb h
   refine z4 ⟨[(0, (.sl (List.map c_Sheet sheets))), (1, (.sl (List.map c_Piece pieces)))], []⟩ (by kernel_rfl) ?_
   refine sem_seq (by kernel_rfl) ?_
   refine z7 (by kernel_rfl) ?_
   refine evs_run 1 (by kernel_rfl) ?_
   refine evs_op (st_len (c := c_Sheet) (l := sheets) (x := (.sl (List.map c_Sheet sheets))) (by kernel_rfl) (by kernel_rfl)) ?_
   refine z1 1 ⟨[(1, (.sl (List.map c_Piece pieces))), (19, (.sl (List.map c_Sheet sheets))), (20, (vI (sheets.length : Int))), (21, (vI 0))], []⟩ (by kernel_rfl) ?_
   refine sem_block (by kernel_rfl) ?_
   obtain ⟨x54, hx54, h⟩ := bindS h
   refine sem_loopS (fun (s37 : Int) => ⟨[(1, (.sl (List.map c_Piece pieces))), (19, (.sl (List.map c_Sheet sheets))), (20, (vI (sheets.length : Int))), (21, (vI s37))], []⟩) (fun (x54 : Unit) => (.exit 0, ⟨[(1, (.sl (List.map c_Piece pieces)))], []⟩)) (nest_lists_k_l1 sheets) 0 x54 (by kernel_rfl) (here (by kernel_rfl)) (iter_loop hx54) ?_ ?_ ?_
   ·intro s37 r h
    refine z3 1 ⟨[(1, (.sl (List.map c_Piece pieces))), (19, (.sl (List.map c_Sheet sheets))), (20, (vI (sheets.length : Int))), (21, (vI s37)), (22, (vB (decide (s37 < (sheets.length : Int)))))], []⟩ (by kernel_rfl) ?_
    refine sem_seq (by kernel_rfl) ?_
    refine sem_cond (decide (s37 < (sheets.length : Int))) (by kernel_rfl) (by kernel_rfl) (fun hb => ?_) (fun hb => ?_)
    ·replace h := iteT hb h
     refine z4 ⟨[(1, (.sl (List.map c_Piece pieces))), (19, (.sl (List.map c_Sheet sheets))), (20, (vI (sheets.length : Int))), (21, (vI s37))], []⟩ (by kernel_rfl) ?_
     refine sem_seq (by kernel_rfl) ?_
     refine sem_block (by kernel_rfl) ?_
     refine z7 (by kernel_rfl) ?_
     obtain ⟨x51, hx51, h⟩ := bindS h
     refine evs_op (st_idx (c := c_Sheet) (l := sheets) (i := s37) (kd := .i64) (sz := 8) (by kernel_rfl) hx51 rfl) ?_
     refine z1 3 ⟨[(1, (.sl (List.map c_Piece pieces))), (6, (.ptr 6 0)), (19, (.sl (List.map c_Sheet sheets))), (20, (vI (sheets.length : Int))), (21, (vI s37))], [(6, .box (c_Sheet x51))]⟩ (by kernel_rfl) ?_
     refine z7 (by kernel_rfl) ?_
     refine evs_run 1 (by kernel_rfl) ?_
     obtain ⟨r53, hr53, h⟩ := bindS h
     refine evs_callP [] (by kernel_rfl) (W.nest_ValidateSheet_k_ok hr53) (by kernel_rfl) (.inl rfl) (by kernel_rfl) ?_
     refine z1 1 ⟨[(1, (.sl (List.map c_Piece pieces))), (7, (vI r53)), (19, (.sl (List.map c_Sheet sheets))), (20, (vI (sheets.length : Int))), (21, (vI s37))], []⟩ (by kernel_rfl) ?_
     refine z3 2 ⟨[(1, (.sl (List.map c_Piece pieces))), (7, (vI r53)), (19, (.sl (List.map c_Sheet sheets))), (20, (vI (sheets.length : Int))), (21, (vI s37)), (28, (vB (r53 != 0)))], []⟩ (by kernel_rfl) ?_
     refine sem_cond (r53 != 0) (by kernel_rfl) (by kernel_rfl) (fun hb => ?_) (fun hb => ?_)
     ·replace h := iteT hb h
      exact nomatch h
     ·replace h := iteF hb h
      refine sem_skipS (by kernel_rfl) (fun τ hτ => ?_)
      refine bl_normal ?_
      refine th_normalS hτ ⟨[(1, (.sl (List.map c_Piece pieces))), (19, (.sl (List.map c_Sheet sheets))), (20, (vI (sheets.length : Int))), (21, (vI s37))], []⟩ (here (by kernel_rfl)) ?_
      refine sem_region (by kernel_rfl) ?_
      refine z6 2 (by kernel_rfl) (fun τ hτ => ?_)
      obtain rfl := Option.some.inj h
      exact lk_nextS hτ (here (by kernel_rfl))
    ·replace h := iteF hb h
     refine sem_exitS 0 (by kernel_rfl) rfl (fun τ hτ => ?_)
     refine th_exit ?_
     obtain rfl := Option.some.inj h
     exact lk_outS hτ rfl (here (by kernel_rfl))
   ·intro x
    rfl
   ·intro τ hτ
    refine bl_hit (by kernel_rfl) ?_
    refine th_normalS hτ ⟨[(1, (.sl (List.map c_Piece pieces)))], []⟩ (here (by kernel_rfl)) ?_
    refine sem_seq (by kernel_rfl) ?_
    refine z7 (by kernel_rfl) ?_
    refine evs_run 1 (by kernel_rfl) ?_
    refine evs_op (st_len (c := c_Piece) (l := pieces) (x := (.sl (List.map c_Piece pieces))) (by kernel_rfl) (by kernel_rfl)) ?_
    refine z1 1 ⟨[(31, (.sl (List.map c_Piece pieces))), (32, (vI (pieces.length : Int))), (33, (vI 0))], []⟩ (by kernel_rfl) ?_
    refine sem_block (by kernel_rfl) ?_
    obtain ⟨x108, hx108, h⟩ := bindS h
    refine sem_loopS (fun (s91 : Int) => ⟨[(31, (.sl (List.map c_Piece pieces))), (32, (vI (pieces.length : Int))), (33, (vI s91))], []⟩) (fun (x108 : Unit) => (.exit 2, ⟨[], []⟩)) (nest_lists_k_l2 pieces) 0 x108 (by kernel_rfl) (here (by kernel_rfl)) (iter_loop hx108) ?_ ?_ ?_
    ·intro s91 r h
     refine z3 1 ⟨[(31, (.sl (List.map c_Piece pieces))), (32, (vI (pieces.length : Int))), (33, (vI s91)), (34, (vB (decide (s91 < (pieces.length : Int)))))], []⟩ (by kernel_rfl) ?_
     refine sem_seq (by kernel_rfl) ?_
     refine sem_cond (decide (s91 < (pieces.length : Int))) (by kernel_rfl) (by kernel_rfl) (fun hb => ?_) (fun hb => ?_)
     ·replace h := iteT hb h
      refine z4 ⟨[(31, (.sl (List.map c_Piece pieces))), (32, (vI (pieces.length : Int))), (33, (vI s91))], []⟩ (by kernel_rfl) ?_
      refine sem_seq (by kernel_rfl) ?_
      refine sem_block (by kernel_rfl) ?_
      refine z7 (by kernel_rfl) ?_
      obtain ⟨x105, hx105, h⟩ := bindS h
      refine evs_op (st_idx (c := c_Piece) (l := pieces) (i := s91) (kd := .i64) (sz := 7) (by kernel_rfl) hx105 rfl) ?_
      refine z1 3 ⟨[(9, (.ptr 9 0)), (31, (.sl (List.map c_Piece pieces))), (32, (vI (pieces.length : Int))), (33, (vI s91))], [(9, .box (c_Piece x105))]⟩ (by kernel_rfl) ?_
      refine z7 (by kernel_rfl) ?_
      refine evs_run 1 (by kernel_rfl) ?_
      obtain ⟨r107, hr107, h⟩ := bindS h
      refine evs_callP [] (by kernel_rfl) (W.nest_ValidatePiece_k_ok hr107) (by kernel_rfl) (.inl rfl) (by kernel_rfl) ?_
      refine z1 1 ⟨[(10, (vI r107)), (31, (.sl (List.map c_Piece pieces))), (32, (vI (pieces.length : Int))), (33, (vI s91))], []⟩ (by kernel_rfl) ?_
      refine z3 2 ⟨[(10, (vI r107)), (31, (.sl (List.map c_Piece pieces))), (32, (vI (pieces.length : Int))), (33, (vI s91)), (40, (vB (r107 != 0)))], []⟩ (by kernel_rfl) ?_
      refine sem_cond (r107 != 0) (by kernel_rfl) (by kernel_rfl) (fun hb => ?_) (fun hb => ?_)
      ·replace h := iteT hb h
       exact nomatch h
      ·replace h := iteF hb h
       refine sem_skipS (by kernel_rfl) (fun τ hτ => ?_)
       refine bl_normal ?_
       refine th_normalS hτ ⟨[(31, (.sl (List.map c_Piece pieces))), (32, (vI (pieces.length : Int))), (33, (vI s91))], []⟩ (here (by kernel_rfl)) ?_
       refine sem_region (by kernel_rfl) ?_
       refine z6 2 (by kernel_rfl) (fun τ hτ => ?_)
       obtain rfl := Option.some.inj h
       exact lk_nextS hτ (here (by kernel_rfl))
     ·replace h := iteF hb h
      refine sem_exitS 2 (by kernel_rfl) rfl (fun τ hτ => ?_)
      refine th_exit ?_
      obtain rfl := Option.some.inj h
      exact lk_outS hτ rfl (here (by kernel_rfl))
    ·intro x
     rfl
    ·intro τ hτ
     refine bl_hit (by kernel_rfl) ?_
     refine th_normalS hτ ⟨[], []⟩ (here (by kernel_rfl)) ?_
     refine z8 1 ⟨[(4, (vI 0))], []⟩ (by kernel_rfl) (fun τ hτ => ?_)
     obtain rfl := Option.some.inj h
     exact rk_ret hτ [(4, (vI 0))] (here (by kernel_rfl)) (by kernel_rfl)
theorem W.nest_Nest_k_ok {sheets : (List Sheet)} {pieces : (List Piece)} {set2 : Settings} {r : (List Placement) × (List Int) × Int} (h : nest_Nest_k sheets pieces set2 = some r) : PC G.P 34 [(.sl (List.map c_Sheet sheets)), (.sl (List.map c_Piece pieces)), (.agg (c_Settings set2))] [] (.tup [(.row (.top 0) 40), (.row (.top 1) 3), (vI r.2.2)]) [(0, .row 40 [] (List.map c_Placement r.1)), (1, .row 3 [] (List.map cI r.2.1))] := by
 refine pc_of G (fn := Tryz.f34) Tryz.func34 (by kernel_rfl) (by kernel_rfl) (by kernel_rfl) (by kernel_rfl) (by kernel_rfl) ?_
 refine sem_set ⟨[(0, (.sl (List.map c_Sheet sheets))), (1, (.sl (List.map c_Piece pieces))), (2, (.agg (c_Settings set2)))], []⟩ (by kernel_rfl) ?_
 refine z3 4 ⟨[(0, (.sl (List.map c_Sheet sheets))), (1, (.sl (List.map c_Piece pieces))), (5, (.ptr 5 0))], [(5, .box (c_Settings set2))]⟩ (by kernel_rfl) ?_
 refine sem_scope (by kernel_rfl) ?_
 refine sem_seq (by kernel_rfl) ?_
 refine z7 (by kernel_rfl) ?_
 refine evs_run 2 (by kernel_rfl) ?_
 obtain ⟨r4, hr4, h⟩ := bindS h
 refine evs_callP [] (by kernel_rfl) (W.nest_lists_k_ok hr4) (by kernel_rfl) (.inl rfl) (by kernel_rfl) ?_
 refine z1 1 ⟨[(0, (.sl (List.map c_Sheet sheets))), (1, (.sl (List.map c_Piece pieces))), (5, (.ptr 5 0)), (9, (vI r4))], [(5, .box (c_Settings set2))]⟩ (by kernel_rfl) ?_
 refine z3 2 ⟨[(0, (.sl (List.map c_Sheet sheets))), (1, (.sl (List.map c_Piece pieces))), (5, (.ptr 5 0)), (9, (vI r4)), (26, (vB (r4 != 0)))], [(5, .box (c_Settings set2))]⟩ (by kernel_rfl) ?_
 refine sem_cond (r4 != 0) (by kernel_rfl) (by kernel_rfl) (fun hb => ?_) (fun hb => ?_)
 ·replace h := iteT hb h
  exact nomatch h
 ·replace h := iteF hb h
  refine z4 ⟨[(0, (.sl (List.map c_Sheet sheets))), (1, (.sl (List.map c_Piece pieces))), (5, (.ptr 5 0))], [(5, .box (c_Settings set2))]⟩ (by kernel_rfl) ?_
  refine sem_seq (by kernel_rfl) ?_
  refine z7 (by kernel_rfl) ?_
  refine evs_run 1 (by kernel_rfl) ?_
  obtain ⟨r8, hr8, h⟩ := bindS h
  refine evs_callP [] (by kernel_rfl) (W.nest_ValidSettings_k_ok hr8) (by kernel_rfl) (.inl rfl) (by kernel_rfl) ?_
  refine z1 1 ⟨[(0, (.sl (List.map c_Sheet sheets))), (1, (.sl (List.map c_Piece pieces))), (5, (.ptr 5 0)), (30, (vB (!r8)))], [(5, .box (c_Settings set2))]⟩ (by kernel_rfl) ?_
  refine sem_cond (!r8) (by kernel_rfl) (by kernel_rfl) (fun hb => ?_) (fun hb => ?_)
  ·replace h := iteT hb h
   exact nomatch h
  ·replace h := iteF hb h
   refine z4 ⟨[(0, (.sl (List.map c_Sheet sheets))), (1, (.sl (List.map c_Piece pieces))), (5, (.ptr 5 0))], [(5, .box (c_Settings set2))]⟩ (by kernel_rfl) ?_
   refine z7 (by kernel_rfl) ?_
   refine evs_run 1 (by kernel_rfl) ?_
   refine evs_op (st_len (c := c_Sheet) (l := sheets) (x := (.sl (List.map c_Sheet sheets))) (by kernel_rfl) (by kernel_rfl)) ?_
   obtain ⟨l10, hl10, h⟩ := bindS h
   refine evs_at (at_mkJ (c := (cS (cS c_Rect))) (z := []) (n := (sheets.length : Int)) (e := 36) (e2 := 22) (d := 33) (k1 := .i64) (k2 := .i64) (by kernel_rfl) rfl (by kernel_rfl) hl10) ?_
   refine z1 1 ⟨[(0, (.sl (List.map c_Sheet sheets))), (1, (.sl (List.map c_Piece pieces))), (5, (.ptr 5 0)), (10, (.row (.top 33) 36))], [(5, .box (c_Settings set2)), (33, .row 36 [(0, 22)] (List.map (cS (cS c_Rect)) l10))]⟩ (by kernel_rfl) ?_
   refine z3 1 ⟨[(0, (.sl (List.map c_Sheet sheets))), (1, (.sl (List.map c_Piece pieces))), (5, (.ptr 5 0)), (10, (.row (.top 33) 36)), (11, (.row (.top 11) 40))], [(5, .box (c_Settings set2)), (11, .row 40 [] (List.map c_Placement [])), (33, .row 36 [(0, 22)] (List.map (cS (cS c_Rect)) l10))]⟩ (by kernel_rfl) ?_
   refine z3 1 ⟨[(0, (.sl (List.map c_Sheet sheets))), (1, (.sl (List.map c_Piece pieces))), (5, (.ptr 5 0)), (10, (.row (.top 33) 36)), (11, (.row (.top 11) 40)), (12, (.row (.top 12) 3))], [(5, .box (c_Settings set2)), (11, .row 40 [] (List.map c_Placement [])), (12, .row 3 [] (List.map cI [])), (33, .row 36 [(0, 22)] (List.map (cS (cS c_Rect)) l10))]⟩ (by kernel_rfl) ?_
   refine sem_seq (by kernel_rfl) ?_
   refine sem_labelS (by kernel_rfl) (fun τ hτ => ?_)
   refine th_normalS hτ ⟨[(0, (.sl (List.map c_Sheet sheets))), (1, (.sl (List.map c_Piece pieces))), (5, (.ptr 5 0)), (10, (.row (.top 33) 36)), (11, (.row (.top 11) 40)), (12, (.row (.top 12) 3))], [(5, .box (c_Settings set2)), (11, .row 40 [] (List.map c_Placement [])), (12, .row 3 [] (List.map cI [])), (33, .row 36 [(0, 22)] (List.map (cS (cS c_Rect)) l10))]⟩ (here (by kernel_rfl)) ?_
   refine sem_seq (by kernel_rfl) ?_
   refine z7 (by kernel_rfl) ?_
   refine evs_run 1 (by kernel_rfl) ?_
   refine evs_op (st_len (c := c_Piece) (l := pieces) (x := (.sl (List.map c_Piece pieces))) (by kernel_rfl) (by kernel_rfl)) ?_
   refine z1 1 ⟨[(0, (.sl (List.map c_Sheet sheets))), (5, (.ptr 5 0)), (10, (.row (.top 33) 36)), (11, (.row (.top 11) 40)), (12, (.row (.top 12) 3)), (34, (.sl (List.map c_Piece pieces))), (35, (vI (pieces.length : Int))), (36, (vI 0))], [(5, .box (c_Settings set2)), (11, .row 40 [] (List.map c_Placement [])), (12, .row 3 [] (List.map cI [])), (33, .row 36 [(0, 22)] (List.map (cS (cS c_Rect)) l10))]⟩ (by kernel_rfl) ?_
   refine sem_block (by kernel_rfl) ?_
   obtain ⟨x2200, hx2200, h⟩ := bindS h
   refine sem_loopS (fun (s1471 : Int × (List (List (List Rect))) × (List Placement)) => ⟨[(0, (.sl (List.map c_Sheet sheets))), (5, (.ptr 500000 0)), (10, (.row (.top 500001) 36)), (11, (.row (.top 500002) 40)), (12, (.row (.top 500003) 3)), (34, (.sl (List.map c_Piece pieces))), (35, (vI (pieces.length : Int))), (36, (vI s1471.1))], [(500000, .box (c_Settings set2)), (500001, .row 36 [(0, 22)] (List.map (cS (cS c_Rect)) s1471.2.1)), (500002, .row 40 [] (List.map c_Placement s1471.2.2)), (500003, .row 3 [] (List.map cI []))]⟩) (fun (x2200 : (List Placement)) => (.exit 0, ⟨[(11, (.row (.top 500000) 40)), (12, (.row (.top 500001) 3))], [(500000, .row 40 [] (List.map c_Placement x2200)), (500001, .row 3 [] (List.map cI []))]⟩)) (nest_Nest_k_l2 sheets pieces set2) (0, l10, []) x2200 (by kernel_rfl) (subR_prep [] [(5, 500000), (11, 500002), (12, 500003), (33, 500001)] (by kernel_rfl) rfl rfl (by kernel_rfl)) (iter_loop hx2200) ?_ ?_ ?_
   ·intro s1471 r h
    refine z3 1 ⟨[(0, (.sl (List.map c_Sheet sheets))), (5, (.ptr 500000 0)), (10, (.row (.top 500001) 36)), (11, (.row (.top 500002) 40)), (12, (.row (.top 500003) 3)), (34, (.sl (List.map c_Piece pieces))), (35, (vI (pieces.length : Int))), (36, (vI s1471.1)), (37, (vB (decide (s1471.1 < (pieces.length : Int)))))], [(500000, .box (c_Settings set2)), (500001, .row 36 [(0, 22)] (List.map (cS (cS c_Rect)) s1471.2.1)), (500002, .row 40 [] (List.map c_Placement s1471.2.2)), (500003, .row 3 [] (List.map cI []))]⟩ (by kernel_rfl) ?_
    refine sem_seq (by kernel_rfl) ?_
    refine sem_cond (decide (s1471.1 < (pieces.length : Int))) (by kernel_rfl) (by kernel_rfl) (fun hb => ?_) (fun hb => ?_)
    ·replace h := iteT hb h
     refine z4 ⟨[(0, (.sl (List.map c_Sheet sheets))), (5, (.ptr 500000 0)), (10, (.row (.top 500001) 36)), (11, (.row (.top 500002) 40)), (12, (.row (.top 500003) 3)), (34, (.sl (List.map c_Piece pieces))), (35, (vI (pieces.length : Int))), (36, (vI s1471.1))], [(500000, .box (c_Settings set2)), (500001, .row 36 [(0, 22)] (List.map (cS (cS c_Rect)) s1471.2.1)), (500002, .row 40 [] (List.map c_Placement s1471.2.2)), (500003, .row 3 [] (List.map cI []))]⟩ (by kernel_rfl) ?_
     refine sem_seq (by kernel_rfl) ?_
     refine sem_block (by kernel_rfl) ?_
     refine z7 (by kernel_rfl) ?_
     refine evs_run 1 (by kernel_rfl) ?_
     obtain ⟨x2019, hx2019, h⟩ := bindS h
     refine evs_op (st_idx (c := c_Piece) (l := pieces) (i := s1471.1) (kd := .i64) (sz := 7) (by kernel_rfl) hx2019 rfl) ?_
     refine z1 4 ⟨[(0, (.sl (List.map c_Sheet sheets))), (5, (.ptr 500000 0)), (10, (.row (.top 500001) 36)), (11, (.row (.top 500002) 40)), (12, (.row (.top 500003) 3)), (13, (vI s1471.1)), (14, (.ptr 14 0)), (34, (.sl (List.map c_Piece pieces))), (35, (vI (pieces.length : Int))), (36, (vI s1471.1))], [(14, .box (c_Piece x2019)), (500000, .box (c_Settings set2)), (500001, .row 36 [(0, 22)] (List.map (cS (cS c_Rect)) s1471.2.1)), (500002, .row 40 [] (List.map c_Placement s1471.2.2)), (500003, .row 3 [] (List.map cI []))]⟩ (by kernel_rfl) ?_
     refine sem_seq (by kernel_rfl) ?_
     refine z7 (by kernel_rfl) ?_
     refine evs_run 1 (by kernel_rfl) ?_
     refine evs_op (st_len (c := c_Sheet) (l := sheets) (x := (.sl (List.map c_Sheet sheets))) (by kernel_rfl) (by kernel_rfl)) ?_
     refine z1 1 ⟨[(0, (.sl (List.map c_Sheet sheets))), (5, (.ptr 500000 0)), (10, (.row (.top 500001) 36)), (11, (.row (.top 500002) 40)), (12, (.row (.top 500003) 3)), (13, (vI s1471.1)), (14, (.ptr 14 0)), (34, (.sl (List.map c_Piece pieces))), (35, (vI (pieces.length : Int))), (36, (vI s1471.1)), (41, (.sl (List.map c_Sheet sheets))), (42, (vI (sheets.length : Int))), (43, (vI 0))], [(14, .box (c_Piece x2019)), (500000, .box (c_Settings set2)), (500001, .row 36 [(0, 22)] (List.map (cS (cS c_Rect)) s1471.2.1)), (500002, .row 40 [] (List.map c_Placement s1471.2.2)), (500003, .row 3 [] (List.map cI []))]⟩ (by kernel_rfl) ?_
     refine sem_block (by kernel_rfl) ?_
     obtain ⟨x2199, hx2199, h⟩ := bindS h
     refine sem_loopS (fun (s2110 : Unit) => ⟨[(0, (.sl (List.map c_Sheet sheets))), (5, (.ptr 500000 0)), (10, (.row (.top 500001) 36)), (11, (.row (.top 500002) 40)), (12, (.row (.top 500003) 3)), (13, (vI s1471.1)), (14, (.ptr 500004 0)), (34, (.sl (List.map c_Piece pieces))), (35, (vI (pieces.length : Int))), (36, (vI s1471.1)), (41, (.sl (List.map c_Sheet sheets))), (42, (vI (sheets.length : Int))), (43, (vI 0))], [(500000, .box (c_Settings set2)), (500001, .row 36 [(0, 22)] (List.map (cS (cS c_Rect)) s1471.2.1)), (500002, .row 40 [] (List.map c_Placement s1471.2.2)), (500003, .row 3 [] (List.map cI [])), (500004, .box (c_Piece x2019))]⟩) (fun (x2199 : (List (List (List Rect))) × (List Placement)) => (.exit 1, ⟨[(0, (.sl (List.map c_Sheet sheets))), (5, (.ptr 500000 0)), (10, (.row (.top 500001) 36)), (11, (.row (.top 500002) 40)), (12, (.row (.top 500003) 3)), (34, (.sl (List.map c_Piece pieces))), (35, (vI (pieces.length : Int))), (36, (vI s1471.1))], [(500000, .box (c_Settings set2)), (500001, .row 36 [(0, 22)] (List.map (cS (cS c_Rect)) x2199.1)), (500002, .row 40 [] (List.map c_Placement x2199.2)), (500003, .row 3 [] (List.map cI []))]⟩)) (nest_Nest_k_l1 sheets set2 s1471 x2019) () x2199 (by kernel_rfl) (subR_prep [] [(14, 500004), (500000, 500000), (500001, 500001), (500002, 500002), (500003, 500003)] (by kernel_rfl) rfl rfl (by kernel_rfl)) (iter_loop hx2199) ?_ ?_ ?_
     ·intro s2110 r h
      refine z3 1 ⟨[(0, (.sl (List.map c_Sheet sheets))), (5, (.ptr 500000 0)), (10, (.row (.top 500001) 36)), (11, (.row (.top 500002) 40)), (12, (.row (.top 500003) 3)), (13, (vI s1471.1)), (14, (.ptr 500004 0)), (34, (.sl (List.map c_Piece pieces))), (35, (vI (pieces.length : Int))), (36, (vI s1471.1)), (41, (.sl (List.map c_Sheet sheets))), (42, (vI (sheets.length : Int))), (43, (vI 0)), (44, (vB (decide (0 < (sheets.length : Int)))))], [(500000, .box (c_Settings set2)), (500001, .row 36 [(0, 22)] (List.map (cS (cS c_Rect)) s1471.2.1)), (500002, .row 40 [] (List.map c_Placement s1471.2.2)), (500003, .row 3 [] (List.map cI [])), (500004, .box (c_Piece x2019))]⟩ (by kernel_rfl) ?_
      refine sem_seq (by kernel_rfl) ?_
      refine sem_cond (decide (0 < (sheets.length : Int))) (by kernel_rfl) (by kernel_rfl) (fun hb => ?_) (fun hb => ?_)
      ·replace h := iteT hb h
       refine z4 ⟨[(0, (.sl (List.map c_Sheet sheets))), (5, (.ptr 500000 0)), (10, (.row (.top 500001) 36)), (11, (.row (.top 500002) 40)), (12, (.row (.top 500003) 3)), (13, (vI s1471.1)), (14, (.ptr 500004 0)), (34, (.sl (List.map c_Piece pieces))), (35, (vI (pieces.length : Int))), (36, (vI s1471.1)), (41, (.sl (List.map c_Sheet sheets))), (42, (vI (sheets.length : Int))), (43, (vI 0))], [(500000, .box (c_Settings set2)), (500001, .row 36 [(0, 22)] (List.map (cS (cS c_Rect)) s1471.2.1)), (500002, .row 40 [] (List.map c_Placement s1471.2.2)), (500003, .row 3 [] (List.map cI [])), (500004, .box (c_Piece x2019))]⟩ (by kernel_rfl) ?_
       refine sem_seq (by kernel_rfl) ?_
       refine sem_block (by kernel_rfl) ?_
       refine z7 (by kernel_rfl) ?_
       refine evs_run 1 (by kernel_rfl) ?_
       obtain ⟨x2178, hx2178, h⟩ := bindS h
       refine evs_op (st_idx (c := c_Sheet) (l := sheets) (i := 0) (kd := .i64) (sz := 8) (by kernel_rfl) hx2178 rfl) ?_
       refine z1 4 ⟨[(0, (.sl (List.map c_Sheet sheets))), (5, (.ptr 500000 0)), (10, (.row (.top 500001) 36)), (11, (.row (.top 500002) 40)), (12, (.row (.top 500003) 3)), (13, (vI s1471.1)), (14, (.ptr 500004 0)), (15, (vI 0)), (16, (.ptr 16 0)), (34, (.sl (List.map c_Piece pieces))), (35, (vI (pieces.length : Int))), (36, (vI s1471.1)), (41, (.sl (List.map c_Sheet sheets))), (42, (vI (sheets.length : Int))), (43, (vI 0))], [(16, .box (c_Sheet x2178)), (500000, .box (c_Settings set2)), (500001, .row 36 [(0, 22)] (List.map (cS (cS c_Rect)) s1471.2.1)), (500002, .row 40 [] (List.map c_Placement s1471.2.2)), (500003, .row 3 [] (List.map cI [])), (500004, .box (c_Piece x2019))]⟩ (by kernel_rfl) ?_
       refine sem_seq (by kernel_rfl) ?_
       refine sem_draw [(7, [700350]), (12, [17]), (13, [17])] [(7, [700350]), (12, [17])] [(7, [500001])] [(0, [17]), (1, [17]), (2, [17]), (3, [17]), (4, [17]), (5, [17]), (6, [17]), (7, [17]), (8, [17]), (9, [17]), (10, [17]), (11, [17]), (12, [700350])] [(0, [700350, 17]), (1, [700350, 17]), (2, [700350, 17]), (3, [700350, 17]), (4, [700350, 17]), (5, [700350, 17]), (6, [700350, 17]), (7, [17]), (8, [17]), (9, [17]), (10, [17]), (11, [17]), (12, [700350])] 15 (by kernel_rfl) (by kernel_rfl) [700350, 17] (by kernel_rfl) (by kernel_rfl) ?_
       refine evd_run 3 (by kernel_rfl) ?_
       obtain ⟨x2183, hx2183, h⟩ := bindS h
       refine evd_val (by kernel_rfl) (st_idxO (c := (cS (cS c_Rect))) (l := s1471.2.1) (i := 0) (kd := .i64) (kk := (.top 500001)) (e := 36) (sz := 1) (by kernel_rfl) (by kernel_rfl) hx2183 rfl) (by kernel_rfl) (by kernel_rfl) ?_
       refine evd_val (by kernel_rfl) (st_ldO (c := (cS (cS c_Rect))) (l := s1471.2.1) (i := (Int.toNat 0)) (v := (.row (.sub 500001 (Int.toNat 0) 0) 22)) (agg := false) (sz := 1) (kk := (.top 500001)) (e := 36) (off := 0) (J := [(0, 22)]) (by kernel_rfl) (by kernel_rfl) (by kernel_rfl) ((idxS hx2183).2) (by kernel_rfl)) (by kernel_rfl) (by kernel_rfl) ?_
       refine evd_run 2 (by kernel_rfl) ?_
       obtain ⟨r2184, hr2184, h⟩ := bindS h
       refine evd_callV (args := [(.agg (c_Sheet x2178)), (.row (.sub 500001 (Int.toNat 0) 0) 22), (.agg (c_Piece x2019)), (.agg (c_Settings set2))]) (qs := [(.agg (c_Sheet x2178)), (.sl (List.map (cS c_Rect) x2183)), (.agg (c_Piece x2019)), (.agg (c_Settings set2))]) [(0, 700350)] [500001] (by kernel_rfl) (by kernel_rfl) (viewRL_cons (p := (.agg (c_Sheet x2178))) (q := (.agg (c_Sheet x2178))) (by kernel_rfl) (viewRL_cons (p := (.row (.sub 500001 (Int.toNat 0) 0) 22)) (q := (.sl (List.map (cS c_Rect) x2183))) (view_sub (c := (cS (cS c_Rect))) (c2 := (cS c_Rect)) (g := 500001) (i := (Int.toNat 0)) (e := 36) (e2 := 22) (l := s1471.2.1) (x := x2183) (l2 := x2183) (by kernel_rfl) (((idxS hx2183).2)) rfl) (viewRL_cons (p := (.agg (c_Piece x2019))) (q := (.agg (c_Piece x2019))) (by kernel_rfl) (viewRL_cons (p := (.agg (c_Settings set2))) (q := (.agg (c_Settings set2))) (by kernel_rfl) rfl)))) (W.nest_Fit_k_ok hr2184) (by kernel_rfl) (.inr ⟨rfl, fun _ _ => ind_cons rfl (fun _ _ => ind_nil)⟩) (by kernel_rfl) (by kernel_rfl) ?_
       refine evd_run 4 (by kernel_rfl) ?_
       refine evd_new (g := 17) (ob := .box [(vI 0), (vI 0), (vI 0), (vI 0), (vI 0)]) (v := (.ptr 17 0)) (by kernel_rfl) (by kernel_rfl) (by kernel_rfl) (by kernel_rfl) (by kernel_rfl) (by kernel_rfl) ?_
       refine evd_set (g := 17) (ob := .box (c_Placement r2184.1)) (v := vU) (by kernel_rfl) (by kernel_rfl) (by kernel_rfl) (by kernel_rfl) (by kernel_rfl) ?_
       refine evd_run 1 (by kernel_rfl) ?_
       refine evd_end (by kernel_rfl) ?_
       refine evo_run 1 (by kernel_rfl) ?_
       refine evo_endS (by kernel_rfl) (fun τ hτ => ?_)
       refine th_normalS hτ ⟨[(0, (.sl (List.map c_Sheet sheets))), (5, (.ptr 500000 0)), (10, (.row (.top 500001) 36)), (11, (.row (.top 500002) 40)), (12, (.row (.top 500003) 3)), (13, (vI s1471.1)), (14, (.ptr 500004 0)), (15, (vI 0)), (17, (.ptr 17 0)), (18, (vB r2184.2.1)), (19, (vI r2184.2.2.1)), (34, (.sl (List.map c_Piece pieces))), (35, (vI (pieces.length : Int))), (36, (vI s1471.1)), (41, (.sl (List.map c_Sheet sheets))), (42, (vI (sheets.length : Int))), (43, (vI 0))], [(17, .box (c_Placement r2184.1)), (500000, .box (c_Settings set2)), (500001, .row 36 [(0, 22)] (List.map (cS (cS c_Rect)) s1471.2.1)), (500002, .row 40 [] (List.map c_Placement s1471.2.2)), (500003, .row 3 [] (List.map cI [])), (500004, .box (c_Piece x2019))]⟩ (here (by kernel_rfl)) ?_
       refine sem_seq (by kernel_rfl) ?_
       refine z7 (by kernel_rfl) ?_
       refine evs_run 3 (by kernel_rfl) ?_
       refine evs_split (r2184.2.2.1 != 0) (fun b0 => ⟨[(0, (.sl (List.map c_Sheet sheets))), (5, (.ptr 500000 0)), (10, (.row (.top 500001) 36)), (11, (.row (.top 500002) 40)), (12, (.row (.top 500003) 3)), (13, (vI s1471.1)), (14, (.ptr 500004 0)), (15, (vI 0)), (17, (.ptr 17 0)), (18, (vB r2184.2.1)), (34, (.sl (List.map c_Piece pieces))), (35, (vI (pieces.length : Int))), (36, (vI s1471.1)), (41, (.sl (List.map c_Sheet sheets))), (42, (vI (sheets.length : Int))), (43, (vI 0)), (62, (vB b0))], [(17, .box (c_Placement r2184.1)), (500000, .box (c_Settings set2)), (500001, .row 36 [(0, 22)] (List.map (cS (cS c_Rect)) s1471.2.1)), (500002, .row 40 [] (List.map c_Placement s1471.2.2)), (500003, .row 3 [] (List.map cI [])), (500004, .box (c_Piece x2019))]⟩) (by kernel_rfl) (fun hb => ?_) (fun hb => ?_)
       ·replace h := iteT hb h
        exact nomatch h
       ·replace h := iteF hb h
        refine z1 3 ⟨[(0, (.sl (List.map c_Sheet sheets))), (5, (.ptr 500000 0)), (10, (.row (.top 500001) 36)), (11, (.row (.top 500002) 40)), (12, (.row (.top 500003) 3)), (13, (vI s1471.1)), (14, (.ptr 500004 0)), (15, (vI 0)), (17, (.ptr 17 0)), (34, (.sl (List.map c_Piece pieces))), (35, (vI (pieces.length : Int))), (36, (vI s1471.1)), (41, (.sl (List.map c_Sheet sheets))), (42, (vI (sheets.length : Int))), (43, (vI 0)), (65, (vB (!r2184.2.1)))], [(17, .box (c_Placement r2184.1)), (500000, .box (c_Settings set2)), (500001, .row 36 [(0, 22)] (List.map (cS (cS c_Rect)) s1471.2.1)), (500002, .row 40 [] (List.map c_Placement s1471.2.2)), (500003, .row 3 [] (List.map cI [])), (500004, .box (c_Piece x2019))]⟩ (by kernel_rfl) ?_
        refine sem_cond (!r2184.2.1) (by kernel_rfl) (by kernel_rfl) (fun hb => ?_) (fun hb => ?_)
        ·replace h := iteT hb h
         exact nomatch h
        ·replace h := iteF hb h
         refine z4 ⟨[(0, (.sl (List.map c_Sheet sheets))), (5, (.ptr 500000 0)), (10, (.row (.top 500001) 36)), (11, (.row (.top 500002) 40)), (12, (.row (.top 500003) 3)), (13, (vI s1471.1)), (14, (.ptr 500004 0)), (15, (vI 0)), (17, (.ptr 17 0)), (34, (.sl (List.map c_Piece pieces))), (35, (vI (pieces.length : Int))), (36, (vI s1471.1))], [(17, .box (c_Placement r2184.1)), (500000, .box (c_Settings set2)), (500001, .row 36 [(0, 22)] (List.map (cS (cS c_Rect)) s1471.2.1)), (500002, .row 40 [] (List.map c_Placement s1471.2.2)), (500003, .row 3 [] (List.map cI [])), (500004, .box (c_Piece x2019))]⟩ (by kernel_rfl) ?_
         refine z3 6 ⟨[(0, (.sl (List.map c_Sheet sheets))), (5, (.ptr 500000 0)), (10, (.row (.top 500001) 36)), (11, (.row (.top 500002) 40)), (12, (.row (.top 500003) 3)), (14, (.ptr 500004 0)), (15, (vI 0)), (17, (.ptr 17 0)), (34, (.sl (List.map c_Piece pieces))), (35, (vI (pieces.length : Int))), (36, (vI s1471.1))], [(17, .box [(vI s1471.1), (vI 0), (vI r2184.1.X), (vI r2184.1.Y), (vI r2184.1.Turn)]), (500000, .box (c_Settings set2)), (500001, .row 36 [(0, 22)] (List.map (cS (cS c_Rect)) s1471.2.1)), (500002, .row 40 [] (List.map c_Placement s1471.2.2)), (500003, .row 3 [] (List.map cI [])), (500004, .box (c_Piece x2019))]⟩ (by kernel_rfl) ?_
         refine z7 (by kernel_rfl) ?_
         refine evs_run 2 (by kernel_rfl) ?_
         obtain ⟨r2186, hr2186, h⟩ := bindS h
         refine evs_callS [] [(0, 700100), (1, 700101), (2, 700102), (3, 700103)] [] (by kernel_rfl) (W.nest_put_k_ok hr2186) (by kernel_rfl) (by kernel_rfl) (.inl rfl) ?_
         refine z1 6 ⟨[(0, (.sl (List.map c_Sheet sheets))), (5, (.ptr 500000 0)), (10, (.row (.top 500001) 36)), (11, (.row (.top 500002) 40)), (12, (.row (.top 500003) 3)), (15, (vI 0)), (17, (.ptr 17 0)), (20, (.ptr 20 0)), (34, (.sl (List.map c_Piece pieces))), (35, (vI (pieces.length : Int))), (36, (vI s1471.1))], [(17, .box [(vI s1471.1), (vI 0), (vI r2184.1.X), (vI r2184.1.Y), (vI r2184.1.Turn)]), (20, .box [(vS r2186.1.Name), (vS r2186.1.Material), (vI r2186.1.Gauge), (vI r2186.1.Grain), (.row (.top 700101) 86), (.row (.top 700102) 86), (.row (.top 700103) 86)]), (500000, .box (c_Settings set2)), (500001, .row 36 [(0, 22)] (List.map (cS (cS c_Rect)) s1471.2.1)), (500002, .row 40 [] (List.map c_Placement s1471.2.2)), (500003, .row 3 [] (List.map cI [])), (700101, .row 86 [] (List.map c_Rect r2186.1.Rects)), (700102, .row 86 [] (List.map c_Rect r2186.1.Cuts)), (700103, .row 86 [] (List.map c_Rect r2186.1.Forms))]⟩ (by kernel_rfl) ?_
         refine sem_seq (by kernel_rfl) ?_
         refine sem_prep [.frz 700101] (by kernel_rfl) ?_
         refine sem_draw [(5, [500001, 600005]), (9, [600005, 600009])] [(5, [600005]), (9, [600009])] [] [(0, [500001, 600005, 600009]), (1, [500001, 600005, 600009]), (6, [500001, 600005]), (7, [500001, 600005]), (8, [500001, 600005])] [(0, [600005, 600009]), (1, [600005, 600009]), (2, [600005, 600009]), (3, [600005, 600009]), (4, [600005, 600009]), (5, [600009]), (6, [600005, 600009]), (7, [600005, 600009]), (8, [600005, 600009])] 10 (by kernel_rfl) (by kernel_rfl) [600005, 600009] (by kernel_rfl) (by kernel_rfl) ?_
         refine evd_run 4 (by kernel_rfl) ?_
         obtain ⟨x2194, hx2194, h⟩ := bindS h
         refine evd_val (by kernel_rfl) (st_idxO (c := (cS (cS c_Rect))) (l := s1471.2.1) (i := 0) (kd := .i64) (kk := (.top 500001)) (e := 36) (sz := 1) (by kernel_rfl) (by kernel_rfl) hx2194 rfl) (by kernel_rfl) (by kernel_rfl) ?_
         refine evd_take (c := (cS (cS c_Rect))) (c2 := (cS c_Rect)) (l := s1471.2.1) (x := x2194) (l2 := x2194) (g := 500001) (T := 600005) (e := 36) (e2 := 22) (i := (Int.toNat 0)) (by kernel_rfl) (by kernel_rfl) (by kernel_rfl) ((idxS hx2194).2) rfl (by kernel_rfl) (by kernel_rfl) (by kernel_rfl) (by kernel_rfl) (by kernel_rfl) ?_
         refine evd_run 3 (by kernel_rfl) ?_
         obtain ⟨l2195, hl2195, h⟩ := bindS h
         refine evd_app (c := (cS c_Rect)) (l := x2194) (l2 := [r2186.1.Rects]) (x := (.sl (List.map (cS c_Rect) [r2186.1.Rects]))) (g := 600005) (g2 := 600009) (e := 22) (sz := 1) (d := 85) (by kernel_rfl) (by kernel_rfl) (by kernel_rfl) (by kernel_rfl) (by kernel_rfl) (fun _ => rfl) hl2195 (by kernel_rfl) (by kernel_rfl) (by kernel_rfl) (by kernel_rfl) (by kernel_rfl) ?_
         refine evd_end (by kernel_rfl) ?_
         obtain ⟨x2196, hx2196, h⟩ := bindS h
         refine evo_op (st_idxH (c := (cS (cS c_Rect))) (l := s1471.2.1) (x := x2196) (g := 500001) (e := 36) (e2 := 22) (j := (Int.toNat 0)) (i := 0) (kd := .i64) (sz := 1) (by kernel_rfl) (by kernel_rfl) hx2196 (fun _ => rfl) rfl) ?_
         refine evo_at (at_moveH (c := (cS (cS c_Rect))) (c2 := (cS c_Rect)) (g := 500001) (d := 600009) (e := 36) (e' := 22) (i := (Int.toNat 0)) (l := s1471.2.1) (x := x2196) (x' := l2195) (l2 := l2195) (by kernel_rfl) (by kernel_rfl) (by kernel_rfl) (by kernel_rfl) ((idxS hx2196).2) rfl) ?_
         refine evo_endS (by kernel_rfl) (fun τ hτ => ?_)
         refine th_normalS hτ ⟨[(0, (.sl (List.map c_Sheet sheets))), (5, (.ptr 500000 0)), (10, (.row (.top 500001) 36)), (11, (.row (.top 500002) 40)), (12, (.row (.top 500003) 3)), (17, (.ptr 17 0)), (34, (.sl (List.map c_Piece pieces))), (35, (vI (pieces.length : Int))), (36, (vI s1471.1))], [(17, .box [(vI s1471.1), (vI 0), (vI r2184.1.X), (vI r2184.1.Y), (vI r2184.1.Turn)]), (500000, .box (c_Settings set2)), (500001, .row 36 [(0, 22)] (List.map (cS (cS c_Rect)) (List.set s1471.2.1 (Int.toNat 0) l2195))), (500002, .row 40 [] (List.map c_Placement s1471.2.2)), (500003, .row 3 [] (List.map cI []))]⟩ (here (by kernel_rfl)) ?_
         refine z7 (by kernel_rfl) ?_
         refine evs_run 3 (by kernel_rfl) ?_
         obtain ⟨l2198, hl2198, h⟩ := bindS h
         refine evs_op (st_app (c := c_Placement) (l := s1471.2.2) (l2 := [(Placement.mk s1471.1 0 r2184.1.X r2184.1.Y r2184.1.Turn)]) (x := (.sl (List.map c_Placement [(Placement.mk s1471.1 0 r2184.1.X r2184.1.Y r2184.1.Turn)]))) (g := 500002) (e := 40) (sz := 5) (d := 90) (by kernel_rfl) (by kernel_rfl) (by kernel_rfl) (by kernel_rfl) (fun _ => rfl) rfl hl2198) ?_
         refine z1 1 ⟨[(0, (.sl (List.map c_Sheet sheets))), (5, (.ptr 500000 0)), (10, (.row (.top 500001) 36)), (11, (.row (.top 500002) 40)), (12, (.row (.top 500003) 3)), (34, (.sl (List.map c_Piece pieces))), (35, (vI (pieces.length : Int))), (36, (vI s1471.1))], [(500000, .box (c_Settings set2)), (500001, .row 36 [(0, 22)] (List.map (cS (cS c_Rect)) (List.set s1471.2.1 (Int.toNat 0) l2195))), (500002, .row 40 [] (List.map c_Placement l2198)), (500003, .row 3 [] (List.map cI []))]⟩ (by kernel_rfl) ?_
         refine sem_exitS 1 (by kernel_rfl) rfl (fun τ hτ => ?_)
         refine bl_miss (by kernel_rfl) ?_
         refine th_exit ?_
         obtain rfl := Option.some.inj h
         exact lk_outS hτ rfl (here (by kernel_rfl))
      ·replace h := iteF hb h
       exact nomatch h
     ·intro x
      rfl
     ·intro τ hτ
      refine bl_miss (by kernel_rfl) ?_
      refine th_exit ?_
      refine bl_hit (by kernel_rfl) ?_
      refine th_normalS hτ ⟨[(0, (.sl (List.map c_Sheet sheets))), (5, (.ptr 500000 0)), (10, (.row (.top 500001) 36)), (11, (.row (.top 500002) 40)), (12, (.row (.top 500003) 3)), (34, (.sl (List.map c_Piece pieces))), (35, (vI (pieces.length : Int))), (36, (vI s1471.1))], [(500000, .box (c_Settings set2)), (500001, .row 36 [(0, 22)] (List.map (cS (cS c_Rect)) x2199.1)), (500002, .row 40 [] (List.map c_Placement x2199.2)), (500003, .row 3 [] (List.map cI []))]⟩ (here (by kernel_rfl)) ?_
      refine sem_region (by kernel_rfl) ?_
      refine z6 2 (by kernel_rfl) (fun τ hτ => ?_)
      obtain rfl := Option.some.inj h
      exact lk_nextS hτ (here (by kernel_rfl))
    ·replace h := iteF hb h
     refine sem_exitS 0 (by kernel_rfl) rfl (fun τ hτ => ?_)
     refine th_exit ?_
     obtain rfl := Option.some.inj h
     exact lk_outS hτ rfl (subR_prep [] [(500002, 500000), (500003, 500001)] (by kernel_rfl) rfl rfl (by kernel_rfl))
   ·intro x
    rfl
   ·intro τ hτ
    refine bl_hit (by kernel_rfl) ?_
    refine th_normalS hτ ⟨[(11, (.row (.top 500000) 40)), (12, (.row (.top 500001) 3))], [(500000, .row 40 [] (List.map c_Placement x2200)), (500001, .row 3 [] (List.map cI []))]⟩ (here (by kernel_rfl)) ?_
    refine z8 5 ⟨[(6, (.row (.top 500000) 40)), (7, (.row (.top 500001) 3)), (8, (vI 0))], [(500000, .row 40 [] (List.map c_Placement x2200)), (500001, .row 3 [] (List.map cI []))]⟩ (by kernel_rfl) (fun τ hτ => ?_)
    obtain rfl := Option.some.inj h
    exact rk_ret hτ [(6, (.row (.top 0) 40)), (7, (.row (.top 1) 3)), (8, (vI 0))] (subR_prep [] [(500000, 0), (500001, 1)] (by kernel_rfl) rfl rfl (by kernel_rfl)) (by kernel_rfl)
theorem W.sheetmetalref06_SamePlacements_k_ok {a : (List Placement)} {b : (List Placement)} {r : Bool} (h : sheetmetalref06_SamePlacements_k a b = some r) : PC G.P 36 [(.sl (List.map c_Placement a)), (.sl (List.map c_Placement b))] [] (vB r) [] := by
 refine pc_of G (fn := Tryz.f36) Tryz.func36 (by kernel_rfl) (by kernel_rfl) (by kernel_rfl) (by kernel_rfl) (by kernel_rfl) ?_
 refine sem_set ⟨[(0, (.sl (List.map c_Placement a))), (1, (.sl (List.map c_Placement b)))], []⟩ (by kernel_rfl) ?_
 refine z3 1 ⟨[(0, (.sl (List.map c_Placement a))), (1, (.sl (List.map c_Placement b)))], []⟩ (by kernel_rfl) ?_
 refine sem_seq (by kernel_rfl) ?_
 refine z7 (by kernel_rfl) ?_
 refine evs_run 1 (by kernel_rfl) ?_
 refine evs_op (st_len (c := c_Placement) (l := a) (x := (.sl (List.map c_Placement a))) (by kernel_rfl) (by kernel_rfl)) ?_
 refine evs_run 1 (by kernel_rfl) ?_
 refine evs_op (st_len (c := c_Placement) (l := b) (x := (.sl (List.map c_Placement b))) (by kernel_rfl) (by kernel_rfl)) ?_
 refine z1 1 ⟨[(0, (.sl (List.map c_Placement a))), (1, (.sl (List.map c_Placement b))), (10, (vB ((a.length : Int) != (b.length : Int))))], []⟩ (by kernel_rfl) ?_
 refine sem_cond ((a.length : Int) != (b.length : Int)) (by kernel_rfl) (by kernel_rfl) (fun hb => ?_) (fun hb => ?_)
 ·replace h := iteT hb h
  exact nomatch h
 ·replace h := iteF hb h
  refine z4 ⟨[(0, (.sl (List.map c_Placement a))), (1, (.sl (List.map c_Placement b)))], []⟩ (by kernel_rfl) ?_
  refine sem_seq (by kernel_rfl) ?_
  refine z3 1 ⟨[(0, (.sl (List.map c_Placement a))), (1, (.sl (List.map c_Placement b))), (5, (vI 0))], []⟩ (by kernel_rfl) ?_
  refine sem_block (by kernel_rfl) ?_
  obtain ⟨x78, hx78, h⟩ := bindS h
  refine sem_loopS (fun (s53 : Int) => ⟨[(0, (.sl (List.map c_Placement a))), (1, (.sl (List.map c_Placement b))), (5, (vI s53))], []⟩) (fun (x78 : Unit) => (.exit 0, ⟨[], []⟩)) (sheetmetalref06_SamePlacements_k_l1 a b) 0 x78 (by kernel_rfl) (here (by kernel_rfl)) (iter_loop hx78) ?_ ?_ ?_
  ·intro s53 r h
   refine sem_seq (by kernel_rfl) ?_
   refine z7 (by kernel_rfl) ?_
   refine evs_run 2 (by kernel_rfl) ?_
   refine evs_op (st_len (c := c_Placement) (l := a) (x := (.sl (List.map c_Placement a))) (by kernel_rfl) (by kernel_rfl)) ?_
   refine z1 1 ⟨[(0, (.sl (List.map c_Placement a))), (1, (.sl (List.map c_Placement b))), (5, (vI s53)), (14, (vB (decide (s53 < (a.length : Int)))))], []⟩ (by kernel_rfl) ?_
   refine sem_cond (decide (s53 < (a.length : Int))) (by kernel_rfl) (by kernel_rfl) (fun hb => ?_) (fun hb => ?_)
   ·replace h := iteT hb h
    refine z4 ⟨[(0, (.sl (List.map c_Placement a))), (1, (.sl (List.map c_Placement b))), (5, (vI s53))], []⟩ (by kernel_rfl) ?_
    refine sem_seq (by kernel_rfl) ?_
    refine sem_block (by kernel_rfl) ?_
    refine sem_seq (by kernel_rfl) ?_
    refine sem_drawN [] [] [] [] [] 8 (by kernel_rfl) (by kernel_rfl) (by kernel_rfl) ?_
    refine evd_run 2 (by kernel_rfl) ?_
    obtain ⟨x76, hx76, h⟩ := bindS h
    refine evd_val (by kernel_rfl) (st_idx (c := c_Placement) (l := a) (i := s53) (kd := .i64) (sz := 5) (by kernel_rfl) hx76 rfl) (by kernel_rfl) (by kernel_rfl) ?_
    refine evd_run 3 (by kernel_rfl) ?_
    obtain ⟨x77, hx77, h⟩ := bindS h
    refine evd_val (by kernel_rfl) (st_idx (c := c_Placement) (l := b) (i := s53) (kd := .i64) (sz := 5) (by kernel_rfl) hx77 rfl) (by kernel_rfl) (by kernel_rfl) ?_
    refine evd_run 1 (by kernel_rfl) ?_
    refine evd_end (by kernel_rfl) ?_
    refine evo_run 1 (by kernel_rfl) ?_
    refine evo_endS (by kernel_rfl) (fun τ hτ => ?_)
    refine th_normalS hτ ⟨[(0, (.sl (List.map c_Placement a))), (1, (.sl (List.map c_Placement b))), (5, (vI s53)), (25, (vB (!((x76.Piece == x77.Piece) && ((x76.Sheet == x77.Sheet) && ((x76.X == x77.X) && ((x76.Y == x77.Y) && ((x76.Turn == x77.Turn) && true))))))))], []⟩ (here (by kernel_rfl)) ?_
    refine sem_cond (!((x76.Piece == x77.Piece) && ((x76.Sheet == x77.Sheet) && ((x76.X == x77.X) && ((x76.Y == x77.Y) && ((x76.Turn == x77.Turn) && true)))))) (by kernel_rfl) (by kernel_rfl) (fun hb => ?_) (fun hb => ?_)
    ·replace h := iteT hb h
     exact nomatch h
    ·replace h := iteF hb h
     refine sem_skipS (by kernel_rfl) (fun τ hτ => ?_)
     refine bl_normal ?_
     refine th_normalS hτ ⟨[(0, (.sl (List.map c_Placement a))), (1, (.sl (List.map c_Placement b))), (5, (vI s53))], []⟩ (here (by kernel_rfl)) ?_
     refine sem_region (by kernel_rfl) ?_
     refine z6 3 (by kernel_rfl) (fun τ hτ => ?_)
     obtain rfl := Option.some.inj h
     exact lk_nextS hτ (here (by kernel_rfl))
   ·replace h := iteF hb h
    refine sem_exitS 0 (by kernel_rfl) rfl (fun τ hτ => ?_)
    refine th_exit ?_
    obtain rfl := Option.some.inj h
    exact lk_outS hτ rfl (here (by kernel_rfl))
  ·intro x
   rfl
  ·intro τ hτ
   refine bl_hit (by kernel_rfl) ?_
   refine th_normalS hτ ⟨[], []⟩ (here (by kernel_rfl)) ?_
   refine z8 1 ⟨[(4, (vB true))], []⟩ (by kernel_rfl) (fun τ hτ => ?_)
   obtain rfl := Option.some.inj h
   exact rk_ret hτ [(4, (vB true))] (here (by kernel_rfl)) (by kernel_rfl)
theorem W.sheetmetallaw06_known_k_ok {r : Bool} (h : sheetmetallaw06_known_k = some r) : PC G.P 21 [] [] (vB r) [] := by
 refine pc_of G (fn := Tryz.f21) Tryz.func21 (by kernel_rfl) (by kernel_rfl) (by kernel_rfl) (by kernel_rfl) (by kernel_rfl) ?_
 refine sem_set ⟨[], []⟩ (by kernel_rfl) ?_
 refine z3 1 ⟨[], []⟩ (by kernel_rfl) ?_
 refine z3 3 ⟨[(1, (.ptr 1 0))], [(1, .box [(vS (ByteArray.mk #[115])), (vS (ByteArray.mk #[115, 116, 101, 101, 108])), (vI 10), (vI 0), (vI 1000), (vI 1000), .nl, .nl])]⟩ (by kernel_rfl) ?_
 refine z3 5 ⟨[(1, (.ptr 1 0)), (2, (.ptr 2 0))], [(1, .box [(vS (ByteArray.mk #[115])), (vS (ByteArray.mk #[115, 116, 101, 101, 108])), (vI 10), (vI 0), (vI 1000), (vI 1000), .nl, .nl]), (2, .box [(vS (ByteArray.mk #[112])), (vS (ByteArray.mk #[115, 116, 101, 101, 108])), (vI 10), (vI 0), (.sl (List.map c_Rect [(Rect.mk 0 0 100 50)])), .nl, .nl])]⟩ (by kernel_rfl) ?_
 refine z7 (by kernel_rfl) ?_
 refine evs_run 3 (by kernel_rfl) ?_
 obtain ⟨r2, hr2, h⟩ := bindS h
 refine evs_callS [] [(0, 700150)] [] (by kernel_rfl) (W.nest_Fit_k_ok hr2) (by kernel_rfl) (by kernel_rfl) (.inl rfl) ?_
 refine z1 8 ⟨[(1, (.ptr 1 0)), (2, (.ptr 2 0)), (3, (.ptr 3 0)), (4, (vB r2.2.1)), (5, (vI r2.2.2.1))], [(1, .box [(vS (ByteArray.mk #[115])), (vS (ByteArray.mk #[115, 116, 101, 101, 108])), (vI 10), (vI 0), (vI 1000), (vI 1000), .nl, .nl]), (2, .box [(vS (ByteArray.mk #[112])), (vS (ByteArray.mk #[115, 116, 101, 101, 108])), (vI 10), (vI 0), (.sl (List.map c_Rect [(Rect.mk 0 0 100 50)])), .nl, .nl]), (3, .box (c_Placement r2.1))]⟩ (by kernel_rfl) ?_
 refine z7 (by kernel_rfl) ?_
 refine evs_run 1 (by kernel_rfl) ?_
 refine evs_at (at_buildS (es := (List.map c_Sheet [(Sheet.mk (ByteArray.mk #[115]) (ByteArray.mk #[115, 116, 101, 101, 108]) 10 0 1000 1000 [] [])])) (by kernel_rfl)) ?_
 refine evs_run 2 (by kernel_rfl) ?_
 refine evs_at (at_buildS (es := (List.map c_Piece [(Piece.mk (ByteArray.mk #[112]) (ByteArray.mk #[115, 116, 101, 101, 108]) 10 0 [(Rect.mk 0 0 100 50)] [] []), (Piece.mk (ByteArray.mk #[112]) (ByteArray.mk #[115, 116, 101, 101, 108]) 10 0 [(Rect.mk 0 0 100 50)] [] [])])) (by kernel_rfl)) ?_
 refine evs_run 1 (by kernel_rfl) ?_
 obtain ⟨r4, hr4, h⟩ := bindS h
 refine evs_callS [] [(0, 700300), (1, 700301)] [] (by kernel_rfl) (W.nest_Nest_k_ok hr4) (by kernel_rfl) (by kernel_rfl) (.inl rfl) ?_
 refine z1 7 ⟨[(3, (.ptr 3 0)), (4, (vB r2.2.1)), (5, (vI r2.2.2.1)), (6, (.row (.top 700300) 40)), (7, (.row (.top 700301) 3)), (8, (vI r4.2.2))], [(3, .box (c_Placement r2.1)), (700300, .row 40 [] (List.map c_Placement r4.1)), (700301, .row 3 [] (List.map cI r4.2.1))]⟩ (by kernel_rfl) ?_
 refine z7 (by kernel_rfl) ?_
 refine evs_run 3 (by kernel_rfl) ?_
 refine evs_split (r2.2.2.1 == 0) (fun b0 => ⟨[(3, (.ptr 3 0)), (4, (vB r2.2.1)), (6, (.row (.top 700300) 40)), (7, (.row (.top 700301) 3)), (8, (vI r4.2.2)), (34, (vB b0))], [(3, .box (c_Placement r2.1)), (700300, .row 40 [] (List.map c_Placement r4.1)), (700301, .row 3 [] (List.map cI r4.2.1))]⟩) (by kernel_rfl) (fun hb => ?_) (fun hb => ?_)
 ·replace h := iteT hb h
  refine evs_run 3 (by kernel_rfl) ?_
  refine evs_split r2.2.1 (fun b0 => ⟨[(3, (.ptr 3 0)), (6, (.row (.top 700300) 40)), (7, (.row (.top 700301) 3)), (8, (vI r4.2.2)), (37, (vB b0))], [(3, .box (c_Placement r2.1)), (700300, .row 40 [] (List.map c_Placement r4.1)), (700301, .row 3 [] (List.map cI r4.2.1))]⟩) (by kernel_rfl) (fun hb => ?_) (fun hb => ?_)
  ·replace h := iteT hb h
   refine evs_run 5 (by kernel_rfl) ?_
   refine evs_split ((r2.1.Piece == 0) && ((r2.1.Sheet == 0) && ((r2.1.X == 10) && ((r2.1.Y == 10) && ((r2.1.Turn == 0) && true))))) (fun b0 => ⟨[(6, (.row (.top 700300) 40)), (7, (.row (.top 700301) 3)), (8, (vI r4.2.2)), (42, (vB b0))], [(700300, .row 40 [] (List.map c_Placement r4.1)), (700301, .row 3 [] (List.map cI r4.2.1))]⟩) (by kernel_rfl) (fun hb => ?_) (fun hb => ?_)
   ·replace h := iteT hb h
    refine evs_run 4 (by kernel_rfl) ?_
    refine evs_split (r4.2.2 == 0) (fun b0 => ⟨[(6, (.row (.top 700300) 40)), (7, (.row (.top 700301) 3)), (46, (vB b0))], [(700300, .row 40 [] (List.map c_Placement r4.1)), (700301, .row 3 [] (List.map cI r4.2.1))]⟩) (by kernel_rfl) (fun hb => ?_) (fun hb => ?_)
    ·replace h := iteT hb h
     refine evs_run 1 (by kernel_rfl) ?_
     refine evs_op (st_len (c := cI) (l := r4.2.1) (x := (.row (.top 700301) 3)) (by kernel_rfl) (by kernel_rfl)) ?_
     refine evs_run 3 (by kernel_rfl) ?_
     refine evs_split ((r4.2.1.length : Int) == 0) (fun b0 => ⟨[(6, (.row (.top 700300) 40)), (51, (vB b0))], [(700300, .row 40 [] (List.map c_Placement r4.1))]⟩) (by kernel_rfl) (fun hb => ?_) (fun hb => ?_)
     ·replace h := iteT hb h
      refine evs_run 4 (by kernel_rfl) ?_
      obtain ⟨r6, hr6, h⟩ := bindS h
      refine evs_callP [700300] (by kernel_rfl) (W.sheetmetalref06_SamePlacements_k_ok hr6) (by kernel_rfl) (.inr rfl) (by kernel_rfl) ?_
      refine z1 2 ⟨[(0, (vB r6))], []⟩ (by kernel_rfl) ?_
      refine sem_retS (by kernel_rfl) (fun τ hτ => ?_)
      obtain rfl := Option.some.inj h
      exact rk_ret hτ [(0, (vB r6))] (here (by kernel_rfl)) (by kernel_rfl)
     ·replace h := iteF hb h
      exact nomatch h
    ·replace h := iteF hb h
     exact nomatch h
   ·replace h := iteF hb h
    exact nomatch h
  ·replace h := iteF hb h
   exact nomatch h
 ·replace h := iteF hb h
  exact nomatch h
theorem W.geom_within_ok {n : Int} {most : Int} {r : Bool} (h : geom_within n most = some r) : PC G.P 122 [(vI n), (vI most)] [] (vB r) [] := by
 refine pc_of G (fn := Tryz.f122) Tryz.func122 (by kernel_rfl) (by kernel_rfl) (by kernel_rfl) (by kernel_rfl) (by kernel_rfl) ?_
 refine sem_set ⟨[(0, (vI n)), (1, (vI most))], []⟩ (by kernel_rfl) ?_
 refine z3 1 ⟨[(0, (vI n)), (1, (vI most))], []⟩ (by kernel_rfl) ?_
 refine sem_seq (by kernel_rfl) ?_
 obtain ⟨j1, hj1, h⟩ := bindS h
 refine sem_regionC ⟨[(4, (vB j1))], []⟩ (by kernel_rfl) ?_ (fun τ hτ => ?_)
 ·replace h := hj1
  refine evs_run 5 (by kernel_rfl) ?_
  refine evs_split (decide ((ineg most) ≤ n)) (fun b0 => ⟨[(0, (vI n)), (1, (vI most)), (9, (vB b0))], []⟩) (by kernel_rfl) (fun hb => ?_) (fun hb => ?_)
  ·replace h := iteT hb h
   refine z6 5 (by kernel_rfl) (fun τ hτ => ?_)
   obtain rfl := Option.some.inj h
   exact leafC hτ (here (by kernel_rfl))
  ·replace h := iteF hb h
   refine z6 5 (by kernel_rfl) (fun τ hτ => ?_)
   obtain rfl := Option.some.inj h
   exact leafC hτ (here (by kernel_rfl))
 refine th_normalS hτ ⟨[(4, (vB j1))], []⟩ (here (by kernel_rfl)) ?_
 refine sem_retS (by kernel_rfl) (fun τ hτ => ?_)
 obtain rfl := Option.some.inj h
 exact rk_ret hτ [(4, (vB j1))] (here (by kernel_rfl)) (by kernel_rfl)
theorem W.geom_ValidRect_1_ok {x0 : Int} {w : Int} {r : Bool} (h : geom_ValidRect_1 x0 w = some r) : PC G.P 121 [(vI x0), (vI w)] [] (vB r) [] := by
 refine pc_of G (fn := Tryz.f121) Tryz.func121 (by kernel_rfl) (by kernel_rfl) (by kernel_rfl) (by kernel_rfl) (by kernel_rfl) ?_
 refine sem_set ⟨[(0, (vI x0)), (1, (vI w))], []⟩ (by kernel_rfl) ?_
 refine z3 1 ⟨[(0, (vI x0)), (1, (vI w))], []⟩ (by kernel_rfl) ?_
 refine sem_seq (by kernel_rfl) ?_
 obtain ⟨j2, hj2, h⟩ := bindS h
 refine sem_regionC ⟨[(4, (vB j2))], []⟩ (by kernel_rfl) ?_ (fun τ hτ => ?_)
 ·replace h := hj2
  refine evs_run 1 (by kernel_rfl) ?_
  obtain ⟨r3, hr3, h⟩ := bindS h
  refine evs_callP [] (by kernel_rfl) (W.geom_within_ok hr3) (by kernel_rfl) (.inl rfl) (by kernel_rfl) ?_
  refine evs_run 1 (by kernel_rfl) ?_
  refine evs_split r3 (fun b0 => ⟨[(0, (vI x0)), (1, (vI w)), (7, (vB b0))], []⟩) (by kernel_rfl) (fun hb => ?_) (fun hb => ?_)
  ·replace h := iteT hb h
   refine evs_run 4 (by kernel_rfl) ?_
   refine evs_split (decide (w > 0)) (fun b0 => ⟨[(0, (vI x0)), (1, (vI w)), (11, (vB b0))], []⟩) (by kernel_rfl) (fun hb => ?_) (fun hb => ?_)
   ·replace h := iteT hb h
    refine evs_run 4 (by kernel_rfl) ?_
    refine evs_split (decide (w ≤ 2097152)) (fun b0 => ⟨[(0, (vI x0)), (1, (vI w)), (15, (vB b0))], []⟩) (by kernel_rfl) (fun hb => ?_) (fun hb => ?_)
    ·replace h := iteT hb h
     refine z6 6 (by kernel_rfl) (fun τ hτ => ?_)
     obtain rfl := Option.some.inj h
     exact leafC hτ (here (by kernel_rfl))
    ·replace h := iteF hb h
     refine z6 6 (by kernel_rfl) (fun τ hτ => ?_)
     obtain rfl := Option.some.inj h
     exact leafC hτ (here (by kernel_rfl))
   ·replace h := iteF hb h
    refine z6 10 (by kernel_rfl) (fun τ hτ => ?_)
    obtain rfl := Option.some.inj h
    exact leafC hτ (here (by kernel_rfl))
  ·replace h := iteF hb h
   refine z6 14 (by kernel_rfl) (fun τ hτ => ?_)
   obtain rfl := Option.some.inj h
   exact leafC hτ (here (by kernel_rfl))
 refine th_normalS hτ ⟨[(4, (vB j2))], []⟩ (here (by kernel_rfl)) ?_
 refine sem_retS (by kernel_rfl) (fun τ hτ => ?_)
 obtain rfl := Option.some.inj h
 exact rk_ret hτ [(4, (vB j2))] (here (by kernel_rfl)) (by kernel_rfl)
theorem W.geom_ValidRect_ok {r0 : Rect} {r : Bool} (h : geom_ValidRect r0 = some r) : PC G.P 92 [(.agg (c_Rect r0))] [] (vB r) [] := by
 refine pc_of G (fn := Tryz.f92) Tryz.func92 (by kernel_rfl) (by kernel_rfl) (by kernel_rfl) (by kernel_rfl) (by kernel_rfl) ?_
 refine sem_set ⟨[(0, (.agg (c_Rect r0)))], []⟩ (by kernel_rfl) ?_
 refine z3 2 ⟨[(1, (.ptr 1 0))], [(1, .box (c_Rect r0))]⟩ (by kernel_rfl) ?_
 refine z3 1 ⟨[(1, (.ptr 1 0)), (3, (.fn 121 []))], [(1, .box (c_Rect r0))]⟩ (by kernel_rfl) ?_
 refine sem_seq (by kernel_rfl) ?_
 obtain ⟨j3, hj3, h⟩ := bindS h
 refine sem_regionC ⟨[(2, (vB j3))], []⟩ (by kernel_rfl) ?_ (fun τ hτ => ?_)
 ·replace h := hj3
  refine evs_run 5 (by kernel_rfl) ?_
  obtain ⟨r4, hr4, h⟩ := bindS h
  refine evs_callP [] (by kernel_rfl) (W.geom_ValidRect_1_ok hr4) (by kernel_rfl) (.inl rfl) (by kernel_rfl) ?_
  refine evs_run 1 (by kernel_rfl) ?_
  refine evs_split r4 (fun b0 => ⟨[(1, (.ptr 1 0)), (3, (.fn 121 [])), (10, (vB b0))], [(1, .box (c_Rect r0))]⟩) (by kernel_rfl) (fun hb => ?_) (fun hb => ?_)
  ·replace h := iteT hb h
   refine evs_run 5 (by kernel_rfl) ?_
   obtain ⟨r5, hr5, h⟩ := bindS h
   refine evs_callP [] (by kernel_rfl) (W.geom_ValidRect_1_ok hr5) (by kernel_rfl) (.inl rfl) (by kernel_rfl) ?_
   refine z6 2 (by kernel_rfl) (fun τ hτ => ?_)
   obtain rfl := Option.some.inj h
   exact leafC hτ (here (by kernel_rfl))
  ·replace h := iteF hb h
   refine z6 8 (by kernel_rfl) (fun τ hτ => ?_)
   obtain rfl := Option.some.inj h
   exact leafC hτ (here (by kernel_rfl))
 refine th_normalS hτ ⟨[(2, (vB j3))], []⟩ (here (by kernel_rfl)) ?_
 refine sem_retS (by kernel_rfl) (fun τ hτ => ?_)
 obtain rfl := Option.some.inj h
 exact rk_ret hτ [(2, (vB j3))] (here (by kernel_rfl)) (by kernel_rfl)
theorem W.geom_Distance_ok {a : Rect} {b : Rect} {r : Int} (h : geom_Distance a b = some r) : PC G.P 71 [(.agg (c_Rect a)), (.agg (c_Rect b))] [] (vI r) [] := by
 refine pc_of G (fn := Tryz.f71) Tryz.func71 (by kernel_rfl) (by kernel_rfl) (by kernel_rfl) (by kernel_rfl) (by kernel_rfl) ?_
 refine sem_set ⟨[(0, (.agg (c_Rect a))), (1, (.agg (c_Rect b)))], []⟩ (by kernel_rfl) ?_
 refine z3 3 ⟨[(2, (.ptr 2 0)), (3, (.ptr 3 0))], [(2, .box (c_Rect a)), (3, .box (c_Rect b))]⟩ (by kernel_rfl) ?_
 refine sem_seq (by kernel_rfl) ?_
 refine sem_seq (by kernel_rfl) ?_
 obtain ⟨j8, hj8, h⟩ := bindS h
 refine sem_regionC ⟨[(2, (.ptr 500000 0)), (3, (.ptr 500001 0)), (13, (vB j8))], [(500000, .box (c_Rect a)), (500001, .box (c_Rect b))]⟩ (by kernel_rfl) ?_ (fun τ hτ => ?_)
 ·replace h := hj8
  refine evs_run 1 (by kernel_rfl) ?_
  obtain ⟨r9, hr9, h⟩ := bindS h
  refine evs_callP [] (by kernel_rfl) (W.geom_ValidRect_ok hr9) (by kernel_rfl) (.inl rfl) (by kernel_rfl) ?_
  refine evs_run 2 (by kernel_rfl) ?_
  refine evs_split r9 (fun b0 => ⟨[(2, (.ptr 2 0)), (3, (.ptr 3 0)), (9, (vB (!b0)))], [(2, .box (c_Rect a)), (3, .box (c_Rect b))]⟩) (by kernel_rfl) (fun hb => ?_) (fun hb => ?_)
  ·replace h := iteT hb h
   refine evs_run 1 (by kernel_rfl) ?_
   obtain ⟨r10, hr10, h⟩ := bindS h
   refine evs_callP [] (by kernel_rfl) (W.geom_ValidRect_ok hr10) (by kernel_rfl) (.inl rfl) (by kernel_rfl) ?_
   refine z6 2 (by kernel_rfl) (fun τ hτ => ?_)
   obtain rfl := Option.some.inj h
   exact leafC hτ (subR_prep [] [(2, 500000), (3, 500001)] (by kernel_rfl) rfl rfl (by kernel_rfl))
  ·replace h := iteF hb h
   refine z6 4 (by kernel_rfl) (fun τ hτ => ?_)
   obtain rfl := Option.some.inj h
   exact leafC hτ (subR_prep [] [(2, 500000), (3, 500001)] (by kernel_rfl) rfl rfl (by kernel_rfl))
 refine th_normalS hτ ⟨[(2, (.ptr 500000 0)), (3, (.ptr 500001 0)), (13, (vB j8))], [(500000, .box (c_Rect a)), (500001, .box (c_Rect b))]⟩ (here (by kernel_rfl)) ?_
 refine sem_cond j8 (by kernel_rfl) (by kernel_rfl) (fun hb => ?_) (fun hb => ?_)
 ·replace h := iteT hb h
  refine z8 1 ⟨[(4, (vI 0))], []⟩ (by kernel_rfl) (fun τ hτ => ?_)
  refine th_ret ?_
  obtain rfl := Option.some.inj h
  exact rk_ret hτ [(4, (vI 0))] (here (by kernel_rfl)) (by kernel_rfl)
 ·replace h := iteF hb h
  refine z4 ⟨[(2, (.ptr 500000 0)), (3, (.ptr 500001 0))], [(500000, .box (c_Rect a)), (500001, .box (c_Rect b))]⟩ (by kernel_rfl) ?_
  refine z3 18 ⟨[(2, (.ptr 500000 0)), (3, (.ptr 500001 0)), (5, (vI (imax (imax 0 (isub (isub b.X a.X) a.W)) (isub (isub a.X b.X) b.W))))], [(500000, .box (c_Rect a)), (500001, .box (c_Rect b))]⟩ (by kernel_rfl) ?_
  refine z8 19 ⟨[(4, (vI (imax (imax (imax (imax 0 (isub (isub b.X a.X) a.W)) (isub (isub a.X b.X) b.W)) (isub (isub b.Y a.Y) a.H)) (isub (isub a.Y b.Y) b.H))))], []⟩ (by kernel_rfl) (fun τ hτ => ?_)
  obtain rfl := Option.some.inj h
  exact rk_ret hτ [(4, (vI (imax (imax (imax (imax 0 (isub (isub b.X a.X) a.W)) (isub (isub a.X b.X) b.W)) (isub (isub b.Y a.Y) a.H)) (isub (isub a.Y b.Y) b.H))))] (here (by kernel_rfl)) (by kernel_rfl)
theorem W.geom_Overlap_ok {a : Rect} {b : Rect} {r : Bool} (h : geom_Overlap a b = some r) : PC G.P 58 [(.agg (c_Rect a)), (.agg (c_Rect b))] [] (vB r) [] := by
 refine pc_of G (fn := Tryz.f58) Tryz.func58 (by kernel_rfl) (by kernel_rfl) (by kernel_rfl) (by kernel_rfl) (by kernel_rfl) ?_
 refine sem_set ⟨[(0, (.agg (c_Rect a))), (1, (.agg (c_Rect b)))], []⟩ (by kernel_rfl) ?_
 refine z3 3 ⟨[(2, (.ptr 2 0)), (3, (.ptr 3 0))], [(2, .box (c_Rect a)), (3, .box (c_Rect b))]⟩ (by kernel_rfl) ?_
 refine sem_seq (by kernel_rfl) ?_
 obtain ⟨j3, hj3, h⟩ := bindS h
 refine sem_regionC ⟨[(4, (vB j3))], []⟩ (by kernel_rfl) ?_ (fun τ hτ => ?_)
 ·replace h := hj3
  refine evs_run 1 (by kernel_rfl) ?_
  obtain ⟨r4, hr4, h⟩ := bindS h
  refine evs_callP [] (by kernel_rfl) (W.geom_ValidRect_ok hr4) (by kernel_rfl) (.inl rfl) (by kernel_rfl) ?_
  refine evs_run 1 (by kernel_rfl) ?_
  refine evs_split r4 (fun b0 => ⟨[(2, (.ptr 2 0)), (3, (.ptr 3 0)), (7, (vB b0))], [(2, .box (c_Rect a)), (3, .box (c_Rect b))]⟩) (by kernel_rfl) (fun hb => ?_) (fun hb => ?_)
  ·replace h := iteT hb h
   refine evs_run 1 (by kernel_rfl) ?_
   obtain ⟨r5, hr5, h⟩ := bindS h
   refine evs_callP [] (by kernel_rfl) (W.geom_ValidRect_ok hr5) (by kernel_rfl) (.inl rfl) (by kernel_rfl) ?_
   refine evs_run 2 (by kernel_rfl) ?_
   refine evs_split r5 (fun b0 => ⟨[(2, (.ptr 2 0)), (3, (.ptr 3 0)), (11, (vB b0))], [(2, .box (c_Rect a)), (3, .box (c_Rect b))]⟩) (by kernel_rfl) (fun hb => ?_) (fun hb => ?_)
   ·replace h := iteT hb h
    refine evs_run 10 (by kernel_rfl) ?_
    refine evs_split (decide (a.X < (iadd b.X b.W))) (fun b0 => ⟨[(2, (.ptr 2 0)), (3, (.ptr 3 0)), (21, (vB b0))], [(2, .box (c_Rect a)), (3, .box (c_Rect b))]⟩) (by kernel_rfl) (fun hb => ?_) (fun hb => ?_)
    ·replace h := iteT hb h
     refine evs_run 10 (by kernel_rfl) ?_
     refine evs_split (decide (b.X < (iadd a.X a.W))) (fun b0 => ⟨[(2, (.ptr 2 0)), (3, (.ptr 3 0)), (31, (vB b0))], [(2, .box (c_Rect a)), (3, .box (c_Rect b))]⟩) (by kernel_rfl) (fun hb => ?_) (fun hb => ?_)
     ·replace h := iteT hb h
      refine evs_run 10 (by kernel_rfl) ?_
      refine evs_split (decide (a.Y < (iadd b.Y b.H))) (fun b0 => ⟨[(2, (.ptr 2 0)), (3, (.ptr 3 0)), (41, (vB b0))], [(2, .box (c_Rect a)), (3, .box (c_Rect b))]⟩) (by kernel_rfl) (fun hb => ?_) (fun hb => ?_)
      ·replace h := iteT hb h
       refine z6 10 (by kernel_rfl) (fun τ hτ => ?_)
       obtain rfl := Option.some.inj h
       exact leafC hτ (here (by kernel_rfl))
      ·replace h := iteF hb h
       refine z6 10 (by kernel_rfl) (fun τ hτ => ?_)
       obtain rfl := Option.some.inj h
       exact leafC hτ (here (by kernel_rfl))
     ·replace h := iteF hb h
      refine z6 20 (by kernel_rfl) (fun τ hτ => ?_)
      obtain rfl := Option.some.inj h
      exact leafC hτ (here (by kernel_rfl))
    ·replace h := iteF hb h
     refine z6 30 (by kernel_rfl) (fun τ hτ => ?_)
     obtain rfl := Option.some.inj h
     exact leafC hτ (here (by kernel_rfl))
   ·replace h := iteF hb h
    refine z6 40 (by kernel_rfl) (fun τ hτ => ?_)
    obtain rfl := Option.some.inj h
    exact leafC hτ (here (by kernel_rfl))
  ·replace h := iteF hb h
   refine z6 44 (by kernel_rfl) (fun τ hτ => ?_)
   obtain rfl := Option.some.inj h
   exact leafC hτ (here (by kernel_rfl))
 refine th_normalS hτ ⟨[(4, (vB j3))], []⟩ (here (by kernel_rfl)) ?_
 refine sem_retS (by kernel_rfl) (fun τ hτ => ?_)
 obtain rfl := Option.some.inj h
 exact rk_ret hτ [(4, (vB j3))] (here (by kernel_rfl)) (by kernel_rfl)
theorem W.sheetmetalref06_near_ok {n : Int} {r : Bool} (h : sheetmetalref06_near n = some r) : PC G.P 73 [(vI n)] [] (vB r) [] := by
 refine pc_of G (fn := Tryz.f73) Tryz.func73 (by kernel_rfl) (by kernel_rfl) (by kernel_rfl) (by kernel_rfl) (by kernel_rfl) ?_
 refine sem_set ⟨[(0, (vI n))], []⟩ (by kernel_rfl) ?_
 refine z3 1 ⟨[(0, (vI n))], []⟩ (by kernel_rfl) ?_
 refine sem_seq (by kernel_rfl) ?_
 obtain ⟨j1, hj1, h⟩ := bindS h
 refine sem_regionC ⟨[(2, (vB j1))], []⟩ (by kernel_rfl) ?_ (fun τ hτ => ?_)
 ·replace h := hj1
  refine evs_run 3 (by kernel_rfl) ?_
  refine evs_split (decide (n ≥ (-1048576))) (fun b0 => ⟨[(0, (vI n)), (5, (vB b0))], []⟩) (by kernel_rfl) (fun hb => ?_) (fun hb => ?_)
  ·replace h := iteT hb h
   refine z6 4 (by kernel_rfl) (fun τ hτ => ?_)
   obtain rfl := Option.some.inj h
   exact leafC hτ (here (by kernel_rfl))
  ·replace h := iteF hb h
   refine z6 4 (by kernel_rfl) (fun τ hτ => ?_)
   obtain rfl := Option.some.inj h
   exact leafC hτ (here (by kernel_rfl))
 refine th_normalS hτ ⟨[(2, (vB j1))], []⟩ (here (by kernel_rfl)) ?_
 refine sem_retS (by kernel_rfl) (fun τ hτ => ?_)
 obtain rfl := Option.some.inj h
 exact rk_ret hτ [(2, (vB j1))] (here (by kernel_rfl)) (by kernel_rfl)
theorem W.sheetmetalref06_Right_ok {r0 : Rect} {r : Bool} (h : sheetmetalref06_Right r0 = some r) : PC G.P 94 [(.agg (c_Rect r0))] [] (vB r) [] := by
 refine pc_of G (fn := Tryz.f94) Tryz.func94 (by kernel_rfl) (by kernel_rfl) (by kernel_rfl) (by kernel_rfl) (by kernel_rfl) ?_
 refine sem_set ⟨[(0, (.agg (c_Rect r0)))], []⟩ (by kernel_rfl) ?_
 refine z3 2 ⟨[(1, (.ptr 1 0))], [(1, .box (c_Rect r0))]⟩ (by kernel_rfl) ?_
 refine sem_seq (by kernel_rfl) ?_
 refine sem_seq (by kernel_rfl) ?_
 obtain ⟨j8, hj8, h⟩ := bindS h
 refine sem_regionC ⟨[(1, (.ptr 500000 0)), (32, (vB j8))], [(500000, .box (c_Rect r0))]⟩ (by kernel_rfl) ?_ (fun τ hτ => ?_)
 ·replace h := hj8
  refine evs_run 2 (by kernel_rfl) ?_
  obtain ⟨r9, hr9, h⟩ := bindS h
  refine evs_callP [] (by kernel_rfl) (W.sheetmetalref06_near_ok hr9) (by kernel_rfl) (.inl rfl) (by kernel_rfl) ?_
  refine evs_run 2 (by kernel_rfl) ?_
  refine evs_split r9 (fun b0 => ⟨[(1, (.ptr 1 0)), (7, (vB (!b0)))], [(1, .box (c_Rect r0))]⟩) (by kernel_rfl) (fun hb => ?_) (fun hb => ?_)
  ·replace h := iteT hb h
   refine evs_run 2 (by kernel_rfl) ?_
   obtain ⟨r10, hr10, h⟩ := bindS h
   refine evs_callP [] (by kernel_rfl) (W.sheetmetalref06_near_ok hr10) (by kernel_rfl) (.inl rfl) (by kernel_rfl) ?_
   refine evs_run 3 (by kernel_rfl) ?_
   refine evs_split r10 (fun b0 => ⟨[(1, (.ptr 1 0)), (13, (vB (!b0)))], [(1, .box (c_Rect r0))]⟩) (by kernel_rfl) (fun hb => ?_) (fun hb => ?_)
   ·replace h := iteT hb h
    refine evs_run 5 (by kernel_rfl) ?_
    refine evs_split (decide (r0.W < 1)) (fun b0 => ⟨[(1, (.ptr 1 0)), (18, (vB b0))], [(1, .box (c_Rect r0))]⟩) (by kernel_rfl) (fun hb => ?_) (fun hb => ?_)
    ·replace h := iteT hb h
     refine z6 14 (by kernel_rfl) (fun τ hτ => ?_)
     obtain rfl := Option.some.inj h
     exact leafC hτ (subR_prep [] [(1, 500000)] (by kernel_rfl) rfl rfl (by kernel_rfl))
    ·replace h := iteF hb h
     refine evs_run 5 (by kernel_rfl) ?_
     refine evs_split (decide (r0.H < 1)) (fun b0 => ⟨[(1, (.ptr 1 0)), (23, (vB b0))], [(1, .box (c_Rect r0))]⟩) (by kernel_rfl) (fun hb => ?_) (fun hb => ?_)
     ·replace h := iteT hb h
      refine z6 9 (by kernel_rfl) (fun τ hτ => ?_)
      obtain rfl := Option.some.inj h
      exact leafC hτ (subR_prep [] [(1, 500000)] (by kernel_rfl) rfl rfl (by kernel_rfl))
     ·replace h := iteF hb h
      refine evs_run 5 (by kernel_rfl) ?_
      refine evs_split (decide (r0.W > 2097152)) (fun b0 => ⟨[(1, (.ptr 1 0)), (28, (vB b0))], [(1, .box (c_Rect r0))]⟩) (by kernel_rfl) (fun hb => ?_) (fun hb => ?_)
      ·replace h := iteT hb h
       refine z6 4 (by kernel_rfl) (fun τ hτ => ?_)
       obtain rfl := Option.some.inj h
       exact leafC hτ (subR_prep [] [(1, 500000)] (by kernel_rfl) rfl rfl (by kernel_rfl))
      ·replace h := iteF hb h
       refine z6 4 (by kernel_rfl) (fun τ hτ => ?_)
       obtain rfl := Option.some.inj h
       exact leafC hτ (subR_prep [] [(1, 500000)] (by kernel_rfl) rfl rfl (by kernel_rfl))
   ·replace h := iteF hb h
    refine z6 19 (by kernel_rfl) (fun τ hτ => ?_)
    obtain rfl := Option.some.inj h
    exact leafC hτ (subR_prep [] [(1, 500000)] (by kernel_rfl) rfl rfl (by kernel_rfl))
  ·replace h := iteF hb h
   refine z6 25 (by kernel_rfl) (fun τ hτ => ?_)
   obtain rfl := Option.some.inj h
   exact leafC hτ (subR_prep [] [(1, 500000)] (by kernel_rfl) rfl rfl (by kernel_rfl))
 refine th_normalS hτ ⟨[(1, (.ptr 500000 0)), (32, (vB j8))], [(500000, .box (c_Rect r0))]⟩ (here (by kernel_rfl)) ?_
 refine sem_cond j8 (by kernel_rfl) (by kernel_rfl) (fun hb => ?_) (fun hb => ?_)
 ·replace h := iteT hb h
  refine z8 1 ⟨[(2, (vB false))], []⟩ (by kernel_rfl) (fun τ hτ => ?_)
  refine th_ret ?_
  obtain rfl := Option.some.inj h
  exact rk_ret hτ [(2, (vB false))] (here (by kernel_rfl)) (by kernel_rfl)
 ·replace h := iteF hb h
  refine z4 ⟨[(1, (.ptr 500000 0))], [(500000, .box (c_Rect r0))]⟩ (by kernel_rfl) ?_
  refine sem_seq (by kernel_rfl) ?_
  obtain ⟨j13, hj13, h⟩ := bindS h
  refine sem_regionC ⟨[(2, (vB j13))], []⟩ (by kernel_rfl) ?_ (fun τ hτ => ?_)
  ·replace h := hj13
   refine evs_run 5 (by kernel_rfl) ?_
   obtain ⟨r14, hr14, h⟩ := bindS h
   refine evs_callP [] (by kernel_rfl) (W.sheetmetalref06_near_ok hr14) (by kernel_rfl) (.inl rfl) (by kernel_rfl) ?_
   refine evs_run 1 (by kernel_rfl) ?_
   refine evs_split r14 (fun b0 => ⟨[(1, (.ptr 500000 0)), (39, (vB b0))], [(500000, .box (c_Rect r0))]⟩) (by kernel_rfl) (fun hb => ?_) (fun hb => ?_)
   ·replace h := iteT hb h
    refine evs_run 5 (by kernel_rfl) ?_
    obtain ⟨r15, hr15, h⟩ := bindS h
    refine evs_callP [] (by kernel_rfl) (W.sheetmetalref06_near_ok hr15) (by kernel_rfl) (.inl rfl) (by kernel_rfl) ?_
    refine z6 2 (by kernel_rfl) (fun τ hτ => ?_)
    obtain rfl := Option.some.inj h
    exact leafC hτ (here (by kernel_rfl))
   ·replace h := iteF hb h
    refine z6 8 (by kernel_rfl) (fun τ hτ => ?_)
    obtain rfl := Option.some.inj h
    exact leafC hτ (here (by kernel_rfl))
  refine th_normalS hτ ⟨[(2, (vB j13))], []⟩ (here (by kernel_rfl)) ?_
  refine sem_retS (by kernel_rfl) (fun τ hτ => ?_)
  obtain rfl := Option.some.inj h
  exact rk_ret hτ [(2, (vB j13))] (here (by kernel_rfl)) (by kernel_rfl)
theorem W.sheetmetalref06_Apart_ok {a : Rect} {b : Rect} {r : Int} (h : sheetmetalref06_Apart a b = some r) : PC G.P 65 [(.agg (c_Rect a)), (.agg (c_Rect b))] [] (vI r) [] := by
 refine pc_of G (fn := Tryz.f65) Tryz.func65 (by kernel_rfl) (by kernel_rfl) (by kernel_rfl) (by kernel_rfl) (by kernel_rfl) ?_
 refine sem_set ⟨[(0, (.agg (c_Rect a))), (1, (.agg (c_Rect b)))], []⟩ (by kernel_rfl) ?_
 refine z3 3 ⟨[(2, (.ptr 2 0)), (3, (.ptr 3 0))], [(2, .box (c_Rect a)), (3, .box (c_Rect b))]⟩ (by kernel_rfl) ?_
 refine sem_seq (by kernel_rfl) ?_
 refine sem_seq (by kernel_rfl) ?_
 obtain ⟨j8, hj8, h⟩ := bindS h
 refine sem_regionC ⟨[(2, (.ptr 500000 0)), (3, (.ptr 500001 0)), (14, (vB j8))], [(500000, .box (c_Rect a)), (500001, .box (c_Rect b))]⟩ (by kernel_rfl) ?_ (fun τ hτ => ?_)
 ·replace h := hj8
  refine evs_run 1 (by kernel_rfl) ?_
  obtain ⟨r9, hr9, h⟩ := bindS h
  refine evs_callP [] (by kernel_rfl) (W.sheetmetalref06_Right_ok hr9) (by kernel_rfl) (.inl rfl) (by kernel_rfl) ?_
  refine evs_run 2 (by kernel_rfl) ?_
  refine evs_split r9 (fun b0 => ⟨[(2, (.ptr 2 0)), (3, (.ptr 3 0)), (10, (vB (!b0)))], [(2, .box (c_Rect a)), (3, .box (c_Rect b))]⟩) (by kernel_rfl) (fun hb => ?_) (fun hb => ?_)
  ·replace h := iteT hb h
   refine evs_run 1 (by kernel_rfl) ?_
   obtain ⟨r10, hr10, h⟩ := bindS h
   refine evs_callP [] (by kernel_rfl) (W.sheetmetalref06_Right_ok hr10) (by kernel_rfl) (.inl rfl) (by kernel_rfl) ?_
   refine z6 2 (by kernel_rfl) (fun τ hτ => ?_)
   obtain rfl := Option.some.inj h
   exact leafC hτ (subR_prep [] [(2, 500000), (3, 500001)] (by kernel_rfl) rfl rfl (by kernel_rfl))
  ·replace h := iteF hb h
   refine z6 4 (by kernel_rfl) (fun τ hτ => ?_)
   obtain rfl := Option.some.inj h
   exact leafC hτ (subR_prep [] [(2, 500000), (3, 500001)] (by kernel_rfl) rfl rfl (by kernel_rfl))
 refine th_normalS hτ ⟨[(2, (.ptr 500000 0)), (3, (.ptr 500001 0)), (14, (vB j8))], [(500000, .box (c_Rect a)), (500001, .box (c_Rect b))]⟩ (here (by kernel_rfl)) ?_
 refine sem_cond j8 (by kernel_rfl) (by kernel_rfl) (fun hb => ?_) (fun hb => ?_)
 ·replace h := iteT hb h
  refine z8 1 ⟨[(4, (vI 0))], []⟩ (by kernel_rfl) (fun τ hτ => ?_)
  refine th_ret ?_
  obtain rfl := Option.some.inj h
  exact rk_ret hτ [(4, (vI 0))] (here (by kernel_rfl)) (by kernel_rfl)
 ·replace h := iteF hb h
  refine z4 ⟨[(2, (.ptr 500000 0)), (3, (.ptr 500001 0))], [(500000, .box (c_Rect a)), (500001, .box (c_Rect b))]⟩ (by kernel_rfl) ?_
  refine z3 18 ⟨[(2, (.ptr 500000 0)), (3, (.ptr 500001 0)), (5, (vI (imax (imax 0 (isub (isub a.X b.X) b.W)) (isub (isub b.X a.X) a.W))))], [(500000, .box (c_Rect a)), (500001, .box (c_Rect b))]⟩ (by kernel_rfl) ?_
  refine z3 18 ⟨[(5, (vI (imax (imax 0 (isub (isub a.X b.X) b.W)) (isub (isub b.X a.X) a.W)))), (6, (vI (imax (imax 0 (isub (isub a.Y b.Y) b.H)) (isub (isub b.Y a.Y) a.H))))], []⟩ (by kernel_rfl) ?_
  refine z8 4 ⟨[(4, (vI (imax (imax (imax 0 (isub (isub a.X b.X) b.W)) (isub (isub b.X a.X) a.W)) (imax (imax 0 (isub (isub a.Y b.Y) b.H)) (isub (isub b.Y a.Y) a.H)))))], []⟩ (by kernel_rfl) (fun τ hτ => ?_)
  obtain rfl := Option.some.inj h
  exact rk_ret hτ [(4, (vI (imax (imax (imax 0 (isub (isub a.X b.X) b.W)) (isub (isub b.X a.X) a.W)) (imax (imax 0 (isub (isub a.Y b.Y) b.H)) (isub (isub b.Y a.Y) a.H)))))] (here (by kernel_rfl)) (by kernel_rfl)
theorem W.sheetmetalref06_Overlaps_ok {a : Rect} {b : Rect} {r : Bool} (h : sheetmetalref06_Overlaps a b = some r) : PC G.P 72 [(.agg (c_Rect a)), (.agg (c_Rect b))] [] (vB r) [] := by
 refine pc_of G (fn := Tryz.f72) Tryz.func72 (by kernel_rfl) (by kernel_rfl) (by kernel_rfl) (by kernel_rfl) (by kernel_rfl) ?_
 refine sem_set ⟨[(0, (.agg (c_Rect a))), (1, (.agg (c_Rect b)))], []⟩ (by kernel_rfl) ?_
 refine z3 3 ⟨[(2, (.ptr 2 0)), (3, (.ptr 3 0))], [(2, .box (c_Rect a)), (3, .box (c_Rect b))]⟩ (by kernel_rfl) ?_
 refine sem_seq (by kernel_rfl) ?_
 obtain ⟨j3, hj3, h⟩ := bindS h
 refine sem_regionC ⟨[(4, (vB j3))], []⟩ (by kernel_rfl) ?_ (fun τ hτ => ?_)
 ·replace h := hj3
  refine evs_run 1 (by kernel_rfl) ?_
  obtain ⟨r4, hr4, h⟩ := bindS h
  refine evs_callP [] (by kernel_rfl) (W.sheetmetalref06_Right_ok hr4) (by kernel_rfl) (.inl rfl) (by kernel_rfl) ?_
  refine evs_run 1 (by kernel_rfl) ?_
  refine evs_split r4 (fun b0 => ⟨[(2, (.ptr 2 0)), (3, (.ptr 3 0)), (7, (vB b0))], [(2, .box (c_Rect a)), (3, .box (c_Rect b))]⟩) (by kernel_rfl) (fun hb => ?_) (fun hb => ?_)
  ·replace h := iteT hb h
   refine evs_run 1 (by kernel_rfl) ?_
   obtain ⟨r5, hr5, h⟩ := bindS h
   refine evs_callP [] (by kernel_rfl) (W.sheetmetalref06_Right_ok hr5) (by kernel_rfl) (.inl rfl) (by kernel_rfl) ?_
   refine evs_run 2 (by kernel_rfl) ?_
   refine evs_split r5 (fun b0 => ⟨[(2, (.ptr 2 0)), (3, (.ptr 3 0)), (11, (vB b0))], [(2, .box (c_Rect a)), (3, .box (c_Rect b))]⟩) (by kernel_rfl) (fun hb => ?_) (fun hb => ?_)
   ·replace h := iteT hb h
    refine evs_run 10 (by kernel_rfl) ?_
    refine evs_split (decide (a.X < (iadd b.X b.W))) (fun b0 => ⟨[(2, (.ptr 2 0)), (3, (.ptr 3 0)), (21, (vB b0))], [(2, .box (c_Rect a)), (3, .box (c_Rect b))]⟩) (by kernel_rfl) (fun hb => ?_) (fun hb => ?_)
    ·replace h := iteT hb h
     refine evs_run 10 (by kernel_rfl) ?_
     refine evs_split (decide (b.X < (iadd a.X a.W))) (fun b0 => ⟨[(2, (.ptr 2 0)), (3, (.ptr 3 0)), (31, (vB b0))], [(2, .box (c_Rect a)), (3, .box (c_Rect b))]⟩) (by kernel_rfl) (fun hb => ?_) (fun hb => ?_)
     ·replace h := iteT hb h
      refine evs_run 10 (by kernel_rfl) ?_
      refine evs_split (decide (a.Y < (iadd b.Y b.H))) (fun b0 => ⟨[(2, (.ptr 2 0)), (3, (.ptr 3 0)), (41, (vB b0))], [(2, .box (c_Rect a)), (3, .box (c_Rect b))]⟩) (by kernel_rfl) (fun hb => ?_) (fun hb => ?_)
      ·replace h := iteT hb h
       refine z6 10 (by kernel_rfl) (fun τ hτ => ?_)
       obtain rfl := Option.some.inj h
       exact leafC hτ (here (by kernel_rfl))
      ·replace h := iteF hb h
       refine z6 10 (by kernel_rfl) (fun τ hτ => ?_)
       obtain rfl := Option.some.inj h
       exact leafC hτ (here (by kernel_rfl))
     ·replace h := iteF hb h
      refine z6 20 (by kernel_rfl) (fun τ hτ => ?_)
      obtain rfl := Option.some.inj h
      exact leafC hτ (here (by kernel_rfl))
    ·replace h := iteF hb h
     refine z6 30 (by kernel_rfl) (fun τ hτ => ?_)
     obtain rfl := Option.some.inj h
     exact leafC hτ (here (by kernel_rfl))
   ·replace h := iteF hb h
    refine z6 40 (by kernel_rfl) (fun τ hτ => ?_)
    obtain rfl := Option.some.inj h
    exact leafC hτ (here (by kernel_rfl))
  ·replace h := iteF hb h
   refine z6 44 (by kernel_rfl) (fun τ hτ => ?_)
   obtain rfl := Option.some.inj h
   exact leafC hτ (here (by kernel_rfl))
 refine th_normalS hτ ⟨[(4, (vB j3))], []⟩ (here (by kernel_rfl)) ?_
 refine sem_retS (by kernel_rfl) (fun τ hτ => ?_)
 obtain rfl := Option.some.inj h
 exact rk_ret hτ [(4, (vB j3))] (here (by kernel_rfl)) (by kernel_rfl)
theorem W.strings_Contains'_ok {s sub : ByteArray} {r : Bool} (h : strings_Contains' s sub = some r) : PC G.P 91 [vS s, vS sub] [] (vB r) [] := by
 unfold strings_Contains' at h
 split at h
 ·rename_i hs
  injection h with h; subst h
  exact pc_pure (args := [.string s, .string sub]) (by kernel_rfl) 0 (by kernel_rfl) fun m w hm => Any.strings_Contains Tryz.contains_lays s sub m w hs hm
 ·cases h
theorem W.part_ValidName_ok {s0 : ByteArray} {r : Bool} (h : part_ValidName s0 = some r) : PC G.P 49 [(vS s0)] [] (vB r) [] := by
 refine pc_of G (fn := Tryz.f49) Tryz.func49 (by kernel_rfl) (by kernel_rfl) (by kernel_rfl) (by kernel_rfl) (by kernel_rfl) ?_
 refine sem_set ⟨[(0, (vS s0))], []⟩ (by kernel_rfl) ?_
 refine z3 1 ⟨[(0, (vS s0))], []⟩ (by kernel_rfl) ?_
 refine sem_seq (by kernel_rfl) ?_
 refine sem_seq (by kernel_rfl) ?_
 obtain ⟨j8, hj8, h⟩ := bindS h
 refine sem_regionC ⟨[(0, (vS s0)), (22, (vB j8))], []⟩ (by kernel_rfl) ?_ (fun τ hτ => ?_)
 ·replace h := hj8
  refine evs_run 4 (by kernel_rfl) ?_
  refine evs_split (decide ((s0.size : Int) < 1)) (fun b0 => ⟨[(0, (vS s0)), (8, (vB b0))], []⟩) (by kernel_rfl) (fun hb => ?_) (fun hb => ?_)
  ·replace h := iteT hb h
   refine z6 14 (by kernel_rfl) (fun τ hτ => ?_)
   obtain rfl := Option.some.inj h
   exact leafC hτ (here (by kernel_rfl))
  ·replace h := iteF hb h
   refine evs_run 5 (by kernel_rfl) ?_
   refine evs_split (decide ((s0.size : Int) > 8)) (fun b0 => ⟨[(0, (vS s0)), (13, (vB b0))], []⟩) (by kernel_rfl) (fun hb => ?_) (fun hb => ?_)
   ·replace h := iteT hb h
    refine z6 9 (by kernel_rfl) (fun τ hτ => ?_)
    obtain rfl := Option.some.inj h
    exact leafC hτ (here (by kernel_rfl))
   ·replace h := iteF hb h
    refine evs_run 1 (by kernel_rfl) ?_
    obtain ⟨x9, hx9, h⟩ := bindS h
    refine evs_at (at_sidx (s := s0) (i := 0) (kd := .i64) (by kernel_rfl) hx9) ?_
    refine evs_run 3 (by kernel_rfl) ?_
    refine evs_split (decide (x9 < 97)) (fun b0 => ⟨[(0, (vS s0)), (18, (vB b0))], []⟩) (by kernel_rfl) (fun hb => ?_) (fun hb => ?_)
    ·replace h := iteT hb h
     refine z6 4 (by kernel_rfl) (fun τ hτ => ?_)
     obtain rfl := Option.some.inj h
     exact leafC hτ (here (by kernel_rfl))
    ·replace h := iteF hb h
     refine evs_run 1 (by kernel_rfl) ?_
     obtain ⟨x10, hx10, h⟩ := bindS h
     refine evs_at (at_sidx (s := s0) (i := 0) (kd := .i64) (by kernel_rfl) hx10) ?_
     refine z6 2 (by kernel_rfl) (fun τ hτ => ?_)
     obtain rfl := Option.some.inj h
     exact leafC hτ (here (by kernel_rfl))
 refine th_normalS hτ ⟨[(0, (vS s0)), (22, (vB j8))], []⟩ (here (by kernel_rfl)) ?_
 refine sem_cond j8 (by kernel_rfl) (by kernel_rfl) (fun hb => ?_) (fun hb => ?_)
 ·replace h := iteT hb h
  refine z8 1 ⟨[(2, (vB false))], []⟩ (by kernel_rfl) (fun τ hτ => ?_)
  refine th_ret ?_
  obtain rfl := Option.some.inj h
  exact rk_ret hτ [(2, (vB false))] (here (by kernel_rfl)) (by kernel_rfl)
 ·replace h := iteF hb h
  refine z4 ⟨[(0, (vS s0))], []⟩ (by kernel_rfl) ?_
  refine sem_seq (by kernel_rfl) ?_
  refine z3 3 ⟨[(0, (vS s0)), (24, (vI (s0.size : Int))), (25, (vI 0))], []⟩ (by kernel_rfl) ?_
  refine sem_block (by kernel_rfl) ?_
  obtain ⟨x54, hx54, h⟩ := bindS h
  refine sem_loopS (fun (s41 : Int) => ⟨[(0, (vS s0)), (24, (vI (s0.size : Int))), (25, (vI s41))], []⟩) (fun (x54 : Unit ⊕ Unit) => match x54 with | .inl j55 => (.ret, ⟨[(2, (vB false))], []⟩) | .inr j56 => (.exit 0, ⟨[(0, (vS s0))], []⟩)) (part_ValidName_l1 s0) 0 x54 (by kernel_rfl) (here (by kernel_rfl)) hx54 ?_ ?_ ?_
  ·intro s41 r h
   refine z3 1 ⟨[(0, (vS s0)), (24, (vI (s0.size : Int))), (25, (vI s41)), (26, (vB (decide (s41 < (s0.size : Int)))))], []⟩ (by kernel_rfl) ?_
   refine sem_seq (by kernel_rfl) ?_
   refine sem_cond (decide (s41 < (s0.size : Int))) (by kernel_rfl) (by kernel_rfl) (fun hb => ?_) (fun hb => ?_)
   ·replace h := iteT hb h
    refine z4 ⟨[(0, (vS s0)), (24, (vI (s0.size : Int))), (25, (vI s41))], []⟩ (by kernel_rfl) ?_
    refine sem_seq (by kernel_rfl) ?_
    refine sem_block (by kernel_rfl) ?_
    refine z3 2 ⟨[(0, (vS s0)), (3, (vI s41)), (24, (vI (s0.size : Int))), (25, (vI s41))], []⟩ (by kernel_rfl) ?_
    refine z7 (by kernel_rfl) ?_
    refine evs_run 2 (by kernel_rfl) ?_
    obtain ⟨x52, hx52, h⟩ := bindS h
    refine evs_at (at_sidx (s := s0) (i := s41) (kd := .i64) (by kernel_rfl) hx52) ?_
    refine z1 1 ⟨[(0, (vS s0)), (4, (vK .u8 x52)), (24, (vI (s0.size : Int))), (25, (vI s41))], []⟩ (by kernel_rfl) ?_
    refine sem_seq (by kernel_rfl) ?_
    obtain ⟨j53, hj53, h⟩ := bindS h
    refine sem_regionC ⟨[(0, (vS s0)), (24, (vI (s0.size : Int))), (25, (vI s41)), (44, (vB j53))], []⟩ (by kernel_rfl) ?_ (fun τ hτ => ?_)
    ·replace h := hj53
     refine evs_run 3 (by kernel_rfl) ?_
     refine evs_split (decide (x52 < 97)) (fun b0 => ⟨[(0, (vS s0)), (4, (vK .u8 x52)), (24, (vI (s0.size : Int))), (25, (vI s41)), (33, (vB b0))], []⟩) (by kernel_rfl) (fun hb => ?_) (fun hb => ?_)
     ·replace h := iteT hb h
      refine evs_run 7 (by kernel_rfl) ?_
      refine evs_split (decide (x52 < 48)) (fun b0 => ⟨[(0, (vS s0)), (4, (vK .u8 x52)), (24, (vI (s0.size : Int))), (25, (vI s41)), (37, (vB true)), (40, (vB b0))], []⟩) (by kernel_rfl) (fun hb => ?_) (fun hb => ?_)
      ·replace h := iteT hb h
       refine z6 4 (by kernel_rfl) (fun τ hτ => ?_)
       obtain rfl := Option.some.inj h
       exact leafC hτ (here (by kernel_rfl))
      ·replace h := iteF hb h
       refine z6 4 (by kernel_rfl) (fun τ hτ => ?_)
       obtain rfl := Option.some.inj h
       exact leafC hτ (here (by kernel_rfl))
     ·replace h := iteF hb h
      refine evs_run 4 (by kernel_rfl) ?_
      refine evs_split (decide (x52 > 122)) (fun b0 => ⟨[(0, (vS s0)), (4, (vK .u8 x52)), (24, (vI (s0.size : Int))), (25, (vI s41)), (37, (vB b0))], []⟩) (by kernel_rfl) (fun hb => ?_) (fun hb => ?_)
      ·replace h := iteT hb h
       refine evs_run 3 (by kernel_rfl) ?_
       refine evs_split (decide (x52 < 48)) (fun b0 => ⟨[(0, (vS s0)), (4, (vK .u8 x52)), (24, (vI (s0.size : Int))), (25, (vI s41)), (37, (vB true)), (40, (vB b0))], []⟩) (by kernel_rfl) (fun hb => ?_) (fun hb => ?_)
       ·replace h := iteT hb h
        refine z6 4 (by kernel_rfl) (fun τ hτ => ?_)
        obtain rfl := Option.some.inj h
        exact leafC hτ (here (by kernel_rfl))
       ·replace h := iteF hb h
        refine z6 4 (by kernel_rfl) (fun τ hτ => ?_)
        obtain rfl := Option.some.inj h
        exact leafC hτ (here (by kernel_rfl))
      ·replace h := iteF hb h
       refine z6 7 (by kernel_rfl) (fun τ hτ => ?_)
       obtain rfl := Option.some.inj h
       exact leafC hτ (here (by kernel_rfl))
    refine th_normalS hτ ⟨[(0, (vS s0)), (24, (vI (s0.size : Int))), (25, (vI s41)), (44, (vB j53))], []⟩ (here (by kernel_rfl)) ?_
    refine sem_cond j53 (by kernel_rfl) (by kernel_rfl) (fun hb => ?_) (fun hb => ?_)
    ·replace h := iteT hb h
     refine z8 1 ⟨[(2, (vB false))], []⟩ (by kernel_rfl) (fun τ hτ => ?_)
     refine bl_ret ?_
     refine th_ret ?_
     obtain rfl := Option.some.inj h
     exact lk_outS hτ rfl (here (by kernel_rfl))
    ·replace h := iteF hb h
     refine sem_skipS (by kernel_rfl) (fun τ hτ => ?_)
     refine bl_normal ?_
     refine th_normalS hτ ⟨[(0, (vS s0)), (24, (vI (s0.size : Int))), (25, (vI s41))], []⟩ (here (by kernel_rfl)) ?_
     refine sem_region (by kernel_rfl) ?_
     refine z6 2 (by kernel_rfl) (fun τ hτ => ?_)
     obtain rfl := Option.some.inj h
     exact lk_nextS hτ (here (by kernel_rfl))
   ·replace h := iteF hb h
    refine sem_exitS 0 (by kernel_rfl) rfl (fun τ hτ => ?_)
    refine th_exit ?_
    obtain rfl := Option.some.inj h
    exact lk_outS hτ rfl (here (by kernel_rfl))
  ·intro x
   rcases x with _ | _ <;> rfl
  ·intro τ hτ
   rcases x54 with j55 | j56
   ·refine bl_ret ?_
    refine th_ret ?_
    obtain rfl := Option.some.inj h
    exact rk_ret hτ [(2, (vB false))] (here (by kernel_rfl)) (by kernel_rfl)
   ·refine bl_hit (by kernel_rfl) ?_
    refine th_normalS hτ ⟨[(0, (vS s0))], []⟩ (here (by kernel_rfl)) ?_
    refine z7 (by kernel_rfl) ?_
    refine evs_run 1 (by kernel_rfl) ?_
    obtain ⟨s60, hs60, h⟩ := bindS h
    refine evs_op (st_cat (a := (ByteArray.mk #[32])) (b := s0) (by kernel_rfl) hs60) ?_
    obtain ⟨s61, hs61, h⟩ := bindS h
    refine evs_op (st_cat (a := s60) (b := (ByteArray.mk #[32])) (by kernel_rfl) hs61) ?_
    obtain ⟨r62, hr62, h⟩ := bindS h
    refine evs_callP [] (by kernel_rfl) (W.strings_Contains'_ok hr62) (by kernel_rfl) (.inl rfl) (by kernel_rfl) ?_
    refine z1 2 ⟨[(2, (vB (!r62)))], []⟩ (by kernel_rfl) ?_
    refine sem_retS (by kernel_rfl) (fun τ hτ => ?_)
    obtain rfl := Option.some.inj h
    exact rk_ret hτ [(2, (vB (!r62)))] (here (by kernel_rfl)) (by kernel_rfl)
theorem W.nest_plain_ok {gauge : Int} {grain : Int} {r : Bool} (h : nest_plain gauge grain = some r) : PC G.P 50 [(vI gauge), (vI grain)] [] (vB r) [] := by
 refine pc_of G (fn := Tryz.f50) Tryz.func50 (by kernel_rfl) (by kernel_rfl) (by kernel_rfl) (by kernel_rfl) (by kernel_rfl) ?_
 refine sem_set ⟨[(0, (vI gauge)), (1, (vI grain))], []⟩ (by kernel_rfl) ?_
 refine z3 1 ⟨[(0, (vI gauge)), (1, (vI grain))], []⟩ (by kernel_rfl) ?_
 refine sem_seq (by kernel_rfl) ?_
 obtain ⟨j3, hj3, h⟩ := bindS h
 refine sem_regionC ⟨[(4, (vB j3))], []⟩ (by kernel_rfl) ?_ (fun τ hτ => ?_)
 ·replace h := hj3
  refine evs_run 1 (by kernel_rfl) ?_
  obtain ⟨r4, hr4, h⟩ := bindS h
  refine evs_callP [] (by kernel_rfl) (W.nest_from_ok hr4) (by kernel_rfl) (.inl rfl) (by kernel_rfl) ?_
  refine evs_run 1 (by kernel_rfl) ?_
  refine evs_split r4 (fun b0 => ⟨[(1, (vI grain)), (7, (vB b0))], []⟩) (by kernel_rfl) (fun hb => ?_) (fun hb => ?_)
  ·replace h := iteT hb h
   refine evs_run 1 (by kernel_rfl) ?_
   obtain ⟨r5, hr5, h⟩ := bindS h
   refine evs_callP [] (by kernel_rfl) (W.nest_from_ok hr5) (by kernel_rfl) (.inl rfl) (by kernel_rfl) ?_
   refine z6 2 (by kernel_rfl) (fun τ hτ => ?_)
   obtain rfl := Option.some.inj h
   exact leafC hτ (here (by kernel_rfl))
  ·replace h := iteF hb h
   refine z6 4 (by kernel_rfl) (fun τ hτ => ?_)
   obtain rfl := Option.some.inj h
   exact leafC hτ (here (by kernel_rfl))
 refine th_normalS hτ ⟨[(4, (vB j3))], []⟩ (here (by kernel_rfl)) ?_
 refine sem_retS (by kernel_rfl) (fun τ hτ => ?_)
 obtain rfl := Option.some.inj h
 exact rk_ret hτ [(4, (vB j3))] (here (by kernel_rfl)) (by kernel_rfl)
theorem W.nest_valid_ok {l : (List Rect)} {r : Bool} (h : nest_valid l = some r) : PC G.P 52 [(.sl (List.map c_Rect l))] [] (vB r) [] := by
 refine pc_of G (fn := Tryz.f52) Tryz.func52 (by kernel_rfl) (by kernel_rfl) (by kernel_rfl) (by kernel_rfl) (by kernel_rfl) ?_
 refine sem_set ⟨[(0, (.sl (List.map c_Rect l)))], []⟩ (by kernel_rfl) ?_
 refine z3 1 ⟨[(0, (.sl (List.map c_Rect l)))], []⟩ (by kernel_rfl) ?_
 refine sem_seq (by kernel_rfl) ?_
 refine z7 (by kernel_rfl) ?_
 refine evs_run 1 (by kernel_rfl) ?_
 refine evs_op (st_len (c := c_Rect) (l := l) (x := (.sl (List.map c_Rect l))) (by kernel_rfl) (by kernel_rfl)) ?_
 refine z1 1 ⟨[(5, (.sl (List.map c_Rect l))), (6, (vI (l.length : Int))), (7, (vI 0))], []⟩ (by kernel_rfl) ?_
 refine sem_block (by kernel_rfl) ?_
 obtain ⟨x56, hx56, h⟩ := bindS h
 refine sem_loopS (fun (s39 : Int) => ⟨[(5, (.sl (List.map c_Rect l))), (6, (vI (l.length : Int))), (7, (vI s39))], []⟩) (fun (x56 : Unit ⊕ Unit) => match x56 with | .inl j57 => (.ret, ⟨[(2, (vB false))], []⟩) | .inr j58 => (.exit 0, ⟨[], []⟩)) (nest_valid_l1 l) 0 x56 (by kernel_rfl) (here (by kernel_rfl)) hx56 ?_ ?_ ?_
 ·intro s39 r h
  refine z3 1 ⟨[(5, (.sl (List.map c_Rect l))), (6, (vI (l.length : Int))), (7, (vI s39)), (8, (vB (decide (s39 < (l.length : Int)))))], []⟩ (by kernel_rfl) ?_
  refine sem_seq (by kernel_rfl) ?_
  refine sem_cond (decide (s39 < (l.length : Int))) (by kernel_rfl) (by kernel_rfl) (fun hb => ?_) (fun hb => ?_)
  ·replace h := iteT hb h
   refine z4 ⟨[(5, (.sl (List.map c_Rect l))), (6, (vI (l.length : Int))), (7, (vI s39))], []⟩ (by kernel_rfl) ?_
   refine sem_seq (by kernel_rfl) ?_
   refine sem_block (by kernel_rfl) ?_
   refine z7 (by kernel_rfl) ?_
   obtain ⟨x53, hx53, h⟩ := bindS h
   refine evs_op (st_idx (c := c_Rect) (l := l) (i := s39) (kd := .i64) (sz := 4) (by kernel_rfl) hx53 rfl) ?_
   refine z1 3 ⟨[(4, (.ptr 4 0)), (5, (.sl (List.map c_Rect l))), (6, (vI (l.length : Int))), (7, (vI s39))], [(4, .box (c_Rect x53))]⟩ (by kernel_rfl) ?_
   refine z7 (by kernel_rfl) ?_
   refine evs_run 1 (by kernel_rfl) ?_
   obtain ⟨r55, hr55, h⟩ := bindS h
   refine evs_callP [] (by kernel_rfl) (W.geom_ValidRect_ok hr55) (by kernel_rfl) (.inl rfl) (by kernel_rfl) ?_
   refine z1 1 ⟨[(5, (.sl (List.map c_Rect l))), (6, (vI (l.length : Int))), (7, (vI s39)), (13, (vB (!r55)))], []⟩ (by kernel_rfl) ?_
   refine sem_cond (!r55) (by kernel_rfl) (by kernel_rfl) (fun hb => ?_) (fun hb => ?_)
   ·replace h := iteT hb h
    refine z8 1 ⟨[(2, (vB false))], []⟩ (by kernel_rfl) (fun τ hτ => ?_)
    refine bl_ret ?_
    refine th_ret ?_
    obtain rfl := Option.some.inj h
    exact lk_outS hτ rfl (here (by kernel_rfl))
   ·replace h := iteF hb h
    refine sem_skipS (by kernel_rfl) (fun τ hτ => ?_)
    refine bl_normal ?_
    refine th_normalS hτ ⟨[(5, (.sl (List.map c_Rect l))), (6, (vI (l.length : Int))), (7, (vI s39))], []⟩ (here (by kernel_rfl)) ?_
    refine sem_region (by kernel_rfl) ?_
    refine z6 2 (by kernel_rfl) (fun τ hτ => ?_)
    obtain rfl := Option.some.inj h
    exact lk_nextS hτ (here (by kernel_rfl))
  ·replace h := iteF hb h
   refine sem_exitS 0 (by kernel_rfl) rfl (fun τ hτ => ?_)
   refine th_exit ?_
   obtain rfl := Option.some.inj h
   exact lk_outS hτ rfl (here (by kernel_rfl))
 ·intro x
  rcases x with _ | _ <;> rfl
 ·intro τ hτ
  rcases x56 with j57 | j58
  ·refine bl_ret ?_
   refine th_ret ?_
   obtain rfl := Option.some.inj h
   exact rk_ret hτ [(2, (vB false))] (here (by kernel_rfl)) (by kernel_rfl)
  ·refine bl_hit (by kernel_rfl) ?_
   refine th_normalS hτ ⟨[], []⟩ (here (by kernel_rfl)) ?_
   refine z8 1 ⟨[(2, (vB true))], []⟩ (by kernel_rfl) (fun τ hτ => ?_)
   obtain rfl := Option.some.inj h
   exact rk_ret hτ [(2, (vB true))] (here (by kernel_rfl)) (by kernel_rfl)
theorem W.nest_inner_ok {s0 : Sheet} {margin : Int} {r : Rect × Bool} (h : nest_inner s0 margin = some r) : PC G.P 53 [(.agg (c_Sheet s0)), (vI margin)] [] (.tup [(.agg (c_Rect r.1)), (vB r.2)]) [(0, .box [(vI margin), (vI margin), (vI (isub s0.Width (imul 2 margin))), (vI (isub s0.Height (imul 2 margin)))])] := by
 refine pc_of G (fn := Tryz.f53) Tryz.func53 (by kernel_rfl) (by kernel_rfl) (by kernel_rfl) (by kernel_rfl) (by kernel_rfl) ?_
 refine sem_set ⟨[(0, (.agg (c_Sheet s0))), (1, (vI margin))], []⟩ (by kernel_rfl) ?_
 refine z3 3 ⟨[(1, (vI margin)), (2, (.ptr 2 0)), (4, (.ptr 4 0))], [(2, .box (c_Sheet s0)), (4, .box [(vI 0), (vI 0), (vI 0), (vI 0)])]⟩ (by kernel_rfl) ?_
 refine z3 15 ⟨[(4, (.ptr 4 0)), (6, (.ptr 6 0))], [(4, .box [(vI 0), (vI 0), (vI 0), (vI 0)]), (6, .box [(vI margin), (vI margin), (vI (isub s0.Width (imul 2 margin))), (vI (isub s0.Height (imul 2 margin)))])]⟩ (by kernel_rfl) ?_
 refine sem_seq (by kernel_rfl) ?_
 refine sem_drawN [] [] [] [] [] 3 (by kernel_rfl) (by kernel_rfl) (by kernel_rfl) ?_
 refine evd_run 2 (by kernel_rfl) ?_
 obtain ⟨r3, hr3, h⟩ := bindS h
 refine evd_callS [] [] (by kernel_rfl) (by kernel_rfl) (W.geom_ValidRect_ok hr3) (by kernel_rfl) (.inl rfl) (by kernel_rfl) (by kernel_rfl) ?_
 refine evd_end (by kernel_rfl) ?_
 refine evo_run 2 (by kernel_rfl) ?_
 refine evo_endS (by kernel_rfl) (fun τ hτ => ?_)
 refine th_normalS hτ ⟨[(4, (.ptr 4 0)), (5, (vB r3))], [(4, .box [(vI margin), (vI margin), (vI (isub s0.Width (imul 2 margin))), (vI (isub s0.Height (imul 2 margin)))])]⟩ (here (by kernel_rfl)) ?_
 refine sem_retS (by kernel_rfl) (fun τ hτ => ?_)
 obtain rfl := Option.some.inj h
 exact rk_ret hτ [(4, (.ptr 0 0)), (5, (vB r3))] (subR_prep [] [(4, 0)] (by kernel_rfl) rfl rfl (by kernel_rfl)) (by kernel_rfl)
theorem W.geom_Inside_ok {a : Rect} {b : Rect} {r : Bool} (h : geom_Inside a b = some r) : PC G.P 54 [(.agg (c_Rect a)), (.agg (c_Rect b))] [] (vB r) [] := by
 refine pc_of G (fn := Tryz.f54) Tryz.func54 (by kernel_rfl) (by kernel_rfl) (by kernel_rfl) (by kernel_rfl) (by kernel_rfl) ?_
 refine sem_set ⟨[(0, (.agg (c_Rect a))), (1, (.agg (c_Rect b)))], []⟩ (by kernel_rfl) ?_
 refine z3 3 ⟨[(2, (.ptr 2 0)), (3, (.ptr 3 0))], [(2, .box (c_Rect a)), (3, .box (c_Rect b))]⟩ (by kernel_rfl) ?_
 refine sem_seq (by kernel_rfl) ?_
 obtain ⟨j3, hj3, h⟩ := bindS h
 refine sem_regionC ⟨[(4, (vB j3))], []⟩ (by kernel_rfl) ?_ (fun τ hτ => ?_)
 ·replace h := hj3
  refine evs_run 1 (by kernel_rfl) ?_
  obtain ⟨r4, hr4, h⟩ := bindS h
  refine evs_callP [] (by kernel_rfl) (W.geom_ValidRect_ok hr4) (by kernel_rfl) (.inl rfl) (by kernel_rfl) ?_
  refine evs_run 1 (by kernel_rfl) ?_
  refine evs_split r4 (fun b0 => ⟨[(2, (.ptr 2 0)), (3, (.ptr 3 0)), (7, (vB b0))], [(2, .box (c_Rect a)), (3, .box (c_Rect b))]⟩) (by kernel_rfl) (fun hb => ?_) (fun hb => ?_)
  ·replace h := iteT hb h
   refine evs_run 1 (by kernel_rfl) ?_
   obtain ⟨r5, hr5, h⟩ := bindS h
   refine evs_callP [] (by kernel_rfl) (W.geom_ValidRect_ok hr5) (by kernel_rfl) (.inl rfl) (by kernel_rfl) ?_
   refine evs_run 2 (by kernel_rfl) ?_
   refine evs_split r5 (fun b0 => ⟨[(2, (.ptr 2 0)), (3, (.ptr 3 0)), (11, (vB b0))], [(2, .box (c_Rect a)), (3, .box (c_Rect b))]⟩) (by kernel_rfl) (fun hb => ?_) (fun hb => ?_)
   ·replace h := iteT hb h
    refine evs_run 7 (by kernel_rfl) ?_
    refine evs_split (decide (b.X ≤ a.X)) (fun b0 => ⟨[(2, (.ptr 2 0)), (3, (.ptr 3 0)), (18, (vB b0))], [(2, .box (c_Rect a)), (3, .box (c_Rect b))]⟩) (by kernel_rfl) (fun hb => ?_) (fun hb => ?_)
    ·replace h := iteT hb h
     refine evs_run 13 (by kernel_rfl) ?_
     refine evs_split (decide ((iadd a.X a.W) ≤ (iadd b.X b.W))) (fun b0 => ⟨[(2, (.ptr 2 0)), (3, (.ptr 3 0)), (31, (vB b0))], [(2, .box (c_Rect a)), (3, .box (c_Rect b))]⟩) (by kernel_rfl) (fun hb => ?_) (fun hb => ?_)
     ·replace h := iteT hb h
      refine evs_run 7 (by kernel_rfl) ?_
      refine evs_split (decide (b.Y ≤ a.Y)) (fun b0 => ⟨[(2, (.ptr 2 0)), (3, (.ptr 3 0)), (38, (vB b0))], [(2, .box (c_Rect a)), (3, .box (c_Rect b))]⟩) (by kernel_rfl) (fun hb => ?_) (fun hb => ?_)
      ·replace h := iteT hb h
       refine z6 13 (by kernel_rfl) (fun τ hτ => ?_)
       obtain rfl := Option.some.inj h
       exact leafC hτ (here (by kernel_rfl))
      ·replace h := iteF hb h
       refine z6 13 (by kernel_rfl) (fun τ hτ => ?_)
       obtain rfl := Option.some.inj h
       exact leafC hτ (here (by kernel_rfl))
     ·replace h := iteF hb h
      refine z6 20 (by kernel_rfl) (fun τ hτ => ?_)
      obtain rfl := Option.some.inj h
      exact leafC hτ (here (by kernel_rfl))
    ·replace h := iteF hb h
     refine z6 33 (by kernel_rfl) (fun τ hτ => ?_)
     obtain rfl := Option.some.inj h
     exact leafC hτ (here (by kernel_rfl))
   ·replace h := iteF hb h
    refine z6 40 (by kernel_rfl) (fun τ hτ => ?_)
    obtain rfl := Option.some.inj h
    exact leafC hτ (here (by kernel_rfl))
  ·replace h := iteF hb h
   refine z6 44 (by kernel_rfl) (fun τ hτ => ?_)
   obtain rfl := Option.some.inj h
   exact leafC hτ (here (by kernel_rfl))
 refine th_normalS hτ ⟨[(4, (vB j3))], []⟩ (here (by kernel_rfl)) ?_
 refine sem_retS (by kernel_rfl) (fun τ hτ => ?_)
 obtain rfl := Option.some.inj h
 exact rk_ret hτ [(4, (vB j3))] (here (by kernel_rfl)) (by kernel_rfl)
theorem W.nest_ValidateSheet_ok {s0 : Sheet} {r : Int} (h : nest_ValidateSheet s0 = some r) : PC G.P 15 [(.agg (c_Sheet s0))] [] (vI r) [] := by
 refine pc_of G (fn := Tryz.f15) Tryz.func15 (by kernel_rfl) (by kernel_rfl) (by kernel_rfl) (by kernel_rfl) (by kernel_rfl) ?_
 refine sem_set ⟨[(0, (.agg (c_Sheet s0)))], []⟩ (by kernel_rfl) ?_
 refine z3 2 ⟨[(1, (.ptr 1 0))], [(1, .box (c_Sheet s0))]⟩ (by kernel_rfl) ?_
 refine sem_seq (by kernel_rfl) ?_
 refine sem_block (by kernel_rfl) ?_
 refine sem_seq (by kernel_rfl) ?_
 obtain ⟨j21, hj21, h⟩ := bindS h
 refine sem_regionC ⟨[(1, (.ptr 500000 0)), (9, (vB j21))], [(500000, .box (c_Sheet s0))]⟩ (by kernel_rfl) ?_ (fun τ hτ => ?_)
 ·replace h := hj21
  refine evs_run 2 (by kernel_rfl) ?_
  obtain ⟨r22, hr22, h⟩ := bindS h
  refine evs_callP [] (by kernel_rfl) (W.part_ValidName_ok hr22) (by kernel_rfl) (.inl rfl) (by kernel_rfl) ?_
  refine evs_run 2 (by kernel_rfl) ?_
  refine evs_split r22 (fun b0 => ⟨[(1, (.ptr 1 0)), (14, (vB (!b0)))], [(1, .box (c_Sheet s0))]⟩) (by kernel_rfl) (fun hb => ?_) (fun hb => ?_)
  ·replace h := iteT hb h
   refine evs_run 2 (by kernel_rfl) ?_
   obtain ⟨r23, hr23, h⟩ := bindS h
   refine evs_callP [] (by kernel_rfl) (W.part_ValidName_ok hr23) (by kernel_rfl) (.inl rfl) (by kernel_rfl) ?_
   refine z6 3 (by kernel_rfl) (fun τ hτ => ?_)
   obtain rfl := Option.some.inj h
   exact leafC hτ (subR_prep [] [(1, 500000)] (by kernel_rfl) rfl rfl (by kernel_rfl))
  ·replace h := iteF hb h
   refine z6 6 (by kernel_rfl) (fun τ hτ => ?_)
   obtain rfl := Option.some.inj h
   exact leafC hτ (subR_prep [] [(1, 500000)] (by kernel_rfl) rfl rfl (by kernel_rfl))
 refine th_normalS hτ ⟨[(1, (.ptr 500000 0)), (9, (vB j21))], [(500000, .box (c_Sheet s0))]⟩ (here (by kernel_rfl)) ?_
 refine sem_cond j21 (by kernel_rfl) (by kernel_rfl) (fun hb => ?_) (fun hb => ?_)
 ·replace h := iteT hb h
  refine z8 1 ⟨[(2, (vI 2))], []⟩ (by kernel_rfl) (fun τ hτ => ?_)
  refine bl_ret ?_
  refine th_ret ?_
  obtain rfl := Option.some.inj h
  exact rk_ret hτ [(2, (vI 2))] (here (by kernel_rfl)) (by kernel_rfl)
 ·replace h := iteF hb h
  refine sem_seq (by kernel_rfl) ?_
  obtain ⟨j27, hj27, h⟩ := bindS h
  refine sem_regionC ⟨[(1, (.ptr 500000 0)), (20, (vB j27))], [(500000, .box (c_Sheet s0))]⟩ (by kernel_rfl) ?_ (fun τ hτ => ?_)
  ·replace h := hj27
   refine evs_run 4 (by kernel_rfl) ?_
   obtain ⟨r28, hr28, h⟩ := bindS h
   refine evs_callP [] (by kernel_rfl) (W.nest_plain_ok hr28) (by kernel_rfl) (.inl rfl) (by kernel_rfl) ?_
   refine evs_run 2 (by kernel_rfl) ?_
   refine evs_split r28 (fun b0 => ⟨[(1, (.ptr 500000 0)), (27, (vB (!b0)))], [(500000, .box (c_Sheet s0))]⟩) (by kernel_rfl) (fun hb => ?_) (fun hb => ?_)
   ·replace h := iteT hb h
    refine evs_run 2 (by kernel_rfl) ?_
    obtain ⟨r29, hr29, h⟩ := bindS h
    refine evs_callP [] (by kernel_rfl) (W.nest_from_ok hr29) (by kernel_rfl) (.inl rfl) (by kernel_rfl) ?_
    refine evs_run 3 (by kernel_rfl) ?_
    refine evs_split r29 (fun b0 => ⟨[(1, (.ptr 500000 0)), (33, (vB (!b0)))], [(500000, .box (c_Sheet s0))]⟩) (by kernel_rfl) (fun hb => ?_) (fun hb => ?_)
    ·replace h := iteT hb h
     refine evs_run 2 (by kernel_rfl) ?_
     obtain ⟨r30, hr30, h⟩ := bindS h
     refine evs_callP [] (by kernel_rfl) (W.nest_from_ok hr30) (by kernel_rfl) (.inl rfl) (by kernel_rfl) ?_
     refine z6 3 (by kernel_rfl) (fun τ hτ => ?_)
     obtain rfl := Option.some.inj h
     exact leafC hτ (here (by kernel_rfl))
    ·replace h := iteF hb h
     refine z6 6 (by kernel_rfl) (fun τ hτ => ?_)
     obtain rfl := Option.some.inj h
     exact leafC hτ (here (by kernel_rfl))
   ·replace h := iteF hb h
    refine z6 12 (by kernel_rfl) (fun τ hτ => ?_)
    obtain rfl := Option.some.inj h
    exact leafC hτ (here (by kernel_rfl))
  refine th_normalS hτ ⟨[(1, (.ptr 500000 0)), (20, (vB j27))], [(500000, .box (c_Sheet s0))]⟩ (here (by kernel_rfl)) ?_
  refine sem_cond j27 (by kernel_rfl) (by kernel_rfl) (fun hb => ?_) (fun hb => ?_)
  ·replace h := iteT hb h
   refine z8 1 ⟨[(2, (vI 1))], []⟩ (by kernel_rfl) (fun τ hτ => ?_)
   refine bl_ret ?_
   refine th_ret ?_
   obtain rfl := Option.some.inj h
   exact rk_ret hτ [(2, (vI 1))] (here (by kernel_rfl)) (by kernel_rfl)
  ·replace h := iteF hb h
   refine sem_seq (by kernel_rfl) ?_
   obtain ⟨j31, hj31, h⟩ := bindS h
   refine sem_regionC ⟨[(1, (.ptr 500000 0)), (39, (vB j31))], [(500000, .box (c_Sheet s0))]⟩ (by kernel_rfl) ?_ (fun τ hτ => ?_)
   ·replace h := hj31
    refine evs_run 2 (by kernel_rfl) ?_
    refine evs_op (st_len (c := c_Rect) (l := s0.Clamps) (x := (.sl (List.map c_Rect s0.Clamps))) (by kernel_rfl) (by kernel_rfl)) ?_
    refine evs_run 2 (by kernel_rfl) ?_
    refine evs_split (decide ((s0.Clamps.length : Int) > 4)) (fun b0 => ⟨[(1, (.ptr 500000 0)), (44, (vB b0))], [(500000, .box (c_Sheet s0))]⟩) (by kernel_rfl) (fun hb => ?_) (fun hb => ?_)
    ·replace h := iteT hb h
     refine z6 6 (by kernel_rfl) (fun τ hτ => ?_)
     obtain rfl := Option.some.inj h
     exact leafC hτ (here (by kernel_rfl))
    ·replace h := iteF hb h
     refine evs_run 2 (by kernel_rfl) ?_
     refine evs_op (st_len (c := c_Rect) (l := s0.Used) (x := (.sl (List.map c_Rect s0.Used))) (by kernel_rfl) (by kernel_rfl)) ?_
     refine z6 3 (by kernel_rfl) (fun τ hτ => ?_)
     obtain rfl := Option.some.inj h
     exact leafC hτ (here (by kernel_rfl))
   refine th_normalS hτ ⟨[(1, (.ptr 500000 0)), (39, (vB j31))], [(500000, .box (c_Sheet s0))]⟩ (here (by kernel_rfl)) ?_
   refine sem_cond j31 (by kernel_rfl) (by kernel_rfl) (fun hb => ?_) (fun hb => ?_)
   ·replace h := iteT hb h
    refine z8 1 ⟨[(2, (vI 4))], []⟩ (by kernel_rfl) (fun τ hτ => ?_)
    refine bl_ret ?_
    refine th_ret ?_
    obtain rfl := Option.some.inj h
    exact rk_ret hτ [(2, (vI 4))] (here (by kernel_rfl)) (by kernel_rfl)
   ·replace h := iteF hb h
    refine sem_seq (by kernel_rfl) ?_
    obtain ⟨j34, hj34, h⟩ := bindS h
    refine sem_regionC ⟨[(1, (.ptr 500000 0)), (50, (vB j34))], [(500000, .box (c_Sheet s0))]⟩ (by kernel_rfl) ?_ (fun τ hτ => ?_)
    ·replace h := hj34
     refine evs_run 2 (by kernel_rfl) ?_
     obtain ⟨r35, hr35, h⟩ := bindS h
     refine evs_callP [] (by kernel_rfl) (W.nest_valid_ok hr35) (by kernel_rfl) (.inl rfl) (by kernel_rfl) ?_
     refine evs_run 2 (by kernel_rfl) ?_
     refine evs_split r35 (fun b0 => ⟨[(1, (.ptr 500000 0)), (55, (vB (!b0)))], [(500000, .box (c_Sheet s0))]⟩) (by kernel_rfl) (fun hb => ?_) (fun hb => ?_)
     ·replace h := iteT hb h
      refine evs_run 2 (by kernel_rfl) ?_
      obtain ⟨r36, hr36, h⟩ := bindS h
      refine evs_callP [] (by kernel_rfl) (W.nest_valid_ok hr36) (by kernel_rfl) (.inl rfl) (by kernel_rfl) ?_
      refine z6 3 (by kernel_rfl) (fun τ hτ => ?_)
      obtain rfl := Option.some.inj h
      exact leafC hτ (here (by kernel_rfl))
     ·replace h := iteF hb h
      refine z6 6 (by kernel_rfl) (fun τ hτ => ?_)
      obtain rfl := Option.some.inj h
      exact leafC hτ (here (by kernel_rfl))
    refine th_normalS hτ ⟨[(1, (.ptr 500000 0)), (50, (vB j34))], [(500000, .box (c_Sheet s0))]⟩ (here (by kernel_rfl)) ?_
    refine sem_cond j34 (by kernel_rfl) (by kernel_rfl) (fun hb => ?_) (fun hb => ?_)
    ·replace h := iteT hb h
     refine z8 1 ⟨[(2, (vI 1))], []⟩ (by kernel_rfl) (fun τ hτ => ?_)
     refine bl_ret ?_
     refine th_ret ?_
     obtain rfl := Option.some.inj h
     exact rk_ret hτ [(2, (vI 1))] (here (by kernel_rfl)) (by kernel_rfl)
    ·replace h := iteF hb h
     refine sem_skipS (by kernel_rfl) (fun τ hτ => ?_)
     refine bl_normal ?_
     refine th_normalS hτ ⟨[(1, (.ptr 500000 0))], [(500000, .box (c_Sheet s0))]⟩ (here (by kernel_rfl)) ?_
     refine z7 (by kernel_rfl) ?_
     refine evs_run 1 (by kernel_rfl) ?_
     obtain ⟨r38, hr38, h⟩ := bindS h
     refine evs_callS [] [(0, 700050)] [] (by kernel_rfl) (W.nest_inner_ok hr38) (by kernel_rfl) (by kernel_rfl) (.inl rfl) ?_
     refine z1 6 ⟨[(1, (.ptr 500000 0)), (3, (.ptr 3 0))], [(3, .box (c_Rect r38.1)), (500000, .box (c_Sheet s0))]⟩ (by kernel_rfl) ?_
     refine sem_seq (by kernel_rfl) ?_
     refine z7 (by kernel_rfl) ?_
     refine evs_run 5 (by kernel_rfl) ?_
     refine evs_op (st_len (c := (cS c_Rect)) (l := [s0.Clamps, s0.Used]) (x := (.sl (List.map (cS c_Rect) [s0.Clamps, s0.Used]))) (by kernel_rfl) (by kernel_rfl)) ?_
     refine z1 1 ⟨[(3, (.ptr 3 0)), (70, (.sl (List.map (cS c_Rect) [s0.Clamps, s0.Used]))), (71, (vI ([s0.Clamps, s0.Used].length : Int))), (72, (vI 0))], [(3, .box (c_Rect r38.1))]⟩ (by kernel_rfl) ?_
     refine sem_block (by kernel_rfl) ?_
     obtain ⟨x418, hx418, h⟩ := bindS h
     refine sem_loopS (fun (s293 : Int) => ⟨[(3, (.ptr 500000 0)), (70, (.sl (List.map (cS c_Rect) [s0.Clamps, s0.Used]))), (71, (vI ([s0.Clamps, s0.Used].length : Int))), (72, (vI s293))], [(500000, .box (c_Rect r38.1))]⟩) (fun (x418 : Unit ⊕ Unit) => match x418 with | .inl j419 => (.ret, ⟨[(2, (vI 13))], []⟩) | .inr j420 => (.exit 1, ⟨[], []⟩)) (nest_ValidateSheet_l2 s0 r38) 0 x418 (by kernel_rfl) (subR_prep [] [(3, 500000)] (by kernel_rfl) rfl rfl (by kernel_rfl)) hx418 ?_ ?_ ?_
     ·intro s293 r h
      refine z3 1 ⟨[(3, (.ptr 500000 0)), (70, (.sl (List.map (cS c_Rect) [s0.Clamps, s0.Used]))), (71, (vI ([s0.Clamps, s0.Used].length : Int))), (72, (vI s293)), (73, (vB (decide (s293 < ([s0.Clamps, s0.Used].length : Int)))))], [(500000, .box (c_Rect r38.1))]⟩ (by kernel_rfl) ?_
      refine sem_seq (by kernel_rfl) ?_
      refine sem_cond (decide (s293 < ([s0.Clamps, s0.Used].length : Int))) (by kernel_rfl) (by kernel_rfl) (fun hb => ?_) (fun hb => ?_)
      ·replace h := iteT hb h
       refine z4 ⟨[(3, (.ptr 500000 0)), (70, (.sl (List.map (cS c_Rect) [s0.Clamps, s0.Used]))), (71, (vI ([s0.Clamps, s0.Used].length : Int))), (72, (vI s293))], [(500000, .box (c_Rect r38.1))]⟩ (by kernel_rfl) ?_
       refine sem_seq (by kernel_rfl) ?_
       refine sem_block (by kernel_rfl) ?_
       refine z7 (by kernel_rfl) ?_
       obtain ⟨x388, hx388, h⟩ := bindS h
       refine evs_op (st_idx (c := (cS c_Rect)) (l := [s0.Clamps, s0.Used]) (i := s293) (kd := .i64) (sz := 1) (by kernel_rfl) hx388 rfl) ?_
       refine z1 2 ⟨[(3, (.ptr 500000 0)), (6, (.sl (List.map c_Rect x388))), (70, (.sl (List.map (cS c_Rect) [s0.Clamps, s0.Used]))), (71, (vI ([s0.Clamps, s0.Used].length : Int))), (72, (vI s293))], [(500000, .box (c_Rect r38.1))]⟩ (by kernel_rfl) ?_
       refine z7 (by kernel_rfl) ?_
       refine evs_run 1 (by kernel_rfl) ?_
       refine evs_op (st_len (c := c_Rect) (l := x388) (x := (.sl (List.map c_Rect x388))) (by kernel_rfl) (by kernel_rfl)) ?_
       refine z1 1 ⟨[(3, (.ptr 500000 0)), (70, (.sl (List.map (cS c_Rect) [s0.Clamps, s0.Used]))), (71, (vI ([s0.Clamps, s0.Used].length : Int))), (72, (vI s293)), (76, (.sl (List.map c_Rect x388))), (77, (vI (x388.length : Int))), (78, (vI 0))], [(500000, .box (c_Rect r38.1))]⟩ (by kernel_rfl) ?_
       refine sem_block (by kernel_rfl) ?_
       obtain ⟨x415, hx415, h⟩ := bindS h
       refine sem_loopS (fun (s398 : Int) => ⟨[(3, (.ptr 500000 0)), (70, (.sl (List.map (cS c_Rect) [s0.Clamps, s0.Used]))), (71, (vI ([s0.Clamps, s0.Used].length : Int))), (72, (vI s293)), (76, (.sl (List.map c_Rect x388))), (77, (vI (x388.length : Int))), (78, (vI s398))], [(500000, .box (c_Rect r38.1))]⟩) (fun (x415 : Unit ⊕ Unit) => match x415 with | .inl j416 => (.ret, ⟨[(2, (vI 13))], []⟩) | .inr j417 => (.exit 3, ⟨[(3, (.ptr 500000 0)), (70, (.sl (List.map (cS c_Rect) [s0.Clamps, s0.Used]))), (71, (vI ([s0.Clamps, s0.Used].length : Int))), (72, (vI s293))], [(500000, .box (c_Rect r38.1))]⟩)) (nest_ValidateSheet_l1 r38 x388) 0 x415 (by kernel_rfl) (here (by kernel_rfl)) hx415 ?_ ?_ ?_
       ·intro s398 r h
        refine z3 1 ⟨[(3, (.ptr 500000 0)), (70, (.sl (List.map (cS c_Rect) [s0.Clamps, s0.Used]))), (71, (vI ([s0.Clamps, s0.Used].length : Int))), (72, (vI s293)), (76, (.sl (List.map c_Rect x388))), (77, (vI (x388.length : Int))), (78, (vI s398)), (79, (vB (decide (s398 < (x388.length : Int)))))], [(500000, .box (c_Rect r38.1))]⟩ (by kernel_rfl) ?_
        refine sem_seq (by kernel_rfl) ?_
        refine sem_cond (decide (s398 < (x388.length : Int))) (by kernel_rfl) (by kernel_rfl) (fun hb => ?_) (fun hb => ?_)
        ·replace h := iteT hb h
         refine z4 ⟨[(3, (.ptr 500000 0)), (70, (.sl (List.map (cS c_Rect) [s0.Clamps, s0.Used]))), (71, (vI ([s0.Clamps, s0.Used].length : Int))), (72, (vI s293)), (76, (.sl (List.map c_Rect x388))), (77, (vI (x388.length : Int))), (78, (vI s398))], [(500000, .box (c_Rect r38.1))]⟩ (by kernel_rfl) ?_
         refine sem_seq (by kernel_rfl) ?_
         refine sem_block (by kernel_rfl) ?_
         refine z7 (by kernel_rfl) ?_
         obtain ⟨x412, hx412, h⟩ := bindS h
         refine evs_op (st_idx (c := c_Rect) (l := x388) (i := s398) (kd := .i64) (sz := 4) (by kernel_rfl) hx412 rfl) ?_
         refine z1 3 ⟨[(3, (.ptr 500000 0)), (8, (.ptr 8 0)), (70, (.sl (List.map (cS c_Rect) [s0.Clamps, s0.Used]))), (71, (vI ([s0.Clamps, s0.Used].length : Int))), (72, (vI s293)), (76, (.sl (List.map c_Rect x388))), (77, (vI (x388.length : Int))), (78, (vI s398))], [(8, .box (c_Rect x412)), (500000, .box (c_Rect r38.1))]⟩ (by kernel_rfl) ?_
         refine z7 (by kernel_rfl) ?_
         refine evs_run 2 (by kernel_rfl) ?_
         obtain ⟨r414, hr414, h⟩ := bindS h
         refine evs_callP [] (by kernel_rfl) (W.geom_Inside_ok hr414) (by kernel_rfl) (.inl rfl) (by kernel_rfl) ?_
         refine z1 1 ⟨[(3, (.ptr 500000 0)), (70, (.sl (List.map (cS c_Rect) [s0.Clamps, s0.Used]))), (71, (vI ([s0.Clamps, s0.Used].length : Int))), (72, (vI s293)), (76, (.sl (List.map c_Rect x388))), (77, (vI (x388.length : Int))), (78, (vI s398)), (85, (vB (!r414)))], [(500000, .box (c_Rect r38.1))]⟩ (by kernel_rfl) ?_
         refine sem_cond (!r414) (by kernel_rfl) (by kernel_rfl) (fun hb => ?_) (fun hb => ?_)
         ·replace h := iteT hb h
          refine z8 1 ⟨[(2, (vI 13))], []⟩ (by kernel_rfl) (fun τ hτ => ?_)
          refine bl_ret ?_
          refine th_ret ?_
          obtain rfl := Option.some.inj h
          exact lk_outS hτ rfl (here (by kernel_rfl))
         ·replace h := iteF hb h
          refine sem_skipS (by kernel_rfl) (fun τ hτ => ?_)
          refine bl_normal ?_
          refine th_normalS hτ ⟨[(3, (.ptr 500000 0)), (70, (.sl (List.map (cS c_Rect) [s0.Clamps, s0.Used]))), (71, (vI ([s0.Clamps, s0.Used].length : Int))), (72, (vI s293)), (76, (.sl (List.map c_Rect x388))), (77, (vI (x388.length : Int))), (78, (vI s398))], [(500000, .box (c_Rect r38.1))]⟩ (here (by kernel_rfl)) ?_
          refine sem_region (by kernel_rfl) ?_
          refine z6 2 (by kernel_rfl) (fun τ hτ => ?_)
          obtain rfl := Option.some.inj h
          exact lk_nextS hτ (here (by kernel_rfl))
        ·replace h := iteF hb h
         refine sem_exitS 3 (by kernel_rfl) rfl (fun τ hτ => ?_)
         refine th_exit ?_
         obtain rfl := Option.some.inj h
         exact lk_outS hτ rfl (here (by kernel_rfl))
       ·intro x
        rcases x with _ | _ <;> rfl
       ·intro τ hτ
        rcases x415 with j416 | j417
        ·refine bl_ret ?_
         refine bl_ret ?_
         refine th_ret ?_
         obtain rfl := Option.some.inj h
         exact lk_outS hτ rfl (here (by kernel_rfl))
        ·refine bl_hit (by kernel_rfl) ?_
         refine bl_normal ?_
         refine th_normalS hτ ⟨[(3, (.ptr 500000 0)), (70, (.sl (List.map (cS c_Rect) [s0.Clamps, s0.Used]))), (71, (vI ([s0.Clamps, s0.Used].length : Int))), (72, (vI s293))], [(500000, .box (c_Rect r38.1))]⟩ (here (by kernel_rfl)) ?_
         refine sem_region (by kernel_rfl) ?_
         refine z6 2 (by kernel_rfl) (fun τ hτ => ?_)
         obtain rfl := Option.some.inj h
         exact lk_nextS hτ (here (by kernel_rfl))
      ·replace h := iteF hb h
       refine sem_exitS 1 (by kernel_rfl) rfl (fun τ hτ => ?_)
       refine th_exit ?_
       obtain rfl := Option.some.inj h
       exact lk_outS hτ rfl (here (by kernel_rfl))
     ·intro x
      rcases x with _ | _ <;> rfl
     ·intro τ hτ
      rcases x418 with j419 | j420
      ·refine bl_ret ?_
       refine th_ret ?_
       obtain rfl := Option.some.inj h
       exact rk_ret hτ [(2, (vI 13))] (here (by kernel_rfl)) (by kernel_rfl)
      ·refine bl_hit (by kernel_rfl) ?_
       refine th_normalS hτ ⟨[], []⟩ (here (by kernel_rfl)) ?_
       refine z8 1 ⟨[(2, (vI 0))], []⟩ (by kernel_rfl) (fun τ hτ => ?_)
       obtain rfl := Option.some.inj h
       exact rk_ret hτ [(2, (vI 0))] (here (by kernel_rfl)) (by kernel_rfl)
theorem W.sheetmetalref02_within_ok {n : Int} {lo : Int} {hi : Int} {r : Bool} (h : sheetmetalref02_within n lo hi = some r) : PC G.P 123 [(vI n), (vI lo), (vI hi)] [] (vB r) [] := by
 refine pc_of G (fn := Tryz.f123) Tryz.func123 (by kernel_rfl) (by kernel_rfl) (by kernel_rfl) (by kernel_rfl) (by kernel_rfl) ?_
 refine sem_set ⟨[(0, (vI n)), (1, (vI lo)), (2, (vI hi))], []⟩ (by kernel_rfl) ?_
 refine z3 1 ⟨[(0, (vI n)), (1, (vI lo)), (2, (vI hi))], []⟩ (by kernel_rfl) ?_
 refine sem_seq (by kernel_rfl) ?_
 obtain ⟨j1, hj1, h⟩ := bindS h
 refine sem_regionC ⟨[(6, (vB j1))], []⟩ (by kernel_rfl) ?_ (fun τ hτ => ?_)
 ·replace h := hj1
  refine evs_run 4 (by kernel_rfl) ?_
  refine evs_split (decide (n ≥ lo)) (fun b0 => ⟨[(0, (vI n)), (2, (vI hi)), (10, (vB b0))], []⟩) (by kernel_rfl) (fun hb => ?_) (fun hb => ?_)
  ·replace h := iteT hb h
   refine z6 5 (by kernel_rfl) (fun τ hτ => ?_)
   obtain rfl := Option.some.inj h
   exact leafC hτ (here (by kernel_rfl))
  ·replace h := iteF hb h
   refine z6 5 (by kernel_rfl) (fun τ hτ => ?_)
   obtain rfl := Option.some.inj h
   exact leafC hτ (here (by kernel_rfl))
 refine th_normalS hτ ⟨[(6, (vB j1))], []⟩ (here (by kernel_rfl)) ?_
 refine sem_retS (by kernel_rfl) (fun τ hτ => ?_)
 obtain rfl := Option.some.inj h
 exact rk_ret hτ [(6, (vB j1))] (here (by kernel_rfl)) (by kernel_rfl)
theorem W.sheetmetalref02_reserved_ok {r : ByteArray} (h : sheetmetalref02_reserved = some r) : PC G.P 125 [] [] (vS r) [] := by
 refine pc_of G (fn := Tryz.f125) Tryz.func125 (by kernel_rfl) (by kernel_rfl) (by kernel_rfl) (by kernel_rfl) (by kernel_rfl) ?_
 refine sem_set ⟨[], []⟩ (by kernel_rfl) ?_
 refine z3 1 ⟨[], []⟩ (by kernel_rfl) ?_
 refine z8 1 ⟨[(0, (vS (ByteArray.mk #[32, 112, 97, 114, 116, 32, 109, 97, 116, 101, 114, 105, 97, 108, 32, 98, 97, 115, 101, 32, 102, 108, 97, 110, 103, 101, 32, 104, 111, 108, 101, 32, 99, 117, 116, 32, 102, 111, 114, 109, 32, 101, 97, 115, 116, 32, 115, 111, 117, 116, 104, 32, 119, 101, 115, 116, 32, 110, 111, 114, 116, 104, 32, 117, 112, 32, 100, 111, 119, 110, 32, 99, 108, 111, 115, 101, 117, 112, 32, 99, 108, 111, 115, 101, 100, 111, 119, 110, 32, 103, 114, 97, 105, 110, 32, 120, 32, 121, 32, 116, 97, 98, 108, 101, 32, 97, 110, 103, 108, 101, 32, 109, 97, 99, 104, 105, 110, 101, 32, 112, 117, 110, 99, 104, 32, 100, 105, 101, 32, 102, 114, 97, 109, 101, 32, 103, 97, 117, 103, 101, 32, 112, 111, 108, 121, 32, 115, 116, 97, 116, 105, 111, 110, 115, 32])))], []⟩ (by kernel_rfl) (fun τ hτ => ?_)
 obtain rfl := Option.some.inj h
 exact rk_ret hτ [(0, (vS (ByteArray.mk #[32, 112, 97, 114, 116, 32, 109, 97, 116, 101, 114, 105, 97, 108, 32, 98, 97, 115, 101, 32, 102, 108, 97, 110, 103, 101, 32, 104, 111, 108, 101, 32, 99, 117, 116, 32, 102, 111, 114, 109, 32, 101, 97, 115, 116, 32, 115, 111, 117, 116, 104, 32, 119, 101, 115, 116, 32, 110, 111, 114, 116, 104, 32, 117, 112, 32, 100, 111, 119, 110, 32, 99, 108, 111, 115, 101, 117, 112, 32, 99, 108, 111, 115, 101, 100, 111, 119, 110, 32, 103, 114, 97, 105, 110, 32, 120, 32, 121, 32, 116, 97, 98, 108, 101, 32, 97, 110, 103, 108, 101, 32, 109, 97, 99, 104, 105, 110, 101, 32, 112, 117, 110, 99, 104, 32, 100, 105, 101, 32, 102, 114, 97, 109, 101, 32, 103, 97, 117, 103, 101, 32, 112, 111, 108, 121, 32, 115, 116, 97, 116, 105, 111, 110, 115, 32])))] (here (by kernel_rfl)) (by kernel_rfl)
end Go.Proofs.YtonmponhpfpokaaGreatR
