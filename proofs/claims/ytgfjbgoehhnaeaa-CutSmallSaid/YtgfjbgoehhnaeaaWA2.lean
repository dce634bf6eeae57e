/- Each Go function does what its model says; written by a program out of the translation. -/
import Derived.Test.YtgfjbgoehhnaeaaWA1
import Derived.Test.YtgfjbgoehhnaeaaCaMA
set_option linter.unusedVariables false
set_option linter.unusedSimpArgs false
set_option linter.unusedSectionVars false
namespace Go.Proofs.Ytgfjbgoehhnaeaa
open Go Go.VI Go.SM Go.Proofs
set_option maxRecDepth 100000
set_option maxHeartbeats 4000000
theorem W.cut_along__cut_edges_3__cut_edges_4_k_ok {ends : (List Int)} {sides_0_0 : ByteArray} {sides_0_1 : ByteArray} {sides_0_2 : Int} {sides_0_3 : Int} {sides_0_4 : Int} {sides_0_5 : Int} {sides_0_6 : (List Rect)} {sides_0_7 : (List Rect)} {sides_0_8 : (List Piece)} {sides_1_0 : Int} {line_0_0 : Int} {r : (List EdgeT)} (h : cut_along__cut_edges_3__cut_edges_4_k ends sides_0_0 sides_0_1 sides_0_2 sides_0_3 sides_0_4 sides_0_5 sides_0_6 sides_0_7 sides_0_8 sides_1_0 line_0_0 = some r) : PC G.P 52 [(.sl (List.map cI ends)), (.fn 56 [(.vptr [(vS sides_0_0), (vS sides_0_1), (vI sides_0_2), (vI sides_0_3), (vI sides_0_4), (vI sides_0_5), (.sl (List.map c_Rect sides_0_6)), (.sl (List.map c_Rect sides_0_7)), (.sl (List.map c_Piece sides_0_8))] 0), (.vptr [(vI sides_1_0)] 0)]), (.fn 57 [(.vptr [(vI line_0_0)] 0)])] [] (.row (.top 0) 86) [(0, .row 86 [] (List.map c_EdgeT r))] := by
 refine pc_of G (fn := Try.f52) Try.func52 (by kernel_rfl) (by kernel_rfl) (by kernel_rfl) (by kernel_rfl) (by kernel_rfl) ?_
 refine sem_set ⟨[(0, (.sl (List.map cI ends))), (1, (.fn 56 [(.vptr [(vS sides_0_0), (vS sides_0_1), (vI sides_0_2), (vI sides_0_3), (vI sides_0_4), (vI sides_0_5), (.sl (List.map c_Rect sides_0_6)), (.sl (List.map c_Rect sides_0_7)), (.sl (List.map c_Piece sides_0_8))] 0), (.vptr [(vI sides_1_0)] 0)])), (2, (.fn 57 [(.vptr [(vI line_0_0)] 0)]))], []⟩ (by kernel_rfl) ?_
 refine z3 1 ⟨[(0, (.sl (List.map cI ends))), (1, (.fn 56 [(.vptr [(vS sides_0_0), (vS sides_0_1), (vI sides_0_2), (vI sides_0_3), (vI sides_0_4), (vI sides_0_5), (.sl (List.map c_Rect sides_0_6)), (.sl (List.map c_Rect sides_0_7)), (.sl (List.map c_Piece sides_0_8))] 0), (.vptr [(vI sides_1_0)] 0)])), (2, (.fn 57 [(.vptr [(vI line_0_0)] 0)]))], []⟩ (by kernel_rfl) ?_
 refine z3 1 ⟨[(0, (.sl (List.map cI ends))), (1, (.fn 56 [(.vptr [(vS sides_0_0), (vS sides_0_1), (vI sides_0_2), (vI sides_0_3), (vI sides_0_4), (vI sides_0_5), (.sl (List.map c_Rect sides_0_6)), (.sl (List.map c_Rect sides_0_7)), (.sl (List.map c_Piece sides_0_8))] 0), (.vptr [(vI sides_1_0)] 0)])), (2, (.fn 57 [(.vptr [(vI line_0_0)] 0)])), (7, (.row (.top 7) 86))], [(7, .row 86 [] (List.map c_EdgeT []))]⟩ (by kernel_rfl) ?_
 refine z3 1 ⟨[(0, (.sl (List.map cI ends))), (1, (.fn 56 [(.vptr [(vS sides_0_0), (vS sides_0_1), (vI sides_0_2), (vI sides_0_3), (vI sides_0_4), (vI sides_0_5), (.sl (List.map c_Rect sides_0_6)), (.sl (List.map c_Rect sides_0_7)), (.sl (List.map c_Piece sides_0_8))] 0), (.vptr [(vI sides_1_0)] 0)])), (2, (.fn 57 [(.vptr [(vI line_0_0)] 0)])), (7, (.row (.top 7) 86)), (8, (vI 0))], [(7, .row 86 [] (List.map c_EdgeT []))]⟩ (by kernel_rfl) ?_
 refine z7 (by kernel_rfl) ?_
 refine evs_run 1 (by kernel_rfl) ?_
 refine evs_at (at_mkif (x := none) ifc_ (by kernel_rfl)) ?_
 refine evs_run 1 (by kernel_rfl) ?_
 refine evs_at (at_mkif (x := none) ifc_ (by kernel_rfl)) ?_
 refine z1 2 ⟨[(0, (.sl (List.map cI ends))), (1, (.fn 56 [(.vptr [(vS sides_0_0), (vS sides_0_1), (vI sides_0_2), (vI sides_0_3), (vI sides_0_4), (vI sides_0_5), (.sl (List.map c_Rect sides_0_6)), (.sl (List.map c_Rect sides_0_7)), (.sl (List.map c_Piece sides_0_8))] 0), (.vptr [(vI sides_1_0)] 0)])), (2, (.fn 57 [(.vptr [(vI line_0_0)] 0)])), (7, (.row (.top 7) 86)), (8, (vI 0)), (9, (vF 116 112 none)), (10, (vF 116 112 none))], [(7, .row 86 [] (List.map c_EdgeT []))]⟩ (by kernel_rfl) ?_
 refine sem_seq (by kernel_rfl) ?_
 refine z7 (by kernel_rfl) ?_
 refine evs_run 1 (by kernel_rfl) ?_
 refine evs_op (st_len (c := cI) (l := ends) (x := (.sl (List.map cI ends))) (by kernel_rfl) (by kernel_rfl)) ?_
 refine z1 1 ⟨[(0, (.sl (List.map cI ends))), (1, (.fn 56 [(.vptr [(vS sides_0_0), (vS sides_0_1), (vI sides_0_2), (vI sides_0_3), (vI sides_0_4), (vI sides_0_5), (.sl (List.map c_Rect sides_0_6)), (.sl (List.map c_Rect sides_0_7)), (.sl (List.map c_Piece sides_0_8))] 0), (.vptr [(vI sides_1_0)] 0)])), (2, (.fn 57 [(.vptr [(vI line_0_0)] 0)])), (7, (.row (.top 7) 86)), (8, (vI 0)), (9, (vF 116 112 none)), (10, (vF 116 112 none)), (19, (.sl (List.map cI ends))), (20, (vI (ends.length : Int))), (21, (vI 0))], [(7, .row 86 [] (List.map c_EdgeT []))]⟩ (by kernel_rfl) ?_
 refine sem_block (by kernel_rfl) ?_
 obtain ⟨x486, hx486, h⟩ := bindS h
 refine sem_loopS (fun (s325 : Int × (Option Int) × (Option Int) × Int × (List EdgeT)) => ⟨[(0, (.sl (List.map cI ends))), (1, (.fn 56 [(.vptr [(vS sides_0_0), (vS sides_0_1), (vI sides_0_2), (vI sides_0_3), (vI sides_0_4), (vI sides_0_5), (.sl (List.map c_Rect sides_0_6)), (.sl (List.map c_Rect sides_0_7)), (.sl (List.map c_Piece sides_0_8))] 0), (.vptr [(vI sides_1_0)] 0)])), (2, (.fn 57 [(.vptr [(vI line_0_0)] 0)])), (7, (.row (.top 500000) 86)), (8, (vI s325.1)), (9, (vF 116 112 s325.2.1)), (10, (vF 116 112 s325.2.2.1)), (19, (.sl (List.map cI ends))), (20, (vI (ends.length : Int))), (21, (vI s325.2.2.2.1))], [(500000, .row 86 [] (List.map c_EdgeT s325.2.2.2.2))]⟩) (fun (x486 : (List EdgeT)) => (.exit 0, ⟨[(7, (.row (.top 500000) 86))], [(500000, .row 86 [] (List.map c_EdgeT x486))]⟩)) (cut_along__cut_edges_3__cut_edges_4_k_l3 ends sides_0_0 sides_0_1 sides_0_2 sides_0_3 sides_0_4 sides_0_5 sides_0_6 sides_0_7 sides_0_8 sides_1_0 line_0_0) (0, none, none, 0, []) x486 (by kernel_rfl) (subR_prep [] [(7, 500000)] (by kernel_rfl) rfl rfl (by kernel_rfl)) (iter_loop hx486) ?_ ?_ ?_
 ·intro s325 r h
  refine z3 1 ⟨[(0, (.sl (List.map cI ends))), (1, (.fn 56 [(.vptr [(vS sides_0_0), (vS sides_0_1), (vI sides_0_2), (vI sides_0_3), (vI sides_0_4), (vI sides_0_5), (.sl (List.map c_Rect sides_0_6)), (.sl (List.map c_Rect sides_0_7)), (.sl (List.map c_Piece sides_0_8))] 0), (.vptr [(vI sides_1_0)] 0)])), (2, (.fn 57 [(.vptr [(vI line_0_0)] 0)])), (7, (.row (.top 500000) 86)), (8, (vI s325.1)), (9, (vF 116 112 s325.2.1)), (10, (vF 116 112 s325.2.2.1)), (19, (.sl (List.map cI ends))), (20, (vI (ends.length : Int))), (21, (vI s325.2.2.2.1)), (22, (vB (decide (s325.2.2.2.1 < (ends.length : Int)))))], [(500000, .row 86 [] (List.map c_EdgeT s325.2.2.2.2))]⟩ (by kernel_rfl) ?_
  refine sem_seq (by kernel_rfl) ?_
  refine sem_cond (decide (s325.2.2.2.1 < (ends.length : Int))) (by kernel_rfl) (by kernel_rfl) (fun hb => ?_) (fun hb => ?_)
  ·replace h := iteT hb h
   refine z4 ⟨[(0, (.sl (List.map cI ends))), (1, (.fn 56 [(.vptr [(vS sides_0_0), (vS sides_0_1), (vI sides_0_2), (vI sides_0_3), (vI sides_0_4), (vI sides_0_5), (.sl (List.map c_Rect sides_0_6)), (.sl (List.map c_Rect sides_0_7)), (.sl (List.map c_Piece sides_0_8))] 0), (.vptr [(vI sides_1_0)] 0)])), (2, (.fn 57 [(.vptr [(vI line_0_0)] 0)])), (7, (.row (.top 500000) 86)), (8, (vI s325.1)), (9, (vF 116 112 s325.2.1)), (10, (vF 116 112 s325.2.2.1)), (19, (.sl (List.map cI ends))), (20, (vI (ends.length : Int))), (21, (vI s325.2.2.2.1))], [(500000, .row 86 [] (List.map c_EdgeT s325.2.2.2.2))]⟩ (by kernel_rfl) ?_
   refine sem_seq (by kernel_rfl) ?_
   refine sem_block (by kernel_rfl) ?_
   refine z7 (by kernel_rfl) ?_
   refine evs_run 1 (by kernel_rfl) ?_
   obtain ⟨x447, hx447, h⟩ := bindS h
   refine evs_op (st_idx (c := cI) (l := ends) (i := s325.2.2.2.1) (kd := .i64) (sz := 1) (by kernel_rfl) hx447 rfl) ?_
   refine z1 3 ⟨[(0, (.sl (List.map cI ends))), (1, (.fn 56 [(.vptr [(vS sides_0_0), (vS sides_0_1), (vI sides_0_2), (vI sides_0_3), (vI sides_0_4), (vI sides_0_5), (.sl (List.map c_Rect sides_0_6)), (.sl (List.map c_Rect sides_0_7)), (.sl (List.map c_Piece sides_0_8))] 0), (.vptr [(vI sides_1_0)] 0)])), (2, (.fn 57 [(.vptr [(vI line_0_0)] 0)])), (7, (.row (.top 500000) 86)), (8, (vI s325.1)), (9, (vF 116 112 s325.2.1)), (10, (vF 116 112 s325.2.2.1)), (11, (vI s325.2.2.2.1)), (12, (vI x447)), (19, (.sl (List.map cI ends))), (20, (vI (ends.length : Int))), (21, (vI s325.2.2.2.1))], [(500000, .row 86 [] (List.map c_EdgeT s325.2.2.2.2))]⟩ (by kernel_rfl) ?_
   refine z7 (by kernel_rfl) ?_
   refine evs_run 1 (by kernel_rfl) ?_
   refine evs_at (at_mkif (x := none) ifc_ (by kernel_rfl)) ?_
   refine evs_run 1 (by kernel_rfl) ?_
   refine evs_at (at_mkif (x := none) ifc_ (by kernel_rfl)) ?_
   refine z1 2 ⟨[(0, (.sl (List.map cI ends))), (1, (.fn 56 [(.vptr [(vS sides_0_0), (vS sides_0_1), (vI sides_0_2), (vI sides_0_3), (vI sides_0_4), (vI sides_0_5), (.sl (List.map c_Rect sides_0_6)), (.sl (List.map c_Rect sides_0_7)), (.sl (List.map c_Piece sides_0_8))] 0), (.vptr [(vI sides_1_0)] 0)])), (2, (.fn 57 [(.vptr [(vI line_0_0)] 0)])), (7, (.row (.top 500000) 86)), (8, (vI s325.1)), (9, (vF 116 112 s325.2.1)), (10, (vF 116 112 s325.2.2.1)), (11, (vI s325.2.2.2.1)), (12, (vI x447)), (13, (vF 116 112 none)), (14, (vF 116 112 none)), (19, (.sl (List.map cI ends))), (20, (vI (ends.length : Int))), (21, (vI s325.2.2.2.1))], [(500000, .row 86 [] (List.map c_EdgeT s325.2.2.2.2))]⟩ (by kernel_rfl) ?_
   refine sem_seqJ (fun (j450 : (Option Int) × (Option Int)) => ⟨[(0, (.sl (List.map cI ends))), (1, (.fn 56 [(.vptr [(vS sides_0_0), (vS sides_0_1), (vI sides_0_2), (vI sides_0_3), (vI sides_0_4), (vI sides_0_5), (.sl (List.map c_Rect sides_0_6)), (.sl (List.map c_Rect sides_0_7)), (.sl (List.map c_Piece sides_0_8))] 0), (.vptr [(vI sides_1_0)] 0)])), (2, (.fn 57 [(.vptr [(vI line_0_0)] 0)])), (7, (.row (.top 500000) 86)), (8, (vI s325.1)), (9, (vF 116 112 s325.2.1)), (10, (vF 116 112 s325.2.2.1)), (12, (vI x447)), (13, (vF 116 112 j450.1)), (14, (vF 116 112 j450.2)), (19, (.sl (List.map cI ends))), (20, (vI (ends.length : Int))), (21, (vI s325.2.2.2.1))], [(500000, .row 86 [] (List.map c_EdgeT s325.2.2.2.2))]⟩) (cut_along__cut_edges_3__cut_edges_4_k_k2 line_0_0 s325 x447) r (by kernel_rfl) (fun j450 h => ?_) ?_
   ·refine sem_seq (by kernel_rfl) ?_
    refine sem_seq (by kernel_rfl) ?_
    obtain ⟨j452, hj452, h⟩ := bindS h
    refine sem_regionC ⟨[(0, (.sl (List.map cI ends))), (1, (.fn 56 [(.vptr [(vS sides_0_0), (vS sides_0_1), (vI sides_0_2), (vI sides_0_3), (vI sides_0_4), (vI sides_0_5), (.sl (List.map c_Rect sides_0_6)), (.sl (List.map c_Rect sides_0_7)), (.sl (List.map c_Piece sides_0_8))] 0), (.vptr [(vI sides_1_0)] 0)])), (2, (.fn 57 [(.vptr [(vI line_0_0)] 0)])), (7, (.row (.top 500000) 86)), (8, (vI s325.1)), (9, (vF 116 112 s325.2.1)), (10, (vF 116 112 s325.2.2.1)), (12, (vI x447)), (13, (vF 116 112 j450.1)), (14, (vF 116 112 j450.2)), (19, (.sl (List.map cI ends))), (20, (vI (ends.length : Int))), (21, (vI s325.2.2.2.1)), (48, (vB j452))], [(500000, .row 86 [] (List.map c_EdgeT s325.2.2.2.2))]⟩ (by kernel_rfl) ?_ (fun τ hτ => ?_)
    ·replace h := hj452
     refine evs_run 2 (by kernel_rfl) ?_
     refine evs_at (at_ife (x := j450.1) (y := s325.2.1) ifc_ (by kernel_rfl)) ?_
     refine evs_run 1 (by kernel_rfl) ?_
     refine evs_split (j450.1 == s325.2.1) (fun b0 => ⟨[(0, (.sl (List.map cI ends))), (1, (.fn 56 [(.vptr [(vS sides_0_0), (vS sides_0_1), (vI sides_0_2), (vI sides_0_3), (vI sides_0_4), (vI sides_0_5), (.sl (List.map c_Rect sides_0_6)), (.sl (List.map c_Rect sides_0_7)), (.sl (List.map c_Piece sides_0_8))] 0), (.vptr [(vI sides_1_0)] 0)])), (2, (.fn 57 [(.vptr [(vI line_0_0)] 0)])), (7, (.row (.top 500000) 86)), (8, (vI s325.1)), (9, (vF 116 112 s325.2.1)), (10, (vF 116 112 s325.2.2.1)), (12, (vI x447)), (13, (vF 116 112 j450.1)), (14, (vF 116 112 j450.2)), (19, (.sl (List.map cI ends))), (20, (vI (ends.length : Int))), (21, (vI s325.2.2.2.1)), (44, (vB b0))], [(500000, .row 86 [] (List.map c_EdgeT s325.2.2.2.2))]⟩) (by kernel_rfl) (fun hb => ?_) (fun hb => ?_)
     ·replace h := iteT hb h
      refine evs_run 2 (by kernel_rfl) ?_
      refine evs_at (at_ife (x := j450.2) (y := s325.2.2.1) ifc_ (by kernel_rfl)) ?_
      refine z6 1 (by kernel_rfl) (fun τ hτ => ?_)
      obtain rfl := Option.some.inj h
      exact leafC hτ (here (by kernel_rfl))
     ·replace h := iteF hb h
      refine z6 4 (by kernel_rfl) (fun τ hτ => ?_)
      obtain rfl := Option.some.inj h
      exact leafC hτ (here (by kernel_rfl))
    refine th_normalS hτ ⟨[(0, (.sl (List.map cI ends))), (1, (.fn 56 [(.vptr [(vS sides_0_0), (vS sides_0_1), (vI sides_0_2), (vI sides_0_3), (vI sides_0_4), (vI sides_0_5), (.sl (List.map c_Rect sides_0_6)), (.sl (List.map c_Rect sides_0_7)), (.sl (List.map c_Piece sides_0_8))] 0), (.vptr [(vI sides_1_0)] 0)])), (2, (.fn 57 [(.vptr [(vI line_0_0)] 0)])), (7, (.row (.top 500000) 86)), (8, (vI s325.1)), (9, (vF 116 112 s325.2.1)), (10, (vF 116 112 s325.2.2.1)), (12, (vI x447)), (13, (vF 116 112 j450.1)), (14, (vF 116 112 j450.2)), (19, (.sl (List.map cI ends))), (20, (vI (ends.length : Int))), (21, (vI s325.2.2.2.1)), (48, (vB j452))], [(500000, .row 86 [] (List.map c_EdgeT s325.2.2.2.2))]⟩ (here (by kernel_rfl)) ?_
    refine sem_cond j452 (by kernel_rfl) (by kernel_rfl) (fun hb => ?_) (fun hb => ?_)
    ·replace h := iteT hb h
     exact nomatch h
    ·replace h := iteF hb h
     refine z4 ⟨[(0, (.sl (List.map cI ends))), (1, (.fn 56 [(.vptr [(vS sides_0_0), (vS sides_0_1), (vI sides_0_2), (vI sides_0_3), (vI sides_0_4), (vI sides_0_5), (.sl (List.map c_Rect sides_0_6)), (.sl (List.map c_Rect sides_0_7)), (.sl (List.map c_Piece sides_0_8))] 0), (.vptr [(vI sides_1_0)] 0)])), (2, (.fn 57 [(.vptr [(vI line_0_0)] 0)])), (7, (.row (.top 500000) 86)), (8, (vI s325.1)), (9, (vF 116 112 s325.2.1)), (10, (vF 116 112 s325.2.2.1)), (12, (vI x447)), (13, (vF 116 112 j450.1)), (14, (vF 116 112 j450.2)), (19, (.sl (List.map cI ends))), (20, (vI (ends.length : Int))), (21, (vI s325.2.2.2.1))], [(500000, .row 86 [] (List.map c_EdgeT s325.2.2.2.2))]⟩ (by kernel_rfl) ?_
     refine sem_seqJ (fun (j468 : (List EdgeT)) => ⟨[(0, (.sl (List.map cI ends))), (1, (.fn 56 [(.vptr [(vS sides_0_0), (vS sides_0_1), (vI sides_0_2), (vI sides_0_3), (vI sides_0_4), (vI sides_0_5), (.sl (List.map c_Rect sides_0_6)), (.sl (List.map c_Rect sides_0_7)), (.sl (List.map c_Piece sides_0_8))] 0), (.vptr [(vI sides_1_0)] 0)])), (2, (.fn 57 [(.vptr [(vI line_0_0)] 0)])), (7, (.row (.top 500000) 86)), (12, (vI x447)), (13, (vF 116 112 j450.1)), (14, (vF 116 112 j450.2)), (19, (.sl (List.map cI ends))), (20, (vI (ends.length : Int))), (21, (vI s325.2.2.2.1))], [(500000, .row 86 [] (List.map c_EdgeT j468))]⟩) (cut_along__cut_edges_3__cut_edges_4_k_k1 s325 x447 j450) r (by kernel_rfl) (fun j468 h => ?_) ?_
     ·refine sem_region (by kernel_rfl) ?_
      refine z6 6 (by kernel_rfl) (fun τ hτ => ?_)
      refine bl_normal ?_
      refine th_normalS hτ ⟨[(0, (.sl (List.map cI ends))), (1, (.fn 56 [(.vptr [(vS sides_0_0), (vS sides_0_1), (vI sides_0_2), (vI sides_0_3), (vI sides_0_4), (vI sides_0_5), (.sl (List.map c_Rect sides_0_6)), (.sl (List.map c_Rect sides_0_7)), (.sl (List.map c_Piece sides_0_8))] 0), (.vptr [(vI sides_1_0)] 0)])), (2, (.fn 57 [(.vptr [(vI line_0_0)] 0)])), (7, (.row (.top 500000) 86)), (8, (vI x447)), (9, (vF 116 112 j450.1)), (10, (vF 116 112 j450.2)), (19, (.sl (List.map cI ends))), (20, (vI (ends.length : Int))), (21, (vI s325.2.2.2.1))], [(500000, .row 86 [] (List.map c_EdgeT j468))]⟩ (here (by kernel_rfl)) ?_
      refine sem_region (by kernel_rfl) ?_
      refine z6 2 (by kernel_rfl) (fun τ hτ => ?_)
      obtain rfl := Option.some.inj h
      exact lk_nextS hτ (here (by kernel_rfl))
     refine sem_seq (by kernel_rfl) ?_
     obtain ⟨j471, hj471, h⟩ := bindS h
     refine sem_regionC ⟨[(0, (.sl (List.map cI ends))), (1, (.fn 56 [(.vptr [(vS sides_0_0), (vS sides_0_1), (vI sides_0_2), (vI sides_0_3), (vI sides_0_4), (vI sides_0_5), (.sl (List.map c_Rect sides_0_6)), (.sl (List.map c_Rect sides_0_7)), (.sl (List.map c_Piece sides_0_8))] 0), (.vptr [(vI sides_1_0)] 0)])), (2, (.fn 57 [(.vptr [(vI line_0_0)] 0)])), (7, (.row (.top 500000) 86)), (8, (vI s325.1)), (9, (vF 116 112 s325.2.1)), (10, (vF 116 112 s325.2.2.1)), (12, (vI x447)), (13, (vF 116 112 j450.1)), (14, (vF 116 112 j450.2)), (19, (.sl (List.map cI ends))), (20, (vI (ends.length : Int))), (21, (vI s325.2.2.2.1)), (59, (vB j471))], [(500000, .row 86 [] (List.map c_EdgeT s325.2.2.2.2))]⟩ (by kernel_rfl) ?_ (fun τ hτ => ?_)
     ·replace h := hj471
      refine evs_run 2 (by kernel_rfl) ?_
      refine evs_at (at_ifn (x := s325.2.1) (y := s325.2.2.1) ifc_ (by kernel_rfl)) ?_
      refine evs_run 1 (by kernel_rfl) ?_
      refine evs_split (s325.2.1 == s325.2.2.1) (fun b0 => ⟨[(0, (.sl (List.map cI ends))), (1, (.fn 56 [(.vptr [(vS sides_0_0), (vS sides_0_1), (vI sides_0_2), (vI sides_0_3), (vI sides_0_4), (vI sides_0_5), (.sl (List.map c_Rect sides_0_6)), (.sl (List.map c_Rect sides_0_7)), (.sl (List.map c_Piece sides_0_8))] 0), (.vptr [(vI sides_1_0)] 0)])), (2, (.fn 57 [(.vptr [(vI line_0_0)] 0)])), (7, (.row (.top 500000) 86)), (8, (vI s325.1)), (9, (vF 116 112 s325.2.1)), (10, (vF 116 112 s325.2.2.1)), (12, (vI x447)), (13, (vF 116 112 j450.1)), (14, (vF 116 112 j450.2)), (19, (.sl (List.map cI ends))), (20, (vI (ends.length : Int))), (21, (vI s325.2.2.2.1)), (52, (vB (!b0)))], [(500000, .row 86 [] (List.map c_EdgeT s325.2.2.2.2))]⟩) (by kernel_rfl) (fun hb => ?_) (fun hb => ?_)
      ·replace h := iteT hb h
       refine z6 7 (by kernel_rfl) (fun τ hτ => ?_)
       obtain rfl := Option.some.inj h
       exact leafC hτ (here (by kernel_rfl))
      ·replace h := iteF hb h
       refine evs_run 1 (by kernel_rfl) ?_
       obtain ⟨b472, hb472, h⟩ := bindS h
       refine evs_inv (x := s325.2.1) (r := b472) ifc_ (by kernel_rfl) (inv_pc hb472 (fun n h => W.cut_pieceNo_solid_k_ok h) (fun h => W.cut_nothing_solid_k_ok h)) ?_
       refine evs_run 1 (by kernel_rfl) ?_
       refine evs_split b472 (fun b0 => ⟨[(0, (.sl (List.map cI ends))), (1, (.fn 56 [(.vptr [(vS sides_0_0), (vS sides_0_1), (vI sides_0_2), (vI sides_0_3), (vI sides_0_4), (vI sides_0_5), (.sl (List.map c_Rect sides_0_6)), (.sl (List.map c_Rect sides_0_7)), (.sl (List.map c_Piece sides_0_8))] 0), (.vptr [(vI sides_1_0)] 0)])), (2, (.fn 57 [(.vptr [(vI line_0_0)] 0)])), (7, (.row (.top 500000) 86)), (8, (vI s325.1)), (9, (vF 116 112 s325.2.1)), (10, (vF 116 112 s325.2.2.1)), (12, (vI x447)), (13, (vF 116 112 j450.1)), (14, (vF 116 112 j450.2)), (19, (.sl (List.map cI ends))), (20, (vI (ends.length : Int))), (21, (vI s325.2.2.2.1)), (52, (vB true)), (53, (vF 116 112 s325.2.1)), (54, (vB b0)), (55, (vB b0))], [(500000, .row 86 [] (List.map c_EdgeT s325.2.2.2.2))]⟩) (by kernel_rfl) (fun hb => ?_) (fun hb => ?_)
       ·replace h := iteT hb h
        refine z6 4 (by kernel_rfl) (fun τ hτ => ?_)
        obtain rfl := Option.some.inj h
        exact leafC hτ (here (by kernel_rfl))
       ·replace h := iteF hb h
        refine evs_run 1 (by kernel_rfl) ?_
        obtain ⟨b473, hb473, h⟩ := bindS h
        refine evs_inv (x := s325.2.2.1) (r := b473) ifc_ (by kernel_rfl) (inv_pc hb473 (fun n h => W.cut_pieceNo_solid_k_ok h) (fun h => W.cut_nothing_solid_k_ok h)) ?_
        refine z6 2 (by kernel_rfl) (fun τ hτ => ?_)
        obtain rfl := Option.some.inj h
        exact leafC hτ (here (by kernel_rfl))
     refine th_normalS hτ ⟨[(0, (.sl (List.map cI ends))), (1, (.fn 56 [(.vptr [(vS sides_0_0), (vS sides_0_1), (vI sides_0_2), (vI sides_0_3), (vI sides_0_4), (vI sides_0_5), (.sl (List.map c_Rect sides_0_6)), (.sl (List.map c_Rect sides_0_7)), (.sl (List.map c_Piece sides_0_8))] 0), (.vptr [(vI sides_1_0)] 0)])), (2, (.fn 57 [(.vptr [(vI line_0_0)] 0)])), (7, (.row (.top 500000) 86)), (8, (vI s325.1)), (9, (vF 116 112 s325.2.1)), (10, (vF 116 112 s325.2.2.1)), (12, (vI x447)), (13, (vF 116 112 j450.1)), (14, (vF 116 112 j450.2)), (19, (.sl (List.map cI ends))), (20, (vI (ends.length : Int))), (21, (vI s325.2.2.2.1)), (59, (vB j471))], [(500000, .row 86 [] (List.map c_EdgeT s325.2.2.2.2))]⟩ (here (by kernel_rfl)) ?_
     refine sem_cond j471 (by kernel_rfl) (by kernel_rfl) (fun hb => ?_) (fun hb => ?_)
     ·replace h := iteT hb h
      refine sem_region (by kernel_rfl) ?_
      refine evs_run 4 (by kernel_rfl) ?_
      obtain ⟨r479, hr479, h⟩ := bindS h
      refine evs_callS [] [(0, 700200)] [] (by kernel_rfl) (W.cut_edges_4_k_ok hr479) (by kernel_rfl) (by kernel_rfl) (.inl rfl) ?_
      refine evs_run 1 (by kernel_rfl) ?_
      obtain ⟨r480, hr480, h⟩ := bindS h
      refine evs_callP [] (by kernel_rfl) (W.cut_number_k_ok hr480) (by kernel_rfl) (.inl rfl) (by kernel_rfl) ?_
      refine evs_run 1 (by kernel_rfl) ?_
      obtain ⟨r481, hr481, h⟩ := bindS h
      refine evs_callP [] (by kernel_rfl) (W.cut_number_k_ok hr481) (by kernel_rfl) (.inl rfl) (by kernel_rfl) ?_
      obtain ⟨r482, hr482, h⟩ := bindS h
      refine evs_callS [] [(0, 700450)] [] (by kernel_rfl) (W.cut_edge_k_ok hr482) (by kernel_rfl) (by kernel_rfl) (.inl rfl) ?_
      refine evs_run 1 (by kernel_rfl) ?_
      obtain ⟨l483, hl483, h⟩ := bindS h
      refine evs_op (st_app (c := c_EdgeT) (l := s325.2.2.2.2) (l2 := [(EdgeT.mk (Segment.mk r482.1.Line.X1 r482.1.Line.Y1 r482.1.Line.X2 r482.1.Line.Y2) r482.1.A r482.1.B)]) (x := (.sl (List.map c_EdgeT [(EdgeT.mk (Segment.mk r482.1.Line.X1 r482.1.Line.Y1 r482.1.Line.X2 r482.1.Line.Y2) r482.1.A r482.1.B)]))) (g := 500000) (e := 86) (sz := 6) (d := 71) (by kernel_rfl) (by kernel_rfl) (by kernel_rfl) (by kernel_rfl) (fun _ => rfl) rfl hl483) ?_
      refine z6 1 (by kernel_rfl) (fun τ hτ => ?_)
      exact jk_normal l483 h hτ (here (by kernel_rfl))
     ·replace h := iteF hb h
      refine sem_skipS (by kernel_rfl) (fun τ hτ => ?_)
      exact jk_normal s325.2.2.2.2 h hτ (here (by kernel_rfl))
   refine z7 (by kernel_rfl) ?_
   refine evs_run 3 (by kernel_rfl) ?_
   refine evs_op (st_len (c := cI) (l := ends) (x := (.sl (List.map cI ends))) (by kernel_rfl) (by kernel_rfl)) ?_
   refine z1 1 ⟨[(0, (.sl (List.map cI ends))), (1, (.fn 56 [(.vptr [(vS sides_0_0), (vS sides_0_1), (vI sides_0_2), (vI sides_0_3), (vI sides_0_4), (vI sides_0_5), (.sl (List.map c_Rect sides_0_6)), (.sl (List.map c_Rect sides_0_7)), (.sl (List.map c_Piece sides_0_8))] 0), (.vptr [(vI sides_1_0)] 0)])), (2, (.fn 57 [(.vptr [(vI line_0_0)] 0)])), (7, (.row (.top 500000) 86)), (8, (vI s325.1)), (9, (vF 116 112 s325.2.1)), (10, (vF 116 112 s325.2.2.1)), (12, (vI x447)), (13, (vF 116 112 none)), (14, (vF 116 112 none)), (19, (.sl (List.map cI ends))), (20, (vI (ends.length : Int))), (21, (vI s325.2.2.2.1)), (34, (vB (decide ((iadd s325.2.2.2.1 1) < (ends.length : Int)))))], [(500000, .row 86 [] (List.map c_EdgeT s325.2.2.2.2))]⟩ (by kernel_rfl) ?_
   refine sem_cond (decide ((iadd s325.2.2.2.1 1) < (ends.length : Int))) (by kernel_rfl) (by kernel_rfl) (fun hb => ?_) (fun hb => ?_)
   ·replace h := iteT hb h
    refine sem_region (by kernel_rfl) ?_
    refine evs_run 2 (by kernel_rfl) ?_
    obtain ⟨r485, hr485, h⟩ := bindS h
    refine evs_callP [] (by kernel_rfl) (W.cut_edges_3_k_ok hr485) (by kernel_rfl) (.inl rfl) (by kernel_rfl) ?_
    refine z6 5 (by kernel_rfl) (fun τ hτ => ?_)
    exact jk_normal (r485.1, r485.2) h hτ (here (by kernel_rfl))
   ·replace h := iteF hb h
    refine sem_skipS (by kernel_rfl) (fun τ hτ => ?_)
    exact jk_normal (none, none) h hτ (here (by kernel_rfl))
  ·replace h := iteF hb h
   refine sem_exitS 0 (by kernel_rfl) rfl (fun τ hτ => ?_)
   refine th_exit ?_
   obtain rfl := Option.some.inj h
   exact lk_outS hτ rfl (here (by kernel_rfl))
 ·intro x
  rfl
 ·intro τ hτ
  refine bl_hit (by kernel_rfl) ?_
  refine th_normalS hτ ⟨[(7, (.row (.top 500000) 86))], [(500000, .row 86 [] (List.map c_EdgeT x486))]⟩ (here (by kernel_rfl)) ?_
  refine z8 2 ⟨[(6, (.row (.top 500000) 86))], [(500000, .row 86 [] (List.map c_EdgeT x486))]⟩ (by kernel_rfl) (fun τ hτ => ?_)
  obtain rfl := Option.some.inj h
  exact rk_ret hτ [(6, (.row (.top 0) 86))] (subR_prep [] [(500000, 0)] (by kernel_rfl) rfl rfl (by kernel_rfl)) (by kernel_rfl)
theorem W.cut_edges_k_ok {l : LayoutT} {r : (List EdgeT)} (h : cut_edges_k l = some r) : PC G.P 34 [(.agg [(vS l.Sheet.Name), (vS l.Sheet.Material), (vI l.Sheet.Gauge), (vI l.Sheet.Grain), (vI l.Sheet.Width), (vI l.Sheet.Height), (.sl (List.map c_Rect l.Sheet.Clamps)), (.sl (List.map c_Rect l.Sheet.Used)), (.sl (List.map c_Piece l.Pieces))])] [] (.row (.top 0) 86) [(0, .row 86 [] (List.map c_EdgeT r))] := by
 refine pc_of G (fn := Try.f34) Try.func34 (by kernel_rfl) (by kernel_rfl) (by kernel_rfl) (by kernel_rfl) (by kernel_rfl) ?_
 refine sem_set ⟨[(0, (.agg [(vS l.Sheet.Name), (vS l.Sheet.Material), (vI l.Sheet.Gauge), (vI l.Sheet.Grain), (vI l.Sheet.Width), (vI l.Sheet.Height), (.sl (List.map c_Rect l.Sheet.Clamps)), (.sl (List.map c_Rect l.Sheet.Used)), (.sl (List.map c_Piece l.Pieces))]))], []⟩ (by kernel_rfl) ?_
 refine z3 2 ⟨[(1, (.ptr 1 0))], [(1, .box [(vS l.Sheet.Name), (vS l.Sheet.Material), (vI l.Sheet.Gauge), (vI l.Sheet.Grain), (vI l.Sheet.Width), (vI l.Sheet.Height), (.sl (List.map c_Rect l.Sheet.Clamps)), (.sl (List.map c_Rect l.Sheet.Used)), (.sl (List.map c_Piece l.Pieces))])]⟩ (by kernel_rfl) ?_
 refine z3 2 ⟨[(1, (.ptr 1 0)), (3, (.row (.top 3) 3)), (4, (.row (.top 4) 3))], [(1, .box [(vS l.Sheet.Name), (vS l.Sheet.Material), (vI l.Sheet.Gauge), (vI l.Sheet.Grain), (vI l.Sheet.Width), (vI l.Sheet.Height), (.sl (List.map c_Rect l.Sheet.Clamps)), (.sl (List.map c_Rect l.Sheet.Used)), (.sl (List.map c_Piece l.Pieces))]), (3, .row 3 [] (List.map cI [])), (4, .row 3 [] (List.map cI []))]⟩ (by kernel_rfl) ?_
 refine sem_seq (by kernel_rfl) ?_
 refine z7 (by kernel_rfl) ?_
 refine evs_run 2 (by kernel_rfl) ?_
 refine evs_op (st_len (c := c_Piece) (l := l.Pieces) (x := (.sl (List.map c_Piece l.Pieces))) (by kernel_rfl) (by kernel_rfl)) ?_
 refine z1 1 ⟨[(1, (.ptr 1 0)), (3, (.row (.top 3) 3)), (4, (.row (.top 4) 3)), (15, (.sl (List.map c_Piece l.Pieces))), (16, (vI (l.Pieces.length : Int))), (17, (vI 0))], [(1, .box [(vS l.Sheet.Name), (vS l.Sheet.Material), (vI l.Sheet.Gauge), (vI l.Sheet.Grain), (vI l.Sheet.Width), (vI l.Sheet.Height), (.sl (List.map c_Rect l.Sheet.Clamps)), (.sl (List.map c_Rect l.Sheet.Used)), (.sl (List.map c_Piece l.Pieces))]), (3, .row 3 [] (List.map cI [])), (4, .row 3 [] (List.map cI []))]⟩ (by kernel_rfl) ?_
 refine sem_block (by kernel_rfl) ?_
 obtain ⟨x498, hx498, h⟩ := bindS h
 refine sem_loopS (fun (s333 : Int × (List Int) × (List Int)) => ⟨[(1, (.ptr 500000 0)), (3, (.row (.top 500001) 3)), (4, (.row (.top 500002) 3)), (15, (.sl (List.map c_Piece l.Pieces))), (16, (vI (l.Pieces.length : Int))), (17, (vI s333.1))], [(500000, .box [(vS l.Sheet.Name), (vS l.Sheet.Material), (vI l.Sheet.Gauge), (vI l.Sheet.Grain), (vI l.Sheet.Width), (vI l.Sheet.Height), (.sl (List.map c_Rect l.Sheet.Clamps)), (.sl (List.map c_Rect l.Sheet.Used)), (.sl (List.map c_Piece l.Pieces))]), (500001, .row 3 [] (List.map cI s333.2.1)), (500002, .row 3 [] (List.map cI s333.2.2))]⟩) (fun (x498 : (List Int) × (List Int)) => (.exit 0, ⟨[(1, (.ptr 500000 0)), (3, (.row (.top 500001) 3)), (4, (.row (.top 500002) 3))], [(500000, .box [(vS l.Sheet.Name), (vS l.Sheet.Material), (vI l.Sheet.Gauge), (vI l.Sheet.Grain), (vI l.Sheet.Width), (vI l.Sheet.Height), (.sl (List.map c_Rect l.Sheet.Clamps)), (.sl (List.map c_Rect l.Sheet.Used)), (.sl (List.map c_Piece l.Pieces))]), (500001, .row 3 [] (List.map cI x498.1)), (500002, .row 3 [] (List.map cI x498.2))]⟩)) (cut_edges_k_l2 l) (0, [], []) x498 (by kernel_rfl) (subR_prep [] [(1, 500000), (3, 500001), (4, 500002)] (by kernel_rfl) rfl rfl (by kernel_rfl)) (iter_loop hx498) ?_ ?_ ?_
 ·intro s333 r h
  refine z3 1 ⟨[(1, (.ptr 500000 0)), (3, (.row (.top 500001) 3)), (4, (.row (.top 500002) 3)), (15, (.sl (List.map c_Piece l.Pieces))), (16, (vI (l.Pieces.length : Int))), (17, (vI s333.1)), (18, (vB (decide (s333.1 < (l.Pieces.length : Int)))))], [(500000, .box [(vS l.Sheet.Name), (vS l.Sheet.Material), (vI l.Sheet.Gauge), (vI l.Sheet.Grain), (vI l.Sheet.Width), (vI l.Sheet.Height), (.sl (List.map c_Rect l.Sheet.Clamps)), (.sl (List.map c_Rect l.Sheet.Used)), (.sl (List.map c_Piece l.Pieces))]), (500001, .row 3 [] (List.map cI s333.2.1)), (500002, .row 3 [] (List.map cI s333.2.2))]⟩ (by kernel_rfl) ?_
  refine sem_seq (by kernel_rfl) ?_
  refine sem_cond (decide (s333.1 < (l.Pieces.length : Int))) (by kernel_rfl) (by kernel_rfl) (fun hb => ?_) (fun hb => ?_)
  ·replace h := iteT hb h
   refine z4 ⟨[(1, (.ptr 500000 0)), (3, (.row (.top 500001) 3)), (4, (.row (.top 500002) 3)), (15, (.sl (List.map c_Piece l.Pieces))), (16, (vI (l.Pieces.length : Int))), (17, (vI s333.1))], [(500000, .box [(vS l.Sheet.Name), (vS l.Sheet.Material), (vI l.Sheet.Gauge), (vI l.Sheet.Grain), (vI l.Sheet.Width), (vI l.Sheet.Height), (.sl (List.map c_Rect l.Sheet.Clamps)), (.sl (List.map c_Rect l.Sheet.Used)), (.sl (List.map c_Piece l.Pieces))]), (500001, .row 3 [] (List.map cI s333.2.1)), (500002, .row 3 [] (List.map cI s333.2.2))]⟩ (by kernel_rfl) ?_
   refine sem_seq (by kernel_rfl) ?_
   refine sem_block (by kernel_rfl) ?_
   refine z7 (by kernel_rfl) ?_
   obtain ⟨x458, hx458, h⟩ := bindS h
   refine evs_op (st_idx (c := c_Piece) (l := l.Pieces) (i := s333.1) (kd := .i64) (sz := 7) (by kernel_rfl) hx458 rfl) ?_
   refine z1 3 ⟨[(1, (.ptr 500000 0)), (3, (.row (.top 500001) 3)), (4, (.row (.top 500002) 3)), (6, (.ptr 6 0)), (15, (.sl (List.map c_Piece l.Pieces))), (16, (vI (l.Pieces.length : Int))), (17, (vI s333.1))], [(6, .box [(vS x458.Name), (vS x458.Material), (vI x458.Gauge), (vI x458.Grain), (.sl (List.map c_Rect x458.Rects)), (.sl (List.map c_Rect x458.Cuts)), (.sl (List.map c_Rect x458.Forms))]), (500000, .box [(vS l.Sheet.Name), (vS l.Sheet.Material), (vI l.Sheet.Gauge), (vI l.Sheet.Grain), (vI l.Sheet.Width), (vI l.Sheet.Height), (.sl (List.map c_Rect l.Sheet.Clamps)), (.sl (List.map c_Rect l.Sheet.Used)), (.sl (List.map c_Piece l.Pieces))]), (500001, .row 3 [] (List.map cI s333.2.1)), (500002, .row 3 [] (List.map cI s333.2.2))]⟩ (by kernel_rfl) ?_
   refine z7 (by kernel_rfl) ?_
   refine evs_run 2 (by kernel_rfl) ?_
   refine evs_op (st_len (c := c_Rect) (l := x458.Rects) (x := (.sl (List.map c_Rect x458.Rects))) (by kernel_rfl) (by kernel_rfl)) ?_
   refine z1 1 ⟨[(1, (.ptr 500000 0)), (3, (.row (.top 500001) 3)), (4, (.row (.top 500002) 3)), (15, (.sl (List.map c_Piece l.Pieces))), (16, (vI (l.Pieces.length : Int))), (17, (vI s333.1)), (22, (.sl (List.map c_Rect x458.Rects))), (23, (vI (x458.Rects.length : Int))), (24, (vI 0))], [(500000, .box [(vS l.Sheet.Name), (vS l.Sheet.Material), (vI l.Sheet.Gauge), (vI l.Sheet.Grain), (vI l.Sheet.Width), (vI l.Sheet.Height), (.sl (List.map c_Rect l.Sheet.Clamps)), (.sl (List.map c_Rect l.Sheet.Used)), (.sl (List.map c_Piece l.Pieces))]), (500001, .row 3 [] (List.map cI s333.2.1)), (500002, .row 3 [] (List.map cI s333.2.2))]⟩ (by kernel_rfl) ?_
   refine sem_block (by kernel_rfl) ?_
   obtain ⟨x497, hx497, h⟩ := bindS h
   refine sem_loopS (fun (s472 : Int × (List Int) × (List Int)) => ⟨[(1, (.ptr 500000 0)), (3, (.row (.top 500001) 3)), (4, (.row (.top 500002) 3)), (15, (.sl (List.map c_Piece l.Pieces))), (16, (vI (l.Pieces.length : Int))), (17, (vI s333.1)), (22, (.sl (List.map c_Rect x458.Rects))), (23, (vI (x458.Rects.length : Int))), (24, (vI s472.1))], [(500000, .box [(vS l.Sheet.Name), (vS l.Sheet.Material), (vI l.Sheet.Gauge), (vI l.Sheet.Grain), (vI l.Sheet.Width), (vI l.Sheet.Height), (.sl (List.map c_Rect l.Sheet.Clamps)), (.sl (List.map c_Rect l.Sheet.Used)), (.sl (List.map c_Piece l.Pieces))]), (500001, .row 3 [] (List.map cI s472.2.1)), (500002, .row 3 [] (List.map cI s472.2.2))]⟩) (fun (x497 : (List Int) × (List Int)) => (.exit 2, ⟨[(1, (.ptr 500000 0)), (3, (.row (.top 500001) 3)), (4, (.row (.top 500002) 3)), (15, (.sl (List.map c_Piece l.Pieces))), (16, (vI (l.Pieces.length : Int))), (17, (vI s333.1))], [(500000, .box [(vS l.Sheet.Name), (vS l.Sheet.Material), (vI l.Sheet.Gauge), (vI l.Sheet.Grain), (vI l.Sheet.Width), (vI l.Sheet.Height), (.sl (List.map c_Rect l.Sheet.Clamps)), (.sl (List.map c_Rect l.Sheet.Used)), (.sl (List.map c_Piece l.Pieces))]), (500001, .row 3 [] (List.map cI x497.1)), (500002, .row 3 [] (List.map cI x497.2))]⟩)) (cut_edges_k_l1 x458) (0, s333.2.1, s333.2.2) x497 (by kernel_rfl) (here (by kernel_rfl)) (iter_loop hx497) ?_ ?_ ?_
   ·intro s472 r h
    refine z3 1 ⟨[(1, (.ptr 500000 0)), (3, (.row (.top 500001) 3)), (4, (.row (.top 500002) 3)), (15, (.sl (List.map c_Piece l.Pieces))), (16, (vI (l.Pieces.length : Int))), (17, (vI s333.1)), (22, (.sl (List.map c_Rect x458.Rects))), (23, (vI (x458.Rects.length : Int))), (24, (vI s472.1)), (25, (vB (decide (s472.1 < (x458.Rects.length : Int)))))], [(500000, .box [(vS l.Sheet.Name), (vS l.Sheet.Material), (vI l.Sheet.Gauge), (vI l.Sheet.Grain), (vI l.Sheet.Width), (vI l.Sheet.Height), (.sl (List.map c_Rect l.Sheet.Clamps)), (.sl (List.map c_Rect l.Sheet.Used)), (.sl (List.map c_Piece l.Pieces))]), (500001, .row 3 [] (List.map cI s472.2.1)), (500002, .row 3 [] (List.map cI s472.2.2))]⟩ (by kernel_rfl) ?_
    refine sem_seq (by kernel_rfl) ?_
    refine sem_cond (decide (s472.1 < (x458.Rects.length : Int))) (by kernel_rfl) (by kernel_rfl) (fun hb => ?_) (fun hb => ?_)
    ·replace h := iteT hb h
     refine z4 ⟨[(1, (.ptr 500000 0)), (3, (.row (.top 500001) 3)), (4, (.row (.top 500002) 3)), (15, (.sl (List.map c_Piece l.Pieces))), (16, (vI (l.Pieces.length : Int))), (17, (vI s333.1)), (22, (.sl (List.map c_Rect x458.Rects))), (23, (vI (x458.Rects.length : Int))), (24, (vI s472.1))], [(500000, .box [(vS l.Sheet.Name), (vS l.Sheet.Material), (vI l.Sheet.Gauge), (vI l.Sheet.Grain), (vI l.Sheet.Width), (vI l.Sheet.Height), (.sl (List.map c_Rect l.Sheet.Clamps)), (.sl (List.map c_Rect l.Sheet.Used)), (.sl (List.map c_Piece l.Pieces))]), (500001, .row 3 [] (List.map cI s472.2.1)), (500002, .row 3 [] (List.map cI s472.2.2))]⟩ (by kernel_rfl) ?_
     refine sem_seq (by kernel_rfl) ?_
     refine sem_block (by kernel_rfl) ?_
     refine z7 (by kernel_rfl) ?_
     obtain ⟨x492, hx492, h⟩ := bindS h
     refine evs_op (st_idx (c := c_Rect) (l := x458.Rects) (i := s472.1) (kd := .i64) (sz := 4) (by kernel_rfl) hx492 rfl) ?_
     refine z1 3 ⟨[(1, (.ptr 500000 0)), (3, (.row (.top 500001) 3)), (4, (.row (.top 500002) 3)), (8, (.ptr 8 0)), (15, (.sl (List.map c_Piece l.Pieces))), (16, (vI (l.Pieces.length : Int))), (17, (vI s333.1)), (22, (.sl (List.map c_Rect x458.Rects))), (23, (vI (x458.Rects.length : Int))), (24, (vI s472.1))], [(8, .box [(vI x492.X), (vI x492.Y), (vI x492.W), (vI x492.H)]), (500000, .box [(vS l.Sheet.Name), (vS l.Sheet.Material), (vI l.Sheet.Gauge), (vI l.Sheet.Grain), (vI l.Sheet.Width), (vI l.Sheet.Height), (.sl (List.map c_Rect l.Sheet.Clamps)), (.sl (List.map c_Rect l.Sheet.Used)), (.sl (List.map c_Piece l.Pieces))]), (500001, .row 3 [] (List.map cI s472.2.1)), (500002, .row 3 [] (List.map cI s472.2.2))]⟩ (by kernel_rfl) ?_
     refine z7 (by kernel_rfl) ?_
     refine evs_run 9 (by kernel_rfl) ?_
     obtain ⟨l494, hl494, h⟩ := bindS h
     refine evs_op (st_app (c := cI) (l := s472.2.1) (l2 := [x492.X, (iadd x492.X x492.W)]) (x := (.sl (List.map cI [x492.X, (iadd x492.X x492.W)]))) (g := 500001) (e := 3) (sz := 1) (d := 37) (by kernel_rfl) (by kernel_rfl) (by kernel_rfl) (by kernel_rfl) (fun _ => rfl) rfl hl494) ?_
     refine z1 1 ⟨[(1, (.ptr 500000 0)), (3, (.row (.top 500001) 3)), (4, (.row (.top 500002) 3)), (8, (.ptr 8 0)), (15, (.sl (List.map c_Piece l.Pieces))), (16, (vI (l.Pieces.length : Int))), (17, (vI s333.1)), (22, (.sl (List.map c_Rect x458.Rects))), (23, (vI (x458.Rects.length : Int))), (24, (vI s472.1))], [(8, .box [(vI x492.X), (vI x492.Y), (vI x492.W), (vI x492.H)]), (500000, .box [(vS l.Sheet.Name), (vS l.Sheet.Material), (vI l.Sheet.Gauge), (vI l.Sheet.Grain), (vI l.Sheet.Width), (vI l.Sheet.Height), (.sl (List.map c_Rect l.Sheet.Clamps)), (.sl (List.map c_Rect l.Sheet.Used)), (.sl (List.map c_Piece l.Pieces))]), (500001, .row 3 [] (List.map cI l494)), (500002, .row 3 [] (List.map cI s472.2.2))]⟩ (by kernel_rfl) ?_
     refine sem_region (by kernel_rfl) ?_
     refine evs_run 9 (by kernel_rfl) ?_
     obtain ⟨l496, hl496, h⟩ := bindS h
     refine evs_op (st_app (c := cI) (l := s472.2.2) (l2 := [x492.Y, (iadd x492.Y x492.H)]) (x := (.sl (List.map cI [x492.Y, (iadd x492.Y x492.H)]))) (g := 500002) (e := 3) (sz := 1) (d := 47) (by kernel_rfl) (by kernel_rfl) (by kernel_rfl) (by kernel_rfl) (fun _ => rfl) rfl hl496) ?_
     refine z6 1 (by kernel_rfl) (fun τ hτ => ?_)
     refine bl_normal ?_
     refine th_normalS hτ ⟨[(1, (.ptr 500000 0)), (3, (.row (.top 500001) 3)), (4, (.row (.top 500002) 3)), (15, (.sl (List.map c_Piece l.Pieces))), (16, (vI (l.Pieces.length : Int))), (17, (vI s333.1)), (22, (.sl (List.map c_Rect x458.Rects))), (23, (vI (x458.Rects.length : Int))), (24, (vI s472.1))], [(500000, .box [(vS l.Sheet.Name), (vS l.Sheet.Material), (vI l.Sheet.Gauge), (vI l.Sheet.Grain), (vI l.Sheet.Width), (vI l.Sheet.Height), (.sl (List.map c_Rect l.Sheet.Clamps)), (.sl (List.map c_Rect l.Sheet.Used)), (.sl (List.map c_Piece l.Pieces))]), (500001, .row 3 [] (List.map cI l494)), (500002, .row 3 [] (List.map cI l496))]⟩ (here (by kernel_rfl)) ?_
     refine sem_region (by kernel_rfl) ?_
     refine z6 2 (by kernel_rfl) (fun τ hτ => ?_)
     obtain rfl := Option.some.inj h
     exact lk_nextS hτ (here (by kernel_rfl))
    ·replace h := iteF hb h
     refine sem_exitS 2 (by kernel_rfl) rfl (fun τ hτ => ?_)
     refine th_exit ?_
     obtain rfl := Option.some.inj h
     exact lk_outS hτ rfl (here (by kernel_rfl))
   ·intro x
    rfl
   ·intro τ hτ
    refine bl_hit (by kernel_rfl) ?_
    refine bl_normal ?_
    refine th_normalS hτ ⟨[(1, (.ptr 500000 0)), (3, (.row (.top 500001) 3)), (4, (.row (.top 500002) 3)), (15, (.sl (List.map c_Piece l.Pieces))), (16, (vI (l.Pieces.length : Int))), (17, (vI s333.1))], [(500000, .box [(vS l.Sheet.Name), (vS l.Sheet.Material), (vI l.Sheet.Gauge), (vI l.Sheet.Grain), (vI l.Sheet.Width), (vI l.Sheet.Height), (.sl (List.map c_Rect l.Sheet.Clamps)), (.sl (List.map c_Rect l.Sheet.Used)), (.sl (List.map c_Piece l.Pieces))]), (500001, .row 3 [] (List.map cI x497.1)), (500002, .row 3 [] (List.map cI x497.2))]⟩ (here (by kernel_rfl)) ?_
    refine sem_region (by kernel_rfl) ?_
    refine z6 2 (by kernel_rfl) (fun τ hτ => ?_)
    obtain rfl := Option.some.inj h
    exact lk_nextS hτ (here (by kernel_rfl))
  ·replace h := iteF hb h
   refine sem_exitS 0 (by kernel_rfl) rfl (fun τ hτ => ?_)
   refine th_exit ?_
   obtain rfl := Option.some.inj h
   exact lk_outS hτ rfl (here (by kernel_rfl))
 ·intro x
  rfl
 ·intro τ hτ
  refine bl_hit (by kernel_rfl) ?_
  refine th_normalS hτ ⟨[(1, (.ptr 500000 0)), (3, (.row (.top 500001) 3)), (4, (.row (.top 500002) 3))], [(500000, .box [(vS l.Sheet.Name), (vS l.Sheet.Material), (vI l.Sheet.Gauge), (vI l.Sheet.Grain), (vI l.Sheet.Width), (vI l.Sheet.Height), (.sl (List.map c_Rect l.Sheet.Clamps)), (.sl (List.map c_Rect l.Sheet.Used)), (.sl (List.map c_Piece l.Pieces))]), (500001, .row 3 [] (List.map cI x498.1)), (500002, .row 3 [] (List.map cI x498.2))]⟩ (here (by kernel_rfl)) ?_
  refine z7 (by kernel_rfl) ?_
  refine evs_run 1 (by kernel_rfl) ?_
  obtain ⟨r501, hr501, h⟩ := bindS h
  refine evs_callS [(300000, 500001)] [(0, 700050)] [] (by kernel_rfl) (W.cut_set_k_ok hr501) (by kernel_rfl) (by kernel_rfl) (.inl rfl) ?_
  refine evs_run 1 (by kernel_rfl) ?_
  obtain ⟨r502, hr502, h⟩ := bindS h
  refine evs_callS [(300000, 500002)] [(0, 700150)] [] (by kernel_rfl) (W.cut_set_k_ok hr502) (by kernel_rfl) (by kernel_rfl) (.inl rfl) ?_
  refine z1 2 ⟨[(1, (.ptr 500000 0)), (3, (.row (.top 700050) 3)), (4, (.row (.top 700150) 3))], [(500000, .box [(vS l.Sheet.Name), (vS l.Sheet.Material), (vI l.Sheet.Gauge), (vI l.Sheet.Grain), (vI l.Sheet.Width), (vI l.Sheet.Height), (.sl (List.map c_Rect l.Sheet.Clamps)), (.sl (List.map c_Rect l.Sheet.Used)), (.sl (List.map c_Piece l.Pieces))]), (700050, .row 3 [] (List.map cI r501)), (700150, .row 3 [] (List.map cI r502))]⟩ (by kernel_rfl) ?_
  refine z3 1 ⟨[(1, (.ptr 500000 0)), (3, (.row (.top 700050) 3)), (4, (.row (.top 700150) 3)), (9, (.row (.top 9) 86))], [(9, .row 86 [] (List.map c_EdgeT [])), (500000, .box [(vS l.Sheet.Name), (vS l.Sheet.Material), (vI l.Sheet.Gauge), (vI l.Sheet.Grain), (vI l.Sheet.Width), (vI l.Sheet.Height), (.sl (List.map c_Rect l.Sheet.Clamps)), (.sl (List.map c_Rect l.Sheet.Used)), (.sl (List.map c_Piece l.Pieces))]), (700050, .row 3 [] (List.map cI r501)), (700150, .row 3 [] (List.map cI r502))]⟩ (by kernel_rfl) ?_
  refine sem_seq (by kernel_rfl) ?_
  refine z7 (by kernel_rfl) ?_
  refine evs_run 1 (by kernel_rfl) ?_
  refine evs_op (st_len (c := cI) (l := r502) (x := (.row (.top 700150) 3)) (by kernel_rfl) (by kernel_rfl)) ?_
  refine z1 1 ⟨[(1, (.ptr 500000 0)), (3, (.row (.top 700050) 3)), (4, (.row (.top 700150) 3)), (9, (.row (.top 9) 86)), (54, (.row (.top 700150) 3)), (55, (vI (r502.length : Int))), (56, (vI 0))], [(9, .row 86 [] (List.map c_EdgeT [])), (500000, .box [(vS l.Sheet.Name), (vS l.Sheet.Material), (vI l.Sheet.Gauge), (vI l.Sheet.Grain), (vI l.Sheet.Width), (vI l.Sheet.Height), (.sl (List.map c_Rect l.Sheet.Clamps)), (.sl (List.map c_Rect l.Sheet.Used)), (.sl (List.map c_Piece l.Pieces))]), (700050, .row 3 [] (List.map cI r501)), (700150, .row 3 [] (List.map cI r502))]⟩ (by kernel_rfl) ?_
  refine sem_block (by kernel_rfl) ?_
  obtain ⟨x580, hx580, h⟩ := bindS h
  refine sem_loopS (fun (s555 : Int × (List EdgeT)) => ⟨[(1, (.ptr 500000 0)), (3, (.row (.top 500001) 3)), (4, (.row (.top 500002) 3)), (9, (.row (.top 500003) 86)), (54, (.row (.top 500002) 3)), (55, (vI (r502.length : Int))), (56, (vI s555.1))], [(500000, .box [(vS l.Sheet.Name), (vS l.Sheet.Material), (vI l.Sheet.Gauge), (vI l.Sheet.Grain), (vI l.Sheet.Width), (vI l.Sheet.Height), (.sl (List.map c_Rect l.Sheet.Clamps)), (.sl (List.map c_Rect l.Sheet.Used)), (.sl (List.map c_Piece l.Pieces))]), (500001, .row 3 [] (List.map cI r501)), (500002, .row 3 [] (List.map cI r502)), (500003, .row 86 [] (List.map c_EdgeT s555.2))]⟩) (fun (x580 : (List EdgeT)) => (.exit 4, ⟨[(1, (.ptr 500000 0)), (3, (.row (.top 500001) 3)), (4, (.row (.top 500002) 3)), (9, (.row (.top 500003) 86))], [(500000, .box [(vS l.Sheet.Name), (vS l.Sheet.Material), (vI l.Sheet.Gauge), (vI l.Sheet.Grain), (vI l.Sheet.Width), (vI l.Sheet.Height), (.sl (List.map c_Rect l.Sheet.Clamps)), (.sl (List.map c_Rect l.Sheet.Used)), (.sl (List.map c_Piece l.Pieces))]), (500001, .row 3 [] (List.map cI r501)), (500002, .row 3 [] (List.map cI r502)), (500003, .row 86 [] (List.map c_EdgeT x580))]⟩)) (cut_edges_k_l3 l r501 r502) (0, []) x580 (by kernel_rfl) (subR_prep [] [(9, 500003), (500000, 500000), (700050, 500001), (700150, 500002)] (by kernel_rfl) rfl rfl (by kernel_rfl)) (iter_loop hx580) ?_ ?_ ?_
  ·intro s555 r h
   refine z3 1 ⟨[(1, (.ptr 500000 0)), (3, (.row (.top 500001) 3)), (4, (.row (.top 500002) 3)), (9, (.row (.top 500003) 86)), (54, (.row (.top 500002) 3)), (55, (vI (r502.length : Int))), (56, (vI s555.1)), (57, (vB (decide (s555.1 < (r502.length : Int)))))], [(500000, .box [(vS l.Sheet.Name), (vS l.Sheet.Material), (vI l.Sheet.Gauge), (vI l.Sheet.Grain), (vI l.Sheet.Width), (vI l.Sheet.Height), (.sl (List.map c_Rect l.Sheet.Clamps)), (.sl (List.map c_Rect l.Sheet.Used)), (.sl (List.map c_Piece l.Pieces))]), (500001, .row 3 [] (List.map cI r501)), (500002, .row 3 [] (List.map cI r502)), (500003, .row 86 [] (List.map c_EdgeT s555.2))]⟩ (by kernel_rfl) ?_
   refine sem_seq (by kernel_rfl) ?_
   refine sem_cond (decide (s555.1 < (r502.length : Int))) (by kernel_rfl) (by kernel_rfl) (fun hb => ?_) (fun hb => ?_)
   ·replace h := iteT hb h
    refine z4 ⟨[(1, (.ptr 500000 0)), (3, (.row (.top 500001) 3)), (4, (.row (.top 500002) 3)), (9, (.row (.top 500003) 86)), (54, (.row (.top 500002) 3)), (55, (vI (r502.length : Int))), (56, (vI s555.1))], [(500000, .box [(vS l.Sheet.Name), (vS l.Sheet.Material), (vI l.Sheet.Gauge), (vI l.Sheet.Grain), (vI l.Sheet.Width), (vI l.Sheet.Height), (.sl (List.map c_Rect l.Sheet.Clamps)), (.sl (List.map c_Rect l.Sheet.Used)), (.sl (List.map c_Piece l.Pieces))]), (500001, .row 3 [] (List.map cI r501)), (500002, .row 3 [] (List.map cI r502)), (500003, .row 86 [] (List.map c_EdgeT s555.2))]⟩ (by kernel_rfl) ?_
    refine sem_seq (by kernel_rfl) ?_
    refine sem_block (by kernel_rfl) ?_
    refine z7 (by kernel_rfl) ?_
    obtain ⟨x575, hx575, h⟩ := bindS h
    refine evs_op (st_idxO (c := cI) (l := r502) (i := s555.1) (kd := .i64) (kk := (.top 500002)) (e := 3) (sz := 1) (by kernel_rfl) (by kernel_rfl) hx575 rfl) ?_
    refine evs_op (st_ldO (c := cI) (l := r502) (i := (Int.toNat s555.1)) (v := (vI x575)) (agg := false) (sz := 1) (kk := (.top 500002)) (e := 3) (off := 0) (J := []) (by kernel_rfl) (by kernel_rfl) (by kernel_rfl) ((idxS hx575).2) (by kernel_rfl)) ?_
    refine z1 2 ⟨[(1, (.ptr 500000 0)), (3, (.row (.top 500001) 3)), (4, (.row (.top 500002) 3)), (9, (.row (.top 500003) 86)), (11, (.ptr 11 0)), (54, (.row (.top 500002) 3)), (55, (vI (r502.length : Int))), (56, (vI s555.1))], [(11, .box [(vI x575)]), (500000, .box [(vS l.Sheet.Name), (vS l.Sheet.Material), (vI l.Sheet.Gauge), (vI l.Sheet.Grain), (vI l.Sheet.Width), (vI l.Sheet.Height), (.sl (List.map c_Rect l.Sheet.Clamps)), (.sl (List.map c_Rect l.Sheet.Used)), (.sl (List.map c_Piece l.Pieces))]), (500001, .row 3 [] (List.map cI r501)), (500002, .row 3 [] (List.map cI r502)), (500003, .row 86 [] (List.map c_EdgeT s555.2))]⟩ (by kernel_rfl) ?_
    refine sem_region (by kernel_rfl) ?_
    refine evs_run 4 (by kernel_rfl) ?_
    obtain ⟨r578, hr578, h⟩ := bindS h
    refine evs_callS [] [(0, 700200)] [500001, 500000, 11] (by kernel_rfl) (W.cut_along__cut_edges_1__cut_edges_2_k_ok hr578) (by kernel_rfl) (by kernel_rfl) (.inr ⟨rfl, fun _ _ => ind_cons (ind_row fun _ => rfl) (fun _ _ => ind_nil)⟩) ?_
    obtain ⟨l579, hl579, h⟩ := bindS h
    refine evs_op (st_app (c := c_EdgeT) (l := s555.2) (l2 := r578) (x := (.row (.top 700200) 86)) (g := 500003) (e := 86) (sz := 6) (d := 65) (by kernel_rfl) (by kernel_rfl) (by kernel_rfl) (by kernel_rfl) (fun _ => rfl) rfl hl579) ?_
    refine z6 1 (by kernel_rfl) (fun τ hτ => ?_)
    refine bl_normal ?_
    refine th_normalS hτ ⟨[(1, (.ptr 500000 0)), (3, (.row (.top 500001) 3)), (4, (.row (.top 500002) 3)), (9, (.row (.top 500003) 86)), (54, (.row (.top 500002) 3)), (55, (vI (r502.length : Int))), (56, (vI s555.1))], [(500000, .box [(vS l.Sheet.Name), (vS l.Sheet.Material), (vI l.Sheet.Gauge), (vI l.Sheet.Grain), (vI l.Sheet.Width), (vI l.Sheet.Height), (.sl (List.map c_Rect l.Sheet.Clamps)), (.sl (List.map c_Rect l.Sheet.Used)), (.sl (List.map c_Piece l.Pieces))]), (500001, .row 3 [] (List.map cI r501)), (500002, .row 3 [] (List.map cI r502)), (500003, .row 86 [] (List.map c_EdgeT l579))]⟩ (here (by kernel_rfl)) ?_
    refine sem_region (by kernel_rfl) ?_
    refine z6 2 (by kernel_rfl) (fun τ hτ => ?_)
    obtain rfl := Option.some.inj h
    exact lk_nextS hτ (here (by kernel_rfl))
   ·replace h := iteF hb h
    refine sem_exitS 4 (by kernel_rfl) rfl (fun τ hτ => ?_)
    refine th_exit ?_
    obtain rfl := Option.some.inj h
    exact lk_outS hτ rfl (here (by kernel_rfl))
  ·intro x
   rfl
  ·intro τ hτ
   refine bl_hit (by kernel_rfl) ?_
   refine th_normalS hτ ⟨[(1, (.ptr 500000 0)), (3, (.row (.top 500001) 3)), (4, (.row (.top 500002) 3)), (9, (.row (.top 500003) 86))], [(500000, .box [(vS l.Sheet.Name), (vS l.Sheet.Material), (vI l.Sheet.Gauge), (vI l.Sheet.Grain), (vI l.Sheet.Width), (vI l.Sheet.Height), (.sl (List.map c_Rect l.Sheet.Clamps)), (.sl (List.map c_Rect l.Sheet.Used)), (.sl (List.map c_Piece l.Pieces))]), (500001, .row 3 [] (List.map cI r501)), (500002, .row 3 [] (List.map cI r502)), (500003, .row 86 [] (List.map c_EdgeT x580))]⟩ (here (by kernel_rfl)) ?_
   refine sem_seq (by kernel_rfl) ?_
   refine z7 (by kernel_rfl) ?_
   refine evs_run 1 (by kernel_rfl) ?_
   refine evs_op (st_len (c := cI) (l := r501) (x := (.row (.top 500001) 3)) (by kernel_rfl) (by kernel_rfl)) ?_
   refine z1 1 ⟨[(1, (.ptr 500000 0)), (4, (.row (.top 500002) 3)), (9, (.row (.top 500003) 86)), (67, (.row (.top 500001) 3)), (68, (vI (r501.length : Int))), (69, (vI 0))], [(500000, .box [(vS l.Sheet.Name), (vS l.Sheet.Material), (vI l.Sheet.Gauge), (vI l.Sheet.Grain), (vI l.Sheet.Width), (vI l.Sheet.Height), (.sl (List.map c_Rect l.Sheet.Clamps)), (.sl (List.map c_Rect l.Sheet.Used)), (.sl (List.map c_Piece l.Pieces))]), (500001, .row 3 [] (List.map cI r501)), (500002, .row 3 [] (List.map cI r502)), (500003, .row 86 [] (List.map c_EdgeT x580))]⟩ (by kernel_rfl) ?_
   refine sem_block (by kernel_rfl) ?_
   obtain ⟨x658, hx658, h⟩ := bindS h
   refine sem_loopS (fun (s633 : Int × (List EdgeT)) => ⟨[(1, (.ptr 500000 0)), (4, (.row (.top 500001) 3)), (9, (.row (.top 500002) 86)), (67, (.row (.top 500003) 3)), (68, (vI (r501.length : Int))), (69, (vI s633.1))], [(500000, .box [(vS l.Sheet.Name), (vS l.Sheet.Material), (vI l.Sheet.Gauge), (vI l.Sheet.Grain), (vI l.Sheet.Width), (vI l.Sheet.Height), (.sl (List.map c_Rect l.Sheet.Clamps)), (.sl (List.map c_Rect l.Sheet.Used)), (.sl (List.map c_Piece l.Pieces))]), (500001, .row 3 [] (List.map cI r502)), (500002, .row 86 [] (List.map c_EdgeT s633.2)), (500003, .row 3 [] (List.map cI r501))]⟩) (fun (x658 : (List EdgeT)) => (.exit 6, ⟨[(9, (.row (.top 500000) 86))], [(500000, .row 86 [] (List.map c_EdgeT x658))]⟩)) (cut_edges_k_l4 l r501 r502) (0, x580) x658 (by kernel_rfl) (subR_prep [] [(500000, 500000), (500001, 500003), (500002, 500001), (500003, 500002)] (by kernel_rfl) rfl rfl (by kernel_rfl)) (iter_loop hx658) ?_ ?_ ?_
   ·intro s633 r h
    refine z3 1 ⟨[(1, (.ptr 500000 0)), (4, (.row (.top 500001) 3)), (9, (.row (.top 500002) 86)), (67, (.row (.top 500003) 3)), (68, (vI (r501.length : Int))), (69, (vI s633.1)), (70, (vB (decide (s633.1 < (r501.length : Int)))))], [(500000, .box [(vS l.Sheet.Name), (vS l.Sheet.Material), (vI l.Sheet.Gauge), (vI l.Sheet.Grain), (vI l.Sheet.Width), (vI l.Sheet.Height), (.sl (List.map c_Rect l.Sheet.Clamps)), (.sl (List.map c_Rect l.Sheet.Used)), (.sl (List.map c_Piece l.Pieces))]), (500001, .row 3 [] (List.map cI r502)), (500002, .row 86 [] (List.map c_EdgeT s633.2)), (500003, .row 3 [] (List.map cI r501))]⟩ (by kernel_rfl) ?_
    refine sem_seq (by kernel_rfl) ?_
    refine sem_cond (decide (s633.1 < (r501.length : Int))) (by kernel_rfl) (by kernel_rfl) (fun hb => ?_) (fun hb => ?_)
    ·replace h := iteT hb h
     refine z4 ⟨[(1, (.ptr 500000 0)), (4, (.row (.top 500001) 3)), (9, (.row (.top 500002) 86)), (67, (.row (.top 500003) 3)), (68, (vI (r501.length : Int))), (69, (vI s633.1))], [(500000, .box [(vS l.Sheet.Name), (vS l.Sheet.Material), (vI l.Sheet.Gauge), (vI l.Sheet.Grain), (vI l.Sheet.Width), (vI l.Sheet.Height), (.sl (List.map c_Rect l.Sheet.Clamps)), (.sl (List.map c_Rect l.Sheet.Used)), (.sl (List.map c_Piece l.Pieces))]), (500001, .row 3 [] (List.map cI r502)), (500002, .row 86 [] (List.map c_EdgeT s633.2)), (500003, .row 3 [] (List.map cI r501))]⟩ (by kernel_rfl) ?_
     refine sem_seq (by kernel_rfl) ?_
     refine sem_block (by kernel_rfl) ?_
     refine z7 (by kernel_rfl) ?_
     obtain ⟨x653, hx653, h⟩ := bindS h
     refine evs_op (st_idxO (c := cI) (l := r501) (i := s633.1) (kd := .i64) (kk := (.top 500003)) (e := 3) (sz := 1) (by kernel_rfl) (by kernel_rfl) hx653 rfl) ?_
     refine evs_op (st_ldO (c := cI) (l := r501) (i := (Int.toNat s633.1)) (v := (vI x653)) (agg := false) (sz := 1) (kk := (.top 500003)) (e := 3) (off := 0) (J := []) (by kernel_rfl) (by kernel_rfl) (by kernel_rfl) ((idxS hx653).2) (by kernel_rfl)) ?_
     refine z1 2 ⟨[(1, (.ptr 500000 0)), (4, (.row (.top 500001) 3)), (9, (.row (.top 500002) 86)), (13, (.ptr 13 0)), (67, (.row (.top 500003) 3)), (68, (vI (r501.length : Int))), (69, (vI s633.1))], [(13, .box [(vI x653)]), (500000, .box [(vS l.Sheet.Name), (vS l.Sheet.Material), (vI l.Sheet.Gauge), (vI l.Sheet.Grain), (vI l.Sheet.Width), (vI l.Sheet.Height), (.sl (List.map c_Rect l.Sheet.Clamps)), (.sl (List.map c_Rect l.Sheet.Used)), (.sl (List.map c_Piece l.Pieces))]), (500001, .row 3 [] (List.map cI r502)), (500002, .row 86 [] (List.map c_EdgeT s633.2)), (500003, .row 3 [] (List.map cI r501))]⟩ (by kernel_rfl) ?_
     refine sem_region (by kernel_rfl) ?_
     refine evs_run 4 (by kernel_rfl) ?_
     obtain ⟨r656, hr656, h⟩ := bindS h
     refine evs_callS [] [(0, 700200)] [500001, 500000, 13] (by kernel_rfl) (W.cut_along__cut_edges_3__cut_edges_4_k_ok hr656) (by kernel_rfl) (by kernel_rfl) (.inr ⟨rfl, fun _ _ => ind_cons (ind_row fun _ => rfl) (fun _ _ => ind_nil)⟩) ?_
     obtain ⟨l657, hl657, h⟩ := bindS h
     refine evs_op (st_app (c := c_EdgeT) (l := s633.2) (l2 := r656) (x := (.row (.top 700200) 86)) (g := 500002) (e := 86) (sz := 6) (d := 78) (by kernel_rfl) (by kernel_rfl) (by kernel_rfl) (by kernel_rfl) (fun _ => rfl) rfl hl657) ?_
     refine z6 1 (by kernel_rfl) (fun τ hτ => ?_)
     refine bl_normal ?_
     refine th_normalS hτ ⟨[(1, (.ptr 500000 0)), (4, (.row (.top 500001) 3)), (9, (.row (.top 500002) 86)), (67, (.row (.top 500003) 3)), (68, (vI (r501.length : Int))), (69, (vI s633.1))], [(500000, .box [(vS l.Sheet.Name), (vS l.Sheet.Material), (vI l.Sheet.Gauge), (vI l.Sheet.Grain), (vI l.Sheet.Width), (vI l.Sheet.Height), (.sl (List.map c_Rect l.Sheet.Clamps)), (.sl (List.map c_Rect l.Sheet.Used)), (.sl (List.map c_Piece l.Pieces))]), (500001, .row 3 [] (List.map cI r502)), (500002, .row 86 [] (List.map c_EdgeT l657)), (500003, .row 3 [] (List.map cI r501))]⟩ (here (by kernel_rfl)) ?_
     refine sem_region (by kernel_rfl) ?_
     refine z6 2 (by kernel_rfl) (fun τ hτ => ?_)
     obtain rfl := Option.some.inj h
     exact lk_nextS hτ (here (by kernel_rfl))
    ·replace h := iteF hb h
     refine sem_exitS 6 (by kernel_rfl) rfl (fun τ hτ => ?_)
     refine th_exit ?_
     obtain rfl := Option.some.inj h
     exact lk_outS hτ rfl (subR_prep [] [(500002, 500000)] (by kernel_rfl) rfl rfl (by kernel_rfl))
   ·intro x
    rfl
   ·intro τ hτ
    refine bl_hit (by kernel_rfl) ?_
    refine th_normalS hτ ⟨[(9, (.row (.top 500000) 86))], [(500000, .row 86 [] (List.map c_EdgeT x658))]⟩ (here (by kernel_rfl)) ?_
    refine z8 2 ⟨[(2, (.row (.top 500000) 86))], [(500000, .row 86 [] (List.map c_EdgeT x658))]⟩ (by kernel_rfl) (fun τ hτ => ?_)
    obtain rfl := Option.some.inj h
    exact rk_ret hτ [(2, (.row (.top 0) 86))] (subR_prep [] [(500000, 0)] (by kernel_rfl) rfl rfl (by kernel_rfl)) (by kernel_rfl)
theorem W.cut_Edges_k_ok {l : LayoutT} {r : (List EdgeT) × Int} (h : cut_Edges_k l = some r) : PC G.P 18 [(.agg [(vS l.Sheet.Name), (vS l.Sheet.Material), (vI l.Sheet.Gauge), (vI l.Sheet.Grain), (vI l.Sheet.Width), (vI l.Sheet.Height), (.sl (List.map c_Rect l.Sheet.Clamps)), (.sl (List.map c_Rect l.Sheet.Used)), (.sl (List.map c_Piece l.Pieces))])] [] (.tup [(.row (.top 0) 86), (vI r.2)]) [(0, .row 86 [] (List.map c_EdgeT r.1))] := by
 refine pc_of G (fn := Try.f18) Try.func18 (by kernel_rfl) (by kernel_rfl) (by kernel_rfl) (by kernel_rfl) (by kernel_rfl) ?_
 refine sem_set ⟨[(0, (.agg [(vS l.Sheet.Name), (vS l.Sheet.Material), (vI l.Sheet.Gauge), (vI l.Sheet.Grain), (vI l.Sheet.Width), (vI l.Sheet.Height), (.sl (List.map c_Rect l.Sheet.Clamps)), (.sl (List.map c_Rect l.Sheet.Used)), (.sl (List.map c_Piece l.Pieces))]))], []⟩ (by kernel_rfl) ?_
 refine z3 3 ⟨[(1, (.ptr 1 0))], [(1, .box [(vS l.Sheet.Name), (vS l.Sheet.Material), (vI l.Sheet.Gauge), (vI l.Sheet.Grain), (vI l.Sheet.Width), (vI l.Sheet.Height), (.sl (List.map c_Rect l.Sheet.Clamps)), (.sl (List.map c_Rect l.Sheet.Used)), (.sl (List.map c_Piece l.Pieces))])]⟩ (by kernel_rfl) ?_
 refine sem_seq (by kernel_rfl) ?_
 refine z7 (by kernel_rfl) ?_
 refine evs_run 1 (by kernel_rfl) ?_
 obtain ⟨r4, hr4, h⟩ := bindS h
 refine evs_callP [] (by kernel_rfl) (W.cut_Validate_k_ok hr4) (by kernel_rfl) (.inl rfl) (by kernel_rfl) ?_
 refine z1 1 ⟨[(1, (.ptr 1 0)), (4, (vI r4))], [(1, .box [(vS l.Sheet.Name), (vS l.Sheet.Material), (vI l.Sheet.Gauge), (vI l.Sheet.Grain), (vI l.Sheet.Width), (vI l.Sheet.Height), (.sl (List.map c_Rect l.Sheet.Clamps)), (.sl (List.map c_Rect l.Sheet.Used)), (.sl (List.map c_Piece l.Pieces))])]⟩ (by kernel_rfl) ?_
 refine z3 2 ⟨[(1, (.ptr 1 0)), (4, (vI r4)), (8, (vB (r4 != 0)))], [(1, .box [(vS l.Sheet.Name), (vS l.Sheet.Material), (vI l.Sheet.Gauge), (vI l.Sheet.Grain), (vI l.Sheet.Width), (vI l.Sheet.Height), (.sl (List.map c_Rect l.Sheet.Clamps)), (.sl (List.map c_Rect l.Sheet.Used)), (.sl (List.map c_Piece l.Pieces))])]⟩ (by kernel_rfl) ?_
 refine sem_cond (r4 != 0) (by kernel_rfl) (by kernel_rfl) (fun hb => ?_) (fun hb => ?_)
 ·replace h := iteT hb h
  exact nomatch h
 ·replace h := iteF hb h
  refine z4 ⟨[(1, (.ptr 1 0))], [(1, .box [(vS l.Sheet.Name), (vS l.Sheet.Material), (vI l.Sheet.Gauge), (vI l.Sheet.Grain), (vI l.Sheet.Width), (vI l.Sheet.Height), (.sl (List.map c_Rect l.Sheet.Clamps)), (.sl (List.map c_Rect l.Sheet.Used)), (.sl (List.map c_Piece l.Pieces))])]⟩ (by kernel_rfl) ?_
  refine z7 (by kernel_rfl) ?_
  refine evs_run 1 (by kernel_rfl) ?_
  obtain ⟨r6, hr6, h⟩ := bindS h
  refine evs_callS [] [(0, 700050)] [] (by kernel_rfl) (W.cut_edges_k_ok hr6) (by kernel_rfl) (by kernel_rfl) (.inl rfl) ?_
  refine z1 2 ⟨[(2, (.row (.top 700050) 86)), (3, (vI 0))], [(700050, .row 86 [] (List.map c_EdgeT r6))]⟩ (by kernel_rfl) ?_
  refine sem_retS (by kernel_rfl) (fun τ hτ => ?_)
  obtain rfl := Option.some.inj h
  exact rk_ret hτ [(2, (.row (.top 0) 86)), (3, (vI 0))] (subR_prep [] [(700050, 0)] (by kernel_rfl) rfl rfl (by kernel_rfl)) (by kernel_rfl)
theorem W.cut_start_k_ok {l : LayoutT} {edges : Int} {r : cut_State} (h : cut_start_k l edges = some r) : PC G.P 26 [(.agg [(vS l.Sheet.Name), (vS l.Sheet.Material), (vI l.Sheet.Gauge), (vI l.Sheet.Grain), (vI l.Sheet.Width), (vI l.Sheet.Height), (.sl (List.map c_Rect l.Sheet.Clamps)), (.sl (List.map c_Rect l.Sheet.Used)), (.sl (List.map c_Piece l.Pieces))]), (vI edges)] [] (.agg [(.row (.top 1) 4), (.row (.top 2) 37), (.row (.top 3) 4), (.row (.top 4) 3), (.row (.top 5) 4)]) [(0, .box [(.row (.top 1) 4), (.row (.top 2) 37), (.row (.top 3) 4), (.row (.top 4) 3), (.row (.top 5) 4)]), (1, .row 4 [] (List.map cB r.Cut)), (2, .row 37 [] (List.map (cS cB) r.Holes)), (3, .row 4 [] (List.map cB r.Done)), (4, .row 3 [] (List.map cI r.Joints)), (5, .row 4 [] (List.map cB r.Fallen))] := by
 refine pc_of G (fn := Try.f26) Try.func26 (by kernel_rfl) (by kernel_rfl) (by kernel_rfl) (by kernel_rfl) (by kernel_rfl) ?_
 refine sem_set ⟨[(0, (.agg [(vS l.Sheet.Name), (vS l.Sheet.Material), (vI l.Sheet.Gauge), (vI l.Sheet.Grain), (vI l.Sheet.Width), (vI l.Sheet.Height), (.sl (List.map c_Rect l.Sheet.Clamps)), (.sl (List.map c_Rect l.Sheet.Used)), (.sl (List.map c_Piece l.Pieces))])), (1, (vI edges))], []⟩ (by kernel_rfl) ?_
 refine z3 2 ⟨[(1, (vI edges)), (2, (.ptr 2 0)), (4, (.ptr 4 0))], [(2, .box [(vS l.Sheet.Name), (vS l.Sheet.Material), (vI l.Sheet.Gauge), (vI l.Sheet.Grain), (vI l.Sheet.Width), (vI l.Sheet.Height), (.sl (List.map c_Rect l.Sheet.Clamps)), (.sl (List.map c_Rect l.Sheet.Used)), (.sl (List.map c_Piece l.Pieces))]), (4, .box [.nl, .nl, .nl, .nl, .nl])]⟩ (by kernel_rfl) ?_
 refine z7 (by kernel_rfl) ?_
 refine evs_run 2 (by kernel_rfl) ?_
 refine evs_op (st_len (c := c_Piece) (l := l.Pieces) (x := (.sl (List.map c_Piece l.Pieces))) (by kernel_rfl) (by kernel_rfl)) ?_
 refine z1 1 ⟨[(1, (vI edges)), (2, (.ptr 2 0)), (4, (.ptr 4 0)), (5, (vI (l.Pieces.length : Int)))], [(2, .box [(vS l.Sheet.Name), (vS l.Sheet.Material), (vI l.Sheet.Gauge), (vI l.Sheet.Grain), (vI l.Sheet.Width), (vI l.Sheet.Height), (.sl (List.map c_Rect l.Sheet.Clamps)), (.sl (List.map c_Rect l.Sheet.Used)), (.sl (List.map c_Piece l.Pieces))]), (4, .box [.nl, .nl, .nl, .nl, .nl])]⟩ (by kernel_rfl) ?_
 refine sem_seq (by kernel_rfl) ?_
 refine sem_draw [(1, [13]), (3, [15]), (5, [17]), (7, [19]), (9, [6])] [(1, [13]), (3, [15]), (5, [17]), (7, [19]), (9, [6])] [] [(0, [15, 17, 19, 6]), (1, [15, 17, 19, 6]), (2, [13, 17, 19, 6]), (3, [13, 17, 19, 6]), (4, [13, 15, 19, 6]), (5, [13, 15, 19, 6]), (6, [13, 15, 17, 6]), (7, [13, 15, 17, 6]), (8, [6]), (9, [13, 15, 17, 19])] [(0, [13, 15, 17, 19, 6]), (1, [15, 17, 19, 6]), (2, [13, 15, 17, 19, 6]), (3, [13, 17, 19, 6]), (4, [13, 15, 17, 19, 6]), (5, [13, 15, 19, 6]), (6, [13, 15, 17, 19, 6]), (7, [13, 15, 17, 6]), (8, [6]), (9, [13, 15, 17, 19])] 10 (by kernel_rfl) (by kernel_rfl) [6, 19, 17, 15, 13] (by kernel_rfl) (by kernel_rfl) ?_
 refine evd_run 1 (by kernel_rfl) ?_
 obtain ⟨l9, hl9, h⟩ := bindS h
 refine evd_new (by kernel_rfl) (st_mk (c := cB) (z := false) (n := edges) (e := 4) (d := 13) (zs := [(vB false)]) (k1 := .i64) (k2 := .i64) (by kernel_rfl) rfl hl9) (by kernel_rfl) (by kernel_rfl) (by kernel_rfl) (by kernel_rfl) ?_
 refine evd_run 1 (by kernel_rfl) ?_
 obtain ⟨l10, hl10, h⟩ := bindS h
 refine evd_new (by kernel_rfl) (st_mk (c := cB) (z := false) (n := (l.Pieces.length : Int)) (e := 4) (d := 15) (zs := [(vB false)]) (k1 := .i64) (k2 := .i64) (by kernel_rfl) rfl hl10) (by kernel_rfl) (by kernel_rfl) (by kernel_rfl) (by kernel_rfl) ?_
 refine evd_run 1 (by kernel_rfl) ?_
 obtain ⟨l11, hl11, h⟩ := bindS h
 refine evd_new (by kernel_rfl) (st_mk (c := cI) (z := 0) (n := (l.Pieces.length : Int)) (e := 3) (d := 17) (zs := [(vI 0)]) (k1 := .i64) (k2 := .i64) (by kernel_rfl) rfl hl11) (by kernel_rfl) (by kernel_rfl) (by kernel_rfl) (by kernel_rfl) ?_
 refine evd_run 1 (by kernel_rfl) ?_
 obtain ⟨l12, hl12, h⟩ := bindS h
 refine evd_new (by kernel_rfl) (st_mk (c := cB) (z := false) (n := (l.Pieces.length : Int)) (e := 4) (d := 19) (zs := [(vB false)]) (k1 := .i64) (k2 := .i64) (by kernel_rfl) rfl hl12) (by kernel_rfl) (by kernel_rfl) (by kernel_rfl) (by kernel_rfl) ?_
 refine evd_run 1 (by kernel_rfl) ?_
 refine evd_new (g := 6) (ob := .box [.nl, .nl, .nl, .nl, .nl]) (v := (.ptr 6 0)) (by kernel_rfl) (by kernel_rfl) (by kernel_rfl) (by kernel_rfl) (by kernel_rfl) (by kernel_rfl) ?_
 refine evd_end (by kernel_rfl) ?_
 refine evo_run 1 (by kernel_rfl) ?_
 refine evo_endS (by kernel_rfl) (fun τ hτ => ?_)
 refine th_normalS hτ ⟨[(2, (.ptr 2 0)), (4, (.ptr 4 0)), (6, (.ptr 6 0))], [(2, .box [(vS l.Sheet.Name), (vS l.Sheet.Material), (vI l.Sheet.Gauge), (vI l.Sheet.Grain), (vI l.Sheet.Width), (vI l.Sheet.Height), (.sl (List.map c_Rect l.Sheet.Clamps)), (.sl (List.map c_Rect l.Sheet.Used)), (.sl (List.map c_Piece l.Pieces))]), (4, .box [.nl, .nl, .nl, .nl, .nl]), (6, .box [(.row (.top 13) 4), .nl, (.row (.top 15) 4), (.row (.top 17) 3), (.row (.top 19) 4)]), (13, .row 4 [] (List.map cB l9)), (15, .row 4 [] (List.map cB l10)), (17, .row 3 [] (List.map cI l11)), (19, .row 4 [] (List.map cB l12))]⟩ (here (by kernel_rfl)) ?_
 refine sem_seq (by kernel_rfl) ?_
 refine z7 (by kernel_rfl) ?_
 refine evs_run 2 (by kernel_rfl) ?_
 refine evs_op (st_len (c := c_Piece) (l := l.Pieces) (x := (.sl (List.map c_Piece l.Pieces))) (by kernel_rfl) (by kernel_rfl)) ?_
 refine z1 1 ⟨[(4, (.ptr 4 0)), (6, (.ptr 6 0)), (22, (.sl (List.map c_Piece l.Pieces))), (23, (vI (l.Pieces.length : Int))), (24, (vI 0))], [(4, .box [.nl, .nl, .nl, .nl, .nl]), (6, .box [(.row (.top 13) 4), .nl, (.row (.top 15) 4), (.row (.top 17) 3), (.row (.top 19) 4)]), (13, .row 4 [] (List.map cB l9)), (15, .row 4 [] (List.map cB l10)), (17, .row 3 [] (List.map cI l11)), (19, .row 4 [] (List.map cB l12))]⟩ (by kernel_rfl) ?_
 refine sem_block (by kernel_rfl) ?_
 obtain ⟨x114, hx114, h⟩ := bindS h
 refine sem_loopS (fun (s81 : Int × (List (List Bool))) => ⟨[(4, (.ptr 500000 0)), (6, (.ptr 500001 0)), (22, (.sl (List.map c_Piece l.Pieces))), (23, (vI (l.Pieces.length : Int))), (24, (vI s81.1))], [(500000, .box [.nl, .nl, .nl, .nl, .nl]), (500001, .box [(.row (.top 500002) 4), (.row (.top 500003) 37), (.row (.top 500004) 4), (.row (.top 500005) 3), (.row (.top 500006) 4)]), (500002, .row 4 [] (List.map cB l9)), (500003, .row 37 [] (List.map (cS cB) s81.2)), (500004, .row 4 [] (List.map cB l10)), (500005, .row 3 [] (List.map cI l11)), (500006, .row 4 [] (List.map cB l12))]⟩) (fun (x114 : (List (List Bool))) => (.exit 0, ⟨[(4, (.ptr 500000 0)), (6, (.ptr 500001 0))], [(500000, .box [.nl, .nl, .nl, .nl, .nl]), (500001, .box [(.row (.top 500002) 4), (.row (.top 500003) 37), (.row (.top 500004) 4), (.row (.top 500005) 3), (.row (.top 500006) 4)]), (500002, .row 4 [] (List.map cB l9)), (500003, .row 37 [] (List.map (cS cB) x114)), (500004, .row 4 [] (List.map cB l10)), (500005, .row 3 [] (List.map cI l11)), (500006, .row 4 [] (List.map cB l12))]⟩)) (cut_start_k_l1 l) (0, []) x114 (by kernel_rfl) (subR_prep [.row (.box 6 1) 800000 37 []] [(4, 500000), (6, 500001), (13, 500002), (15, 500004), (17, 500005), (19, 500006), (800000, 500003)] (by kernel_rfl) rfl rfl (by kernel_rfl)) (iter_loop hx114) ?_ ?_ ?_
 ·intro s81 r h
  refine z3 1 ⟨[(4, (.ptr 500000 0)), (6, (.ptr 500001 0)), (22, (.sl (List.map c_Piece l.Pieces))), (23, (vI (l.Pieces.length : Int))), (24, (vI s81.1)), (25, (vB (decide (s81.1 < (l.Pieces.length : Int)))))], [(500000, .box [.nl, .nl, .nl, .nl, .nl]), (500001, .box [(.row (.top 500002) 4), (.row (.top 500003) 37), (.row (.top 500004) 4), (.row (.top 500005) 3), (.row (.top 500006) 4)]), (500002, .row 4 [] (List.map cB l9)), (500003, .row 37 [] (List.map (cS cB) s81.2)), (500004, .row 4 [] (List.map cB l10)), (500005, .row 3 [] (List.map cI l11)), (500006, .row 4 [] (List.map cB l12))]⟩ (by kernel_rfl) ?_
  refine sem_seq (by kernel_rfl) ?_
  refine sem_cond (decide (s81.1 < (l.Pieces.length : Int))) (by kernel_rfl) (by kernel_rfl) (fun hb => ?_) (fun hb => ?_)
  ·replace h := iteT hb h
   refine z4 ⟨[(4, (.ptr 500000 0)), (6, (.ptr 500001 0)), (22, (.sl (List.map c_Piece l.Pieces))), (23, (vI (l.Pieces.length : Int))), (24, (vI s81.1))], [(500000, .box [.nl, .nl, .nl, .nl, .nl]), (500001, .box [(.row (.top 500002) 4), (.row (.top 500003) 37), (.row (.top 500004) 4), (.row (.top 500005) 3), (.row (.top 500006) 4)]), (500002, .row 4 [] (List.map cB l9)), (500003, .row 37 [] (List.map (cS cB) s81.2)), (500004, .row 4 [] (List.map cB l10)), (500005, .row 3 [] (List.map cI l11)), (500006, .row 4 [] (List.map cB l12))]⟩ (by kernel_rfl) ?_
   refine sem_seq (by kernel_rfl) ?_
   refine sem_block (by kernel_rfl) ?_
   refine z7 (by kernel_rfl) ?_
   obtain ⟨x107, hx107, h⟩ := bindS h
   refine evs_op (st_idx (c := c_Piece) (l := l.Pieces) (i := s81.1) (kd := .i64) (sz := 7) (by kernel_rfl) hx107 rfl) ?_
   refine z1 3 ⟨[(4, (.ptr 500000 0)), (6, (.ptr 500001 0)), (8, (.ptr 8 0)), (22, (.sl (List.map c_Piece l.Pieces))), (23, (vI (l.Pieces.length : Int))), (24, (vI s81.1))], [(8, .box [(vS x107.Name), (vS x107.Material), (vI x107.Gauge), (vI x107.Grain), (.sl (List.map c_Rect x107.Rects)), (.sl (List.map c_Rect x107.Cuts)), (.sl (List.map c_Rect x107.Forms))]), (500000, .box [.nl, .nl, .nl, .nl, .nl]), (500001, .box [(.row (.top 500002) 4), (.row (.top 500003) 37), (.row (.top 500004) 4), (.row (.top 500005) 3), (.row (.top 500006) 4)]), (500002, .row 4 [] (List.map cB l9)), (500003, .row 37 [] (List.map (cS cB) s81.2)), (500004, .row 4 [] (List.map cB l10)), (500005, .row 3 [] (List.map cI l11)), (500006, .row 4 [] (List.map cB l12))]⟩ (by kernel_rfl) ?_
   refine sem_draw [] [(5, [33])] [] [] [(0, [33]), (1, [33]), (2, [33]), (3, [33]), (4, [33])] 7 (by kernel_rfl) (by kernel_rfl) [33] (by kernel_rfl) (by kernel_rfl) ?_
   refine evd_run 4 (by kernel_rfl) ?_
   refine evd_val (by kernel_rfl) (st_len (c := c_Rect) (l := x107.Cuts) (x := (.sl (List.map c_Rect x107.Cuts))) (by kernel_rfl) (by kernel_rfl)) (by kernel_rfl) (by kernel_rfl) ?_
   obtain ⟨l112, hl112, h⟩ := bindS h
   refine evd_mkF (d := 33) (e := 4) (es := (List.map cB l112)) (by kernel_rfl) (st_mk (c := cB) (z := false) (n := (x107.Cuts.length : Int)) (e := 4) (d := 33) (zs := [(vB false)]) (k1 := .i64) (k2 := .i64) (by kernel_rfl) rfl hl112) (by kernel_rfl) (by kernel_rfl) (by kernel_rfl) (by kernel_rfl) ?_
   refine evd_run 1 (by kernel_rfl) ?_
   refine evd_end (by kernel_rfl) ?_
   obtain ⟨l113, hl113, h⟩ := bindS h
   refine evo_op (st_app (c := (cS cB)) (l := s81.2) (l2 := [l112]) (x := (.sl (List.map (cS cB) [l112]))) (g := 500003) (e := 37) (sz := 1) (d := 35) (by kernel_rfl) (by kernel_rfl) (by kernel_rfl) (by kernel_rfl) (fun _ => rfl) rfl hl113) ?_
   refine evo_run 2 (by kernel_rfl) ?_
   refine evo_endS (by kernel_rfl) (fun τ hτ => ?_)
   refine bl_normal ?_
   refine th_normalS hτ ⟨[(4, (.ptr 500000 0)), (6, (.ptr 500001 0)), (22, (.sl (List.map c_Piece l.Pieces))), (23, (vI (l.Pieces.length : Int))), (24, (vI s81.1))], [(500000, .box [.nl, .nl, .nl, .nl, .nl]), (500001, .box [(.row (.top 500002) 4), (.row (.top 500003) 37), (.row (.top 500004) 4), (.row (.top 500005) 3), (.row (.top 500006) 4)]), (500002, .row 4 [] (List.map cB l9)), (500003, .row 37 [] (List.map (cS cB) l113)), (500004, .row 4 [] (List.map cB l10)), (500005, .row 3 [] (List.map cI l11)), (500006, .row 4 [] (List.map cB l12))]⟩ (here (by kernel_rfl)) ?_
   refine sem_region (by kernel_rfl) ?_
   refine z6 2 (by kernel_rfl) (fun τ hτ => ?_)
   obtain rfl := Option.some.inj h
   exact lk_nextS hτ (here (by kernel_rfl))
  ·replace h := iteF hb h
   refine sem_exitS 0 (by kernel_rfl) rfl (fun τ hτ => ?_)
   refine th_exit ?_
   obtain rfl := Option.some.inj h
   exact lk_outS hτ rfl (here (by kernel_rfl))
 ·intro x
  rfl
 ·intro τ hτ
  refine bl_hit (by kernel_rfl) ?_
  refine th_normalS hτ ⟨[(4, (.ptr 500000 0)), (6, (.ptr 500001 0))], [(500000, .box [.nl, .nl, .nl, .nl, .nl]), (500001, .box [(.row (.top 500002) 4), (.row (.top 500003) 37), (.row (.top 500004) 4), (.row (.top 500005) 3), (.row (.top 500006) 4)]), (500002, .row 4 [] (List.map cB l9)), (500003, .row 37 [] (List.map (cS cB) x114)), (500004, .row 4 [] (List.map cB l10)), (500005, .row 3 [] (List.map cI l11)), (500006, .row 4 [] (List.map cB l12))]⟩ (here (by kernel_rfl)) ?_
  refine z8 2 ⟨[(4, (.ptr 500000 0))], [(500000, .box [(.row (.top 500002) 4), (.row (.top 500003) 37), (.row (.top 500004) 4), (.row (.top 500005) 3), (.row (.top 500006) 4)]), (500002, .row 4 [] (List.map cB l9)), (500003, .row 37 [] (List.map (cS cB) x114)), (500004, .row 4 [] (List.map cB l10)), (500005, .row 3 [] (List.map cI l11)), (500006, .row 4 [] (List.map cB l12))]⟩ (by kernel_rfl) (fun τ hτ => ?_)
  obtain rfl := Option.some.inj h
  exact rk_ret hτ [(4, (.ptr 0 0))] (subR_prep [] [(500000, 0), (500002, 1), (500003, 2), (500004, 3), (500005, 4), (500006, 5)] (by kernel_rfl) rfl rfl (by kernel_rfl)) (by kernel_rfl)
theorem W.cut_State_fits_k_ok {st : cut_State} {l : LayoutT} {edges : Int} {r : Bool} (h : cut_State_fits_k st l edges = some r) : PC G.P 40 [(.agg [(.sl (List.map cB st.Cut)), (.sl (List.map (cS cB) st.Holes)), (.sl (List.map cB st.Done)), (.sl (List.map cI st.Joints)), (.sl (List.map cB st.Fallen))]), (.agg [(vS l.Sheet.Name), (vS l.Sheet.Material), (vI l.Sheet.Gauge), (vI l.Sheet.Grain), (vI l.Sheet.Width), (vI l.Sheet.Height), (.sl (List.map c_Rect l.Sheet.Clamps)), (.sl (List.map c_Rect l.Sheet.Used)), (.sl (List.map c_Piece l.Pieces))]), (vI edges)] [] (vB r) [] := by
 refine pc_of G (fn := Try.f40) Try.func40 (by kernel_rfl) (by kernel_rfl) (by kernel_rfl) (by kernel_rfl) (by kernel_rfl) ?_
 refine sem_set ⟨[(0, (.agg [(.sl (List.map cB st.Cut)), (.sl (List.map (cS cB) st.Holes)), (.sl (List.map cB st.Done)), (.sl (List.map cI st.Joints)), (.sl (List.map cB st.Fallen))])), (1, (.agg [(vS l.Sheet.Name), (vS l.Sheet.Material), (vI l.Sheet.Gauge), (vI l.Sheet.Grain), (vI l.Sheet.Width), (vI l.Sheet.Height), (.sl (List.map c_Rect l.Sheet.Clamps)), (.sl (List.map c_Rect l.Sheet.Used)), (.sl (List.map c_Piece l.Pieces))])), (2, (vI edges))], []⟩ (by kernel_rfl) ?_
 refine z3 3 ⟨[(2, (vI edges)), (3, (.ptr 3 0)), (4, (.ptr 4 0))], [(3, .box [(.sl (List.map cB st.Cut)), (.sl (List.map (cS cB) st.Holes)), (.sl (List.map cB st.Done)), (.sl (List.map cI st.Joints)), (.sl (List.map cB st.Fallen))]), (4, .box [(vS l.Sheet.Name), (vS l.Sheet.Material), (vI l.Sheet.Gauge), (vI l.Sheet.Grain), (vI l.Sheet.Width), (vI l.Sheet.Height), (.sl (List.map c_Rect l.Sheet.Clamps)), (.sl (List.map c_Rect l.Sheet.Used)), (.sl (List.map c_Piece l.Pieces))])]⟩ (by kernel_rfl) ?_
 refine z7 (by kernel_rfl) ?_
 refine evs_run 2 (by kernel_rfl) ?_
 refine evs_op (st_len (c := c_Piece) (l := l.Pieces) (x := (.sl (List.map c_Piece l.Pieces))) (by kernel_rfl) (by kernel_rfl)) ?_
 refine z1 1 ⟨[(2, (vI edges)), (3, (.ptr 3 0)), (4, (.ptr 4 0)), (7, (vI (l.Pieces.length : Int)))], [(3, .box [(.sl (List.map cB st.Cut)), (.sl (List.map (cS cB) st.Holes)), (.sl (List.map cB st.Done)), (.sl (List.map cI st.Joints)), (.sl (List.map cB st.Fallen))]), (4, .box [(vS l.Sheet.Name), (vS l.Sheet.Material), (vI l.Sheet.Gauge), (vI l.Sheet.Grain), (vI l.Sheet.Width), (vI l.Sheet.Height), (.sl (List.map c_Rect l.Sheet.Clamps)), (.sl (List.map c_Rect l.Sheet.Used)), (.sl (List.map c_Piece l.Pieces))])]⟩ (by kernel_rfl) ?_
 refine sem_seq (by kernel_rfl) ?_
 refine z7 (by kernel_rfl) ?_
 refine evs_run 2 (by kernel_rfl) ?_
 refine evs_op (st_len (c := cB) (l := st.Cut) (x := (.sl (List.map cB st.Cut))) (by kernel_rfl) (by kernel_rfl)) ?_
 refine evs_run 3 (by kernel_rfl) ?_
 refine evs_split ((st.Cut.length : Int) != edges) (fun b0 => ⟨[(3, (.ptr 3 0)), (4, (.ptr 4 0)), (7, (vI (l.Pieces.length : Int))), (18, (vB b0))], [(3, .box [(.sl (List.map cB st.Cut)), (.sl (List.map (cS cB) st.Holes)), (.sl (List.map cB st.Done)), (.sl (List.map cI st.Joints)), (.sl (List.map cB st.Fallen))]), (4, .box [(vS l.Sheet.Name), (vS l.Sheet.Material), (vI l.Sheet.Gauge), (vI l.Sheet.Grain), (vI l.Sheet.Width), (vI l.Sheet.Height), (.sl (List.map c_Rect l.Sheet.Clamps)), (.sl (List.map c_Rect l.Sheet.Used)), (.sl (List.map c_Piece l.Pieces))])]⟩) (by kernel_rfl) (fun hb => ?_) (fun hb => ?_)
 ·replace h := iteT hb h
  exact nomatch h
 ·replace h := iteF hb h
  refine evs_run 2 (by kernel_rfl) ?_
  refine evs_op (st_len (c := (cS cB)) (l := st.Holes) (x := (.sl (List.map (cS cB) st.Holes))) (by kernel_rfl) (by kernel_rfl)) ?_
  refine evs_run 4 (by kernel_rfl) ?_
  refine evs_split ((st.Holes.length : Int) != (l.Pieces.length : Int)) (fun b0 => ⟨[(3, (.ptr 3 0)), (4, (.ptr 4 0)), (7, (vI (l.Pieces.length : Int))), (25, (vB b0))], [(3, .box [(.sl (List.map cB st.Cut)), (.sl (List.map (cS cB) st.Holes)), (.sl (List.map cB st.Done)), (.sl (List.map cI st.Joints)), (.sl (List.map cB st.Fallen))]), (4, .box [(vS l.Sheet.Name), (vS l.Sheet.Material), (vI l.Sheet.Gauge), (vI l.Sheet.Grain), (vI l.Sheet.Width), (vI l.Sheet.Height), (.sl (List.map c_Rect l.Sheet.Clamps)), (.sl (List.map c_Rect l.Sheet.Used)), (.sl (List.map c_Piece l.Pieces))])]⟩) (by kernel_rfl) (fun hb => ?_) (fun hb => ?_)
  ·replace h := iteT hb h
   exact nomatch h
  ·replace h := iteF hb h
   refine evs_run 2 (by kernel_rfl) ?_
   refine evs_op (st_len (c := cB) (l := st.Done) (x := (.sl (List.map cB st.Done))) (by kernel_rfl) (by kernel_rfl)) ?_
   refine evs_run 4 (by kernel_rfl) ?_
   refine evs_split ((st.Done.length : Int) != (l.Pieces.length : Int)) (fun b0 => ⟨[(3, (.ptr 3 0)), (4, (.ptr 4 0)), (7, (vI (l.Pieces.length : Int))), (32, (vB b0))], [(3, .box [(.sl (List.map cB st.Cut)), (.sl (List.map (cS cB) st.Holes)), (.sl (List.map cB st.Done)), (.sl (List.map cI st.Joints)), (.sl (List.map cB st.Fallen))]), (4, .box [(vS l.Sheet.Name), (vS l.Sheet.Material), (vI l.Sheet.Gauge), (vI l.Sheet.Grain), (vI l.Sheet.Width), (vI l.Sheet.Height), (.sl (List.map c_Rect l.Sheet.Clamps)), (.sl (List.map c_Rect l.Sheet.Used)), (.sl (List.map c_Piece l.Pieces))])]⟩) (by kernel_rfl) (fun hb => ?_) (fun hb => ?_)
   ·replace h := iteT hb h
    exact nomatch h
   ·replace h := iteF hb h
    refine evs_run 2 (by kernel_rfl) ?_
    refine evs_op (st_len (c := cI) (l := st.Joints) (x := (.sl (List.map cI st.Joints))) (by kernel_rfl) (by kernel_rfl)) ?_
    refine evs_run 4 (by kernel_rfl) ?_
    refine evs_split ((st.Joints.length : Int) != (l.Pieces.length : Int)) (fun b0 => ⟨[(3, (.ptr 3 0)), (4, (.ptr 4 0)), (7, (vI (l.Pieces.length : Int))), (39, (vB b0))], [(3, .box [(.sl (List.map cB st.Cut)), (.sl (List.map (cS cB) st.Holes)), (.sl (List.map cB st.Done)), (.sl (List.map cI st.Joints)), (.sl (List.map cB st.Fallen))]), (4, .box [(vS l.Sheet.Name), (vS l.Sheet.Material), (vI l.Sheet.Gauge), (vI l.Sheet.Grain), (vI l.Sheet.Width), (vI l.Sheet.Height), (.sl (List.map c_Rect l.Sheet.Clamps)), (.sl (List.map c_Rect l.Sheet.Used)), (.sl (List.map c_Piece l.Pieces))])]⟩) (by kernel_rfl) (fun hb => ?_) (fun hb => ?_)
    ·replace h := iteT hb h
     exact nomatch h
    ·replace h := iteF hb h
     refine evs_run 2 (by kernel_rfl) ?_
     refine evs_op (st_len (c := cB) (l := st.Fallen) (x := (.sl (List.map cB st.Fallen))) (by kernel_rfl) (by kernel_rfl)) ?_
     refine z1 3 ⟨[(3, (.ptr 3 0)), (4, (.ptr 4 0)), (45, (vB ((st.Fallen.length : Int) != (l.Pieces.length : Int))))], [(3, .box [(.sl (List.map cB st.Cut)), (.sl (List.map (cS cB) st.Holes)), (.sl (List.map cB st.Done)), (.sl (List.map cI st.Joints)), (.sl (List.map cB st.Fallen))]), (4, .box [(vS l.Sheet.Name), (vS l.Sheet.Material), (vI l.Sheet.Gauge), (vI l.Sheet.Grain), (vI l.Sheet.Width), (vI l.Sheet.Height), (.sl (List.map c_Rect l.Sheet.Clamps)), (.sl (List.map c_Rect l.Sheet.Used)), (.sl (List.map c_Piece l.Pieces))])]⟩ (by kernel_rfl) ?_
     refine sem_cond ((st.Fallen.length : Int) != (l.Pieces.length : Int)) (by kernel_rfl) (by kernel_rfl) (fun hb => ?_) (fun hb => ?_)
     ·replace h := iteT hb h
      exact nomatch h
     ·replace h := iteF hb h
      refine z4 ⟨[(3, (.ptr 3 0)), (4, (.ptr 4 0))], [(3, .box [(.sl (List.map cB st.Cut)), (.sl (List.map (cS cB) st.Holes)), (.sl (List.map cB st.Done)), (.sl (List.map cI st.Joints)), (.sl (List.map cB st.Fallen))]), (4, .box [(vS l.Sheet.Name), (vS l.Sheet.Material), (vI l.Sheet.Gauge), (vI l.Sheet.Grain), (vI l.Sheet.Width), (vI l.Sheet.Height), (.sl (List.map c_Rect l.Sheet.Clamps)), (.sl (List.map c_Rect l.Sheet.Used)), (.sl (List.map c_Piece l.Pieces))])]⟩ (by kernel_rfl) ?_
      refine sem_seq (by kernel_rfl) ?_
      refine z7 (by kernel_rfl) ?_
      refine evs_run 2 (by kernel_rfl) ?_
      refine evs_op (st_len (c := c_Piece) (l := l.Pieces) (x := (.sl (List.map c_Piece l.Pieces))) (by kernel_rfl) (by kernel_rfl)) ?_
      refine z1 1 ⟨[(3, (.ptr 3 0)), (47, (.sl (List.map c_Piece l.Pieces))), (48, (vI (l.Pieces.length : Int))), (49, (vI 0))], [(3, .box [(.sl (List.map cB st.Cut)), (.sl (List.map (cS cB) st.Holes)), (.sl (List.map cB st.Done)), (.sl (List.map cI st.Joints)), (.sl (List.map cB st.Fallen))])]⟩ (by kernel_rfl) ?_
      refine sem_block (by kernel_rfl) ?_
      obtain ⟨x66, hx66, h⟩ := bindS h
      refine sem_loopS (fun (s45 : Int) => ⟨[(3, (.ptr 500000 0)), (47, (.sl (List.map c_Piece l.Pieces))), (48, (vI (l.Pieces.length : Int))), (49, (vI s45))], [(500000, .box [(.sl (List.map cB st.Cut)), (.sl (List.map (cS cB) st.Holes)), (.sl (List.map cB st.Done)), (.sl (List.map cI st.Joints)), (.sl (List.map cB st.Fallen))])]⟩) (fun (x66 : Unit) => (.exit 0, ⟨[], []⟩)) (cut_State_fits_k_l1 st l) 0 x66 (by kernel_rfl) (subR_prep [] [(3, 500000)] (by kernel_rfl) rfl rfl (by kernel_rfl)) (iter_loop hx66) ?_ ?_ ?_
      ·intro s45 r h
       refine z3 1 ⟨[(3, (.ptr 500000 0)), (47, (.sl (List.map c_Piece l.Pieces))), (48, (vI (l.Pieces.length : Int))), (49, (vI s45)), (50, (vB (decide (s45 < (l.Pieces.length : Int)))))], [(500000, .box [(.sl (List.map cB st.Cut)), (.sl (List.map (cS cB) st.Holes)), (.sl (List.map cB st.Done)), (.sl (List.map cI st.Joints)), (.sl (List.map cB st.Fallen))])]⟩ (by kernel_rfl) ?_
       refine sem_seq (by kernel_rfl) ?_
       refine sem_cond (decide (s45 < (l.Pieces.length : Int))) (by kernel_rfl) (by kernel_rfl) (fun hb => ?_) (fun hb => ?_)
       ·replace h := iteT hb h
        refine z4 ⟨[(3, (.ptr 500000 0)), (47, (.sl (List.map c_Piece l.Pieces))), (48, (vI (l.Pieces.length : Int))), (49, (vI s45))], [(500000, .box [(.sl (List.map cB st.Cut)), (.sl (List.map (cS cB) st.Holes)), (.sl (List.map cB st.Done)), (.sl (List.map cI st.Joints)), (.sl (List.map cB st.Fallen))])]⟩ (by kernel_rfl) ?_
        refine sem_seq (by kernel_rfl) ?_
        refine sem_block (by kernel_rfl) ?_
        refine z7 (by kernel_rfl) ?_
        refine evs_run 1 (by kernel_rfl) ?_
        obtain ⟨x62, hx62, h⟩ := bindS h
        refine evs_op (st_idx (c := c_Piece) (l := l.Pieces) (i := s45) (kd := .i64) (sz := 7) (by kernel_rfl) hx62 rfl) ?_
        refine z1 4 ⟨[(3, (.ptr 500000 0)), (8, (vI s45)), (9, (.ptr 9 0)), (47, (.sl (List.map c_Piece l.Pieces))), (48, (vI (l.Pieces.length : Int))), (49, (vI s45))], [(9, .box [(vS x62.Name), (vS x62.Material), (vI x62.Gauge), (vI x62.Grain), (.sl (List.map c_Rect x62.Rects)), (.sl (List.map c_Rect x62.Cuts)), (.sl (List.map c_Rect x62.Forms))]), (500000, .box [(.sl (List.map cB st.Cut)), (.sl (List.map (cS cB) st.Holes)), (.sl (List.map cB st.Done)), (.sl (List.map cI st.Joints)), (.sl (List.map cB st.Fallen))])]⟩ (by kernel_rfl) ?_
        refine sem_seq (by kernel_rfl) ?_
        refine sem_drawN [] [] [] [] [] 9 (by kernel_rfl) (by kernel_rfl) (by kernel_rfl) ?_
        refine evd_run 3 (by kernel_rfl) ?_
        obtain ⟨x65, hx65, h⟩ := bindS h
        refine evd_val (by kernel_rfl) (st_idx (c := (cS cB)) (l := st.Holes) (i := s45) (kd := .i64) (sz := 1) (by kernel_rfl) hx65 rfl) (by kernel_rfl) (by kernel_rfl) ?_
        refine evd_run 1 (by kernel_rfl) ?_
        refine evd_val (by kernel_rfl) (st_len (c := cB) (l := x65) (x := (.sl (List.map cB x65))) (by kernel_rfl) (by kernel_rfl)) (by kernel_rfl) (by kernel_rfl) ?_
        refine evd_run 2 (by kernel_rfl) ?_
        refine evd_val (by kernel_rfl) (st_len (c := c_Rect) (l := x62.Cuts) (x := (.sl (List.map c_Rect x62.Cuts))) (by kernel_rfl) (by kernel_rfl)) (by kernel_rfl) (by kernel_rfl) ?_
        refine evd_end (by kernel_rfl) ?_
        refine evo_run 1 (by kernel_rfl) ?_
        refine evo_endS (by kernel_rfl) (fun τ hτ => ?_)
        refine th_normalS hτ ⟨[(3, (.ptr 500000 0)), (47, (.sl (List.map c_Piece l.Pieces))), (48, (vI (l.Pieces.length : Int))), (49, (vI s45)), (63, (vB ((x65.length : Int) != (x62.Cuts.length : Int))))], [(500000, .box [(.sl (List.map cB st.Cut)), (.sl (List.map (cS cB) st.Holes)), (.sl (List.map cB st.Done)), (.sl (List.map cI st.Joints)), (.sl (List.map cB st.Fallen))])]⟩ (here (by kernel_rfl)) ?_
        refine sem_cond ((x65.length : Int) != (x62.Cuts.length : Int)) (by kernel_rfl) (by kernel_rfl) (fun hb => ?_) (fun hb => ?_)
        ·replace h := iteT hb h
         exact nomatch h
        ·replace h := iteF hb h
         refine sem_skipS (by kernel_rfl) (fun τ hτ => ?_)
         refine bl_normal ?_
         refine th_normalS hτ ⟨[(3, (.ptr 500000 0)), (47, (.sl (List.map c_Piece l.Pieces))), (48, (vI (l.Pieces.length : Int))), (49, (vI s45))], [(500000, .box [(.sl (List.map cB st.Cut)), (.sl (List.map (cS cB) st.Holes)), (.sl (List.map cB st.Done)), (.sl (List.map cI st.Joints)), (.sl (List.map cB st.Fallen))])]⟩ (here (by kernel_rfl)) ?_
         refine sem_region (by kernel_rfl) ?_
         refine z6 2 (by kernel_rfl) (fun τ hτ => ?_)
         obtain rfl := Option.some.inj h
         exact lk_nextS hτ (here (by kernel_rfl))
       ·replace h := iteF hb h
        refine sem_exitS 0 (by kernel_rfl) rfl (fun τ hτ => ?_)
        refine th_exit ?_
        obtain rfl := Option.some.inj h
        exact lk_outS hτ rfl (here (by kernel_rfl))
      ·intro x
       rfl
      ·intro τ hτ
       refine bl_hit (by kernel_rfl) ?_
       refine th_normalS hτ ⟨[], []⟩ (here (by kernel_rfl)) ?_
       refine z8 1 ⟨[(6, (vB true))], []⟩ (by kernel_rfl) (fun τ hτ => ?_)
       obtain rfl := Option.some.inj h
       exact rk_ret hτ [(6, (vB true))] (here (by kernel_rfl)) (by kernel_rfl)
theorem W.slices_Index_Lbool_bool_k_ok {s0 : (List Bool)} {v : Bool} {r : Int} (h : slices_Index_Lbool_bool_k s0 v = some r) : PC G.P 47 [(.sl (List.map cB s0)), (vB v)] [] (vI r) [] := by
 refine pc_of G (fn := Try.f47) Try.func47 (by kernel_rfl) (by kernel_rfl) (by kernel_rfl) (by kernel_rfl) (by kernel_rfl) ?_
 refine sem_set ⟨[(0, (.sl (List.map cB s0))), (1, (vB v))], []⟩ (by kernel_rfl) ?_
 refine z3 1 ⟨[(0, (.sl (List.map cB s0))), (1, (vB v))], []⟩ (by kernel_rfl) ?_
 refine sem_seq (by kernel_rfl) ?_
 refine z7 (by kernel_rfl) ?_
 refine evs_run 1 (by kernel_rfl) ?_
 refine evs_op (st_len (c := cB) (l := s0) (x := (.sl (List.map cB s0))) (by kernel_rfl) (by kernel_rfl)) ?_
 refine z1 1 ⟨[(0, (.sl (List.map cB s0))), (1, (vB v)), (7, (vI (s0.length : Int))), (8, (vI 0))], []⟩ (by kernel_rfl) ?_
 refine sem_block (by kernel_rfl) ?_
 obtain ⟨x4, hx4, h⟩ := bindS h
 refine sem_loopS (fun (s3 : Unit) => ⟨[(0, (.sl (List.map cB s0))), (1, (vB v)), (7, (vI (s0.length : Int))), (8, (vI 0))], []⟩) (fun (x4 : Unit) => (.exit 0, ⟨[], []⟩)) (slices_Index_Lbool_bool_k_l1 s0) () x4 (by kernel_rfl) (here (by kernel_rfl)) (iter_loop hx4) ?_ ?_ ?_
 ·intro s3 r h
  refine z3 1 ⟨[(0, (.sl (List.map cB s0))), (1, (vB v)), (7, (vI (s0.length : Int))), (8, (vI 0)), (9, (vB (decide (0 < (s0.length : Int)))))], []⟩ (by kernel_rfl) ?_
  refine sem_seq (by kernel_rfl) ?_
  refine sem_cond (decide (0 < (s0.length : Int))) (by kernel_rfl) (by kernel_rfl) (fun hb => ?_) (fun hb => ?_)
  ·replace h := iteT hb h
   exact nomatch h
  ·replace h := iteF hb h
   refine sem_exitS 0 (by kernel_rfl) rfl (fun τ hτ => ?_)
   refine th_exit ?_
   obtain rfl := Option.some.inj h
   exact lk_outS hτ rfl (here (by kernel_rfl))
 ·intro x
  rfl
 ·intro τ hτ
  refine bl_hit (by kernel_rfl) ?_
  refine th_normalS hτ ⟨[], []⟩ (here (by kernel_rfl)) ?_
  refine z8 1 ⟨[(4, (vI (-1)))], []⟩ (by kernel_rfl) (fun τ hτ => ?_)
  obtain rfl := Option.some.inj h
  exact rk_ret hτ [(4, (vI (-1)))] (here (by kernel_rfl)) (by kernel_rfl)
theorem W.slices_Contains_Lbool_bool_k_ok {s0 : (List Bool)} {v : Bool} {r : Bool} (h : slices_Contains_Lbool_bool_k s0 v = some r) : PC G.P 31 [(.sl (List.map cB s0)), (vB v)] [] (vB r) [] := by
 refine pc_of G (fn := Try.f31) Try.func31 (by kernel_rfl) (by kernel_rfl) (by kernel_rfl) (by kernel_rfl) (by kernel_rfl) ?_
 refine sem_set ⟨[(0, (.sl (List.map cB s0))), (1, (vB v))], []⟩ (by kernel_rfl) ?_
 refine z3 1 ⟨[(0, (.sl (List.map cB s0))), (1, (vB v))], []⟩ (by kernel_rfl) ?_
 refine z7 (by kernel_rfl) ?_
 refine evs_run 2 (by kernel_rfl) ?_
 obtain ⟨r2, hr2, h⟩ := bindS h
 refine evs_callP [] (by kernel_rfl) (W.slices_Index_Lbool_bool_k_ok hr2) (by kernel_rfl) (.inl rfl) (by kernel_rfl) ?_
 refine z1 2 ⟨[(4, (vB (decide (r2 ≥ 0))))], []⟩ (by kernel_rfl) ?_
 refine sem_retS (by kernel_rfl) (fun τ hτ => ?_)
 obtain rfl := Option.some.inj h
 exact rk_ret hτ [(4, (vB (decide (r2 ≥ 0))))] (here (by kernel_rfl)) (by kernel_rfl)
theorem W.cut_of_k_ok {e : EdgeT} {piece : Int} {r : Bool} (h : cut_of_k e piece = some r) : PC G.P 44 [(.agg [(vI e.Line.X1), (vI e.Line.Y1), (vI e.Line.X2), (vI e.Line.Y2), (vI e.A), (vI e.B)]), (vI piece)] [] (vB r) [] := by
 refine pc_of G (fn := Try.f44) Try.func44 (by kernel_rfl) (by kernel_rfl) (by kernel_rfl) (by kernel_rfl) (by kernel_rfl) ?_
 refine sem_set ⟨[(0, (.agg [(vI e.Line.X1), (vI e.Line.Y1), (vI e.Line.X2), (vI e.Line.Y2), (vI e.A), (vI e.B)])), (1, (vI piece))], []⟩ (by kernel_rfl) ?_
 refine z3 2 ⟨[(1, (vI piece)), (2, (.ptr 2 0))], [(2, .box [(vI e.Line.X1), (vI e.Line.Y1), (vI e.Line.X2), (vI e.Line.Y2), (vI e.A), (vI e.B)])]⟩ (by kernel_rfl) ?_
 refine sem_seq (by kernel_rfl) ?_
 obtain ⟨j1, hj1, h⟩ := bindS h
 refine sem_regionC ⟨[(4, (vB j1))], []⟩ (by kernel_rfl) ?_ (fun τ hτ => ?_)
 ·replace h := hj1
  refine evs_run 5 (by kernel_rfl) ?_
  refine evs_split (e.A == piece) (fun b0 => ⟨[(1, (vI piece)), (2, (.ptr 2 0)), (9, (vB b0))], [(2, .box [(vI e.Line.X1), (vI e.Line.Y1), (vI e.Line.X2), (vI e.Line.Y2), (vI e.A), (vI e.B)])]⟩) (by kernel_rfl) (fun hb => ?_) (fun hb => ?_)
  ·replace h := iteT hb h
   refine z6 6 (by kernel_rfl) (fun τ hτ => ?_)
   obtain rfl := Option.some.inj h
   exact leafC hτ (here (by kernel_rfl))
  ·replace h := iteF hb h
   refine z6 6 (by kernel_rfl) (fun τ hτ => ?_)
   obtain rfl := Option.some.inj h
   exact leafC hτ (here (by kernel_rfl))
 refine th_normalS hτ ⟨[(4, (vB j1))], []⟩ (here (by kernel_rfl)) ?_
 refine sem_retS (by kernel_rfl) (fun τ hτ => ?_)
 obtain rfl := Option.some.inj h
 exact rk_ret hτ [(4, (vB j1))] (here (by kernel_rfl)) (by kernel_rfl)
theorem W.cut_State_free_k_ok {st : cut_State} {all : (List EdgeT)} {piece : Int} {r : Bool} (h : cut_State_free_k st all piece = some r) : PC G.P 45 [(.agg [(.sl (List.map cB st.Cut)), (.sl (List.map (cS cB) st.Holes)), (.sl (List.map cB st.Done)), (.sl (List.map cI st.Joints)), (.sl (List.map cB st.Fallen))]), (.sl (List.map c_EdgeT all)), (vI piece)] [] (vB r) [] := by
 refine pc_of G (fn := Try.f45) Try.func45 (by kernel_rfl) (by kernel_rfl) (by kernel_rfl) (by kernel_rfl) (by kernel_rfl) ?_
 refine sem_set ⟨[(0, (.agg [(.sl (List.map cB st.Cut)), (.sl (List.map (cS cB) st.Holes)), (.sl (List.map cB st.Done)), (.sl (List.map cI st.Joints)), (.sl (List.map cB st.Fallen))])), (1, (.sl (List.map c_EdgeT all))), (2, (vI piece))], []⟩ (by kernel_rfl) ?_
 refine z3 2 ⟨[(1, (.sl (List.map c_EdgeT all))), (2, (vI piece)), (3, (.ptr 3 0))], [(3, .box [(.sl (List.map cB st.Cut)), (.sl (List.map (cS cB) st.Holes)), (.sl (List.map cB st.Done)), (.sl (List.map cI st.Joints)), (.sl (List.map cB st.Fallen))])]⟩ (by kernel_rfl) ?_
 refine sem_seq (by kernel_rfl) ?_
 refine z7 (by kernel_rfl) ?_
 refine evs_run 1 (by kernel_rfl) ?_
 refine evs_op (st_len (c := c_EdgeT) (l := all) (x := (.sl (List.map c_EdgeT all))) (by kernel_rfl) (by kernel_rfl)) ?_
 refine z1 1 ⟨[(2, (vI piece)), (3, (.ptr 3 0)), (9, (.sl (List.map c_EdgeT all))), (10, (vI (all.length : Int))), (11, (vI 0))], [(3, .box [(.sl (List.map cB st.Cut)), (.sl (List.map (cS cB) st.Holes)), (.sl (List.map cB st.Done)), (.sl (List.map cI st.Joints)), (.sl (List.map cB st.Fallen))])]⟩ (by kernel_rfl) ?_
 refine sem_block (by kernel_rfl) ?_
 obtain ⟨x92, hx92, h⟩ := bindS h
 refine sem_loopS (fun (s63 : Int) => ⟨[(2, (vI piece)), (3, (.ptr 500000 0)), (9, (.sl (List.map c_EdgeT all))), (10, (vI (all.length : Int))), (11, (vI s63))], [(500000, .box [(.sl (List.map cB st.Cut)), (.sl (List.map (cS cB) st.Holes)), (.sl (List.map cB st.Done)), (.sl (List.map cI st.Joints)), (.sl (List.map cB st.Fallen))])]⟩) (fun (x92 : Unit ⊕ Unit) => match x92 with | .inl j93 => (.ret, ⟨[(6, (vB false))], []⟩) | .inr j94 => (.exit 0, ⟨[], []⟩)) (cut_State_free_k_l1 st all piece) 0 x92 (by kernel_rfl) (subR_prep [] [(3, 500000)] (by kernel_rfl) rfl rfl (by kernel_rfl)) (iter_loop hx92) ?_ ?_ ?_
 ·intro s63 r h
  refine z3 1 ⟨[(2, (vI piece)), (3, (.ptr 500000 0)), (9, (.sl (List.map c_EdgeT all))), (10, (vI (all.length : Int))), (11, (vI s63)), (12, (vB (decide (s63 < (all.length : Int)))))], [(500000, .box [(.sl (List.map cB st.Cut)), (.sl (List.map (cS cB) st.Holes)), (.sl (List.map cB st.Done)), (.sl (List.map cI st.Joints)), (.sl (List.map cB st.Fallen))])]⟩ (by kernel_rfl) ?_
  refine sem_seq (by kernel_rfl) ?_
  refine sem_cond (decide (s63 < (all.length : Int))) (by kernel_rfl) (by kernel_rfl) (fun hb => ?_) (fun hb => ?_)
  ·replace h := iteT hb h
   refine z4 ⟨[(2, (vI piece)), (3, (.ptr 500000 0)), (9, (.sl (List.map c_EdgeT all))), (10, (vI (all.length : Int))), (11, (vI s63))], [(500000, .box [(.sl (List.map cB st.Cut)), (.sl (List.map (cS cB) st.Holes)), (.sl (List.map cB st.Done)), (.sl (List.map cI st.Joints)), (.sl (List.map cB st.Fallen))])]⟩ (by kernel_rfl) ?_
   refine sem_seq (by kernel_rfl) ?_
   refine sem_block (by kernel_rfl) ?_
   refine z7 (by kernel_rfl) ?_
   refine evs_run 1 (by kernel_rfl) ?_
   obtain ⟨x86, hx86, h⟩ := bindS h
   refine evs_op (st_idx (c := c_EdgeT) (l := all) (i := s63) (kd := .i64) (sz := 6) (by kernel_rfl) hx86 rfl) ?_
   refine z1 4 ⟨[(2, (vI piece)), (3, (.ptr 500000 0)), (7, (vI s63)), (8, (.ptr 8 0)), (9, (.sl (List.map c_EdgeT all))), (10, (vI (all.length : Int))), (11, (vI s63))], [(8, .box [(vI x86.Line.X1), (vI x86.Line.Y1), (vI x86.Line.X2), (vI x86.Line.Y2), (vI x86.A), (vI x86.B)]), (500000, .box [(.sl (List.map cB st.Cut)), (.sl (List.map (cS cB) st.Holes)), (.sl (List.map cB st.Done)), (.sl (List.map cI st.Joints)), (.sl (List.map cB st.Fallen))])]⟩ (by kernel_rfl) ?_
   refine sem_seq (by kernel_rfl) ?_
   obtain ⟨j89, hj89, h⟩ := bindS h
   refine sem_regionC ⟨[(2, (vI piece)), (3, (.ptr 500000 0)), (9, (.sl (List.map c_EdgeT all))), (10, (vI (all.length : Int))), (11, (vI s63)), (26, (vB j89))], [(500000, .box [(.sl (List.map cB st.Cut)), (.sl (List.map (cS cB) st.Holes)), (.sl (List.map cB st.Done)), (.sl (List.map cI st.Joints)), (.sl (List.map cB st.Fallen))])]⟩ (by kernel_rfl) ?_ (fun τ hτ => ?_)
   ·replace h := hj89
    refine evs_run 2 (by kernel_rfl) ?_
    obtain ⟨r90, hr90, h⟩ := bindS h
    refine evs_callP [] (by kernel_rfl) (W.cut_of_k_ok hr90) (by kernel_rfl) (.inl rfl) (by kernel_rfl) ?_
    refine evs_run 1 (by kernel_rfl) ?_
    refine evs_split r90 (fun b0 => ⟨[(2, (vI piece)), (3, (.ptr 500000 0)), (7, (vI s63)), (9, (.sl (List.map c_EdgeT all))), (10, (vI (all.length : Int))), (11, (vI s63)), (19, (vB b0))], [(500000, .box [(.sl (List.map cB st.Cut)), (.sl (List.map (cS cB) st.Holes)), (.sl (List.map cB st.Done)), (.sl (List.map cI st.Joints)), (.sl (List.map cB st.Fallen))])]⟩) (by kernel_rfl) (fun hb => ?_) (fun hb => ?_)
    ·replace h := iteT hb h
     refine evs_run 3 (by kernel_rfl) ?_
     obtain ⟨x91, hx91, h⟩ := bindS h
     refine evs_op (st_idx (c := cB) (l := st.Cut) (i := s63) (kd := .i64) (sz := 1) (by kernel_rfl) hx91 rfl) ?_
     refine z6 3 (by kernel_rfl) (fun τ hτ => ?_)
     obtain rfl := Option.some.inj h
     exact leafC hτ (here (by kernel_rfl))
    ·replace h := iteF hb h
     refine z6 7 (by kernel_rfl) (fun τ hτ => ?_)
     obtain rfl := Option.some.inj h
     exact leafC hτ (here (by kernel_rfl))
   refine th_normalS hτ ⟨[(2, (vI piece)), (3, (.ptr 500000 0)), (9, (.sl (List.map c_EdgeT all))), (10, (vI (all.length : Int))), (11, (vI s63)), (26, (vB j89))], [(500000, .box [(.sl (List.map cB st.Cut)), (.sl (List.map (cS cB) st.Holes)), (.sl (List.map cB st.Done)), (.sl (List.map cI st.Joints)), (.sl (List.map cB st.Fallen))])]⟩ (here (by kernel_rfl)) ?_
   refine sem_cond j89 (by kernel_rfl) (by kernel_rfl) (fun hb => ?_) (fun hb => ?_)
   ·replace h := iteT hb h
    refine z8 1 ⟨[(6, (vB false))], []⟩ (by kernel_rfl) (fun τ hτ => ?_)
    refine bl_ret ?_
    refine th_ret ?_
    obtain rfl := Option.some.inj h
    exact lk_outS hτ rfl (here (by kernel_rfl))
   ·replace h := iteF hb h
    refine sem_skipS (by kernel_rfl) (fun τ hτ => ?_)
    refine bl_normal ?_
    refine th_normalS hτ ⟨[(2, (vI piece)), (3, (.ptr 500000 0)), (9, (.sl (List.map c_EdgeT all))), (10, (vI (all.length : Int))), (11, (vI s63))], [(500000, .box [(.sl (List.map cB st.Cut)), (.sl (List.map (cS cB) st.Holes)), (.sl (List.map cB st.Done)), (.sl (List.map cI st.Joints)), (.sl (List.map cB st.Fallen))])]⟩ (here (by kernel_rfl)) ?_
    refine sem_region (by kernel_rfl) ?_
    refine z6 2 (by kernel_rfl) (fun τ hτ => ?_)
    obtain rfl := Option.some.inj h
    exact lk_nextS hτ (here (by kernel_rfl))
  ·replace h := iteF hb h
   refine sem_exitS 0 (by kernel_rfl) rfl (fun τ hτ => ?_)
   refine th_exit ?_
   obtain rfl := Option.some.inj h
   exact lk_outS hτ rfl (here (by kernel_rfl))
 ·intro x
  rcases x with _ | _ <;> rfl
 ·intro τ hτ
  rcases x92 with j93 | j94
  ·refine bl_ret ?_
   refine th_ret ?_
   obtain rfl := Option.some.inj h
   exact rk_ret hτ [(6, (vB false))] (here (by kernel_rfl)) (by kernel_rfl)
  ·refine bl_hit (by kernel_rfl) ?_
   refine th_normalS hτ ⟨[], []⟩ (here (by kernel_rfl)) ?_
   refine z8 1 ⟨[(6, (vB true))], []⟩ (by kernel_rfl) (fun τ hτ => ?_)
   obtain rfl := Option.some.inj h
   exact rk_ret hτ [(6, (vB true))] (here (by kernel_rfl)) (by kernel_rfl)
theorem W.cut_State_order_k_ok {st : cut_State} {all : (List EdgeT)} {x2 : ItemT} {r : Bool} (h : cut_State_order_k st all x2 = some r) : PC G.P 41 [(.agg [(.sl (List.map cB st.Cut)), (.sl (List.map (cS cB) st.Holes)), (.sl (List.map cB st.Done)), (.sl (List.map cI st.Joints)), (.sl (List.map cB st.Fallen))]), (.sl (List.map c_EdgeT all)), (.agg [(vI x2.Piece), (vI x2.Hole), (vI x2.Joints), (vI x2.Lead.X), (vI x2.Lead.Y)])] [] (vB r) [] := by
 refine pc_of G (fn := Try.f41) Try.func41 (by kernel_rfl) (by kernel_rfl) (by kernel_rfl) (by kernel_rfl) (by kernel_rfl) ?_
 refine sem_set ⟨[(0, (.agg [(.sl (List.map cB st.Cut)), (.sl (List.map (cS cB) st.Holes)), (.sl (List.map cB st.Done)), (.sl (List.map cI st.Joints)), (.sl (List.map cB st.Fallen))])), (1, (.sl (List.map c_EdgeT all))), (2, (.agg [(vI x2.Piece), (vI x2.Hole), (vI x2.Joints), (vI x2.Lead.X), (vI x2.Lead.Y)]))], []⟩ (by kernel_rfl) ?_
 refine z3 3 ⟨[(1, (.sl (List.map c_EdgeT all))), (3, (.ptr 3 0)), (5, (.ptr 5 0))], [(3, .box [(.sl (List.map cB st.Cut)), (.sl (List.map (cS cB) st.Holes)), (.sl (List.map cB st.Done)), (.sl (List.map cI st.Joints)), (.sl (List.map cB st.Fallen))]), (5, .box [(vI x2.Piece), (vI x2.Hole), (vI x2.Joints), (vI x2.Lead.X), (vI x2.Lead.Y)])]⟩ (by kernel_rfl) ?_
 refine sem_seq (by kernel_rfl) ?_
 refine sem_block (by kernel_rfl) ?_
 refine z7 (by kernel_rfl) ?_
 refine evs_run 4 (by kernel_rfl) ?_
 obtain ⟨x4, hx4, h⟩ := bindS h
 refine evs_op (st_idx (c := cB) (l := st.Fallen) (i := x2.Piece) (kd := .i64) (sz := 1) (by kernel_rfl) hx4 rfl) ?_
 refine z1 2 ⟨[(1, (.sl (List.map c_EdgeT all))), (3, (.ptr 3 0)), (5, (.ptr 5 0)), (7, (vB x4))], [(3, .box [(.sl (List.map cB st.Cut)), (.sl (List.map (cS cB) st.Holes)), (.sl (List.map cB st.Done)), (.sl (List.map cI st.Joints)), (.sl (List.map cB st.Fallen))]), (5, .box [(vI x2.Piece), (vI x2.Hole), (vI x2.Joints), (vI x2.Lead.X), (vI x2.Lead.Y)])]⟩ (by kernel_rfl) ?_
 refine sem_cond x4 (by kernel_rfl) (by kernel_rfl) (fun hb => ?_) (fun hb => ?_)
 ·replace h := iteT hb h
  exact nomatch h
 ·replace h := iteF hb h
  refine z3 4 ⟨[(1, (.sl (List.map c_EdgeT all))), (3, (.ptr 3 0)), (5, (.ptr 5 0)), (14, (vB (decide (x2.Hole ≥ 0))))], [(3, .box [(.sl (List.map cB st.Cut)), (.sl (List.map (cS cB) st.Holes)), (.sl (List.map cB st.Done)), (.sl (List.map cI st.Joints)), (.sl (List.map cB st.Fallen))]), (5, .box [(vI x2.Piece), (vI x2.Hole), (vI x2.Joints), (vI x2.Lead.X), (vI x2.Lead.Y)])]⟩ (by kernel_rfl) ?_
  refine sem_cond (decide (x2.Hole ≥ 0)) (by kernel_rfl) (by kernel_rfl) (fun hb => ?_) (fun hb => ?_)
  ·replace h := iteT hb h
   exact nomatch h
  ·replace h := iteF hb h
   refine sem_skipS (by kernel_rfl) (fun τ hτ => ?_)
   refine bl_normal ?_
   refine th_normalS hτ ⟨[(1, (.sl (List.map c_EdgeT all))), (3, (.ptr 3 0)), (5, (.ptr 5 0))], [(3, .box [(.sl (List.map cB st.Cut)), (.sl (List.map (cS cB) st.Holes)), (.sl (List.map cB st.Done)), (.sl (List.map cI st.Joints)), (.sl (List.map cB st.Fallen))]), (5, .box [(vI x2.Piece), (vI x2.Hole), (vI x2.Joints), (vI x2.Lead.X), (vI x2.Lead.Y)])]⟩ (here (by kernel_rfl)) ?_
   refine z7 (by kernel_rfl) ?_
   refine evs_run 4 (by kernel_rfl) ?_
   obtain ⟨x9, hx9, h⟩ := bindS h
   refine evs_op (st_idx (c := cB) (l := st.Done) (i := x2.Piece) (kd := .i64) (sz := 1) (by kernel_rfl) hx9 rfl) ?_
   refine evs_run 3 (by kernel_rfl) ?_
   refine evs_split x9 (fun b0 => ⟨[(1, (.sl (List.map c_EdgeT all))), (3, (.ptr 3 0)), (5, (.ptr 5 0)), (36, (vB (!b0)))], [(3, .box [(.sl (List.map cB st.Cut)), (.sl (List.map (cS cB) st.Holes)), (.sl (List.map cB st.Done)), (.sl (List.map cI st.Joints)), (.sl (List.map cB st.Fallen))]), (5, .box [(vI x2.Piece), (vI x2.Hole), (vI x2.Joints), (vI x2.Lead.X), (vI x2.Lead.Y)])]⟩) (by kernel_rfl) (fun hb => ?_) (fun hb => ?_)
   ·replace h := iteT hb h
    exact nomatch h
   ·replace h := iteF hb h
    refine evs_run 4 (by kernel_rfl) ?_
    obtain ⟨x10, hx10, h⟩ := bindS h
    refine evs_op (st_idx (c := (cS cB)) (l := st.Holes) (i := x2.Piece) (kd := .i64) (sz := 1) (by kernel_rfl) hx10 rfl) ?_
    refine evs_run 1 (by kernel_rfl) ?_
    obtain ⟨r11, hr11, h⟩ := bindS h
    refine evs_callP [] (by kernel_rfl) (W.slices_Contains_Lbool_bool_k_ok hr11) (by kernel_rfl) (.inl rfl) (by kernel_rfl) ?_
    refine evs_run 3 (by kernel_rfl) ?_
    refine evs_split r11 (fun b0 => ⟨[(1, (.sl (List.map c_EdgeT all))), (3, (.ptr 3 0)), (5, (.ptr 5 0)), (46, (vB (!b0)))], [(3, .box [(.sl (List.map cB st.Cut)), (.sl (List.map (cS cB) st.Holes)), (.sl (List.map cB st.Done)), (.sl (List.map cI st.Joints)), (.sl (List.map cB st.Fallen))]), (5, .box [(vI x2.Piece), (vI x2.Hole), (vI x2.Joints), (vI x2.Lead.X), (vI x2.Lead.Y)])]⟩) (by kernel_rfl) (fun hb => ?_) (fun hb => ?_)
    ·replace h := iteT hb h
     exact nomatch h
    ·replace h := iteF hb h
     refine evs_run 4 (by kernel_rfl) ?_
     obtain ⟨r12, hr12, h⟩ := bindS h
     refine evs_callP [] (by kernel_rfl) (W.cut_State_free_k_ok hr12) (by kernel_rfl) (.inl rfl) (by kernel_rfl) ?_
     refine z1 3 ⟨[(6, (vB (!r12)))], []⟩ (by kernel_rfl) ?_
     refine sem_retS (by kernel_rfl) (fun τ hτ => ?_)
     obtain rfl := Option.some.inj h
     exact rk_ret hτ [(6, (vB (!r12)))] (here (by kernel_rfl)) (by kernel_rfl)
theorem W.cut_Small_k_ok {x0 : Piece} {r : Bool} (h : cut_Small_k x0 = some r) : PC G.P 7 [(.agg [(vS x0.Name), (vS x0.Material), (vI x0.Gauge), (vI x0.Grain), (.sl (List.map c_Rect x0.Rects)), (.sl (List.map c_Rect x0.Cuts)), (.sl (List.map c_Rect x0.Forms))])] [] (vB r) [] := by
 refine pc_of G (fn := Try.f7) Try.func7 (by kernel_rfl) (by kernel_rfl) (by kernel_rfl) (by kernel_rfl) (by kernel_rfl) ?_
 refine sem_set ⟨[(0, (.agg [(vS x0.Name), (vS x0.Material), (vI x0.Gauge), (vI x0.Grain), (.sl (List.map c_Rect x0.Rects)), (.sl (List.map c_Rect x0.Cuts)), (.sl (List.map c_Rect x0.Forms))]))], []⟩ (by kernel_rfl) ?_
 refine z3 2 ⟨[(1, (.ptr 1 0))], [(1, .box [(vS x0.Name), (vS x0.Material), (vI x0.Gauge), (vI x0.Grain), (.sl (List.map c_Rect x0.Rects)), (.sl (List.map c_Rect x0.Cuts)), (.sl (List.map c_Rect x0.Forms))])]⟩ (by kernel_rfl) ?_
 refine z3 1 ⟨[(1, (.ptr 1 0)), (3, (.ptr 3 0))], [(1, .box [(vS x0.Name), (vS x0.Material), (vI x0.Gauge), (vI x0.Grain), (.sl (List.map c_Rect x0.Rects)), (.sl (List.map c_Rect x0.Cuts)), (.sl (List.map c_Rect x0.Forms))]), (3, .box [(vI 0), (vI 0), (vI 0), (vI 0)])]⟩ (by kernel_rfl) ?_
 refine sem_seq (by kernel_rfl) ?_
 refine z7 (by kernel_rfl) ?_
 refine evs_run 2 (by kernel_rfl) ?_
 refine evs_op (st_len (c := c_Rect) (l := x0.Rects) (x := (.sl (List.map c_Rect x0.Rects))) (by kernel_rfl) (by kernel_rfl)) ?_
 refine z1 1 ⟨[(3, (.ptr 3 0)), (9, (.sl (List.map c_Rect x0.Rects))), (10, (vI (x0.Rects.length : Int))), (11, (vI 0))], [(3, .box [(vI 0), (vI 0), (vI 0), (vI 0)])]⟩ (by kernel_rfl) ?_
 refine sem_block (by kernel_rfl) ?_
 obtain ⟨x54, hx54, h⟩ := bindS h
 refine sem_loopS (fun (s37 : Int × Int × Int × Int × Int) => ⟨[(3, (.ptr 500000 0)), (9, (.sl (List.map c_Rect x0.Rects))), (10, (vI (x0.Rects.length : Int))), (11, (vI s37.1))], [(500000, .box [(vI s37.2.1), (vI s37.2.2.1), (vI s37.2.2.2.1), (vI s37.2.2.2.2)])]⟩) (fun (x54 : Int × Int × Int × Int) => (.exit 0, ⟨[(3, (.ptr 500000 0))], [(500000, .box [(vI x54.1), (vI x54.2.1), (vI x54.2.2.1), (vI x54.2.2.2)])]⟩)) (cut_Small_k_l1 x0) (0, 0, 0, 0, 0) x54 (by kernel_rfl) (subR_prep [] [(3, 500000)] (by kernel_rfl) rfl rfl (by kernel_rfl)) (iter_loop hx54) ?_ ?_ ?_
 ·intro s37 r h
  refine z3 1 ⟨[(3, (.ptr 500000 0)), (9, (.sl (List.map c_Rect x0.Rects))), (10, (vI (x0.Rects.length : Int))), (11, (vI s37.1)), (12, (vB (decide (s37.1 < (x0.Rects.length : Int)))))], [(500000, .box [(vI s37.2.1), (vI s37.2.2.1), (vI s37.2.2.2.1), (vI s37.2.2.2.2)])]⟩ (by kernel_rfl) ?_
  refine sem_seq (by kernel_rfl) ?_
  refine sem_cond (decide (s37.1 < (x0.Rects.length : Int))) (by kernel_rfl) (by kernel_rfl) (fun hb => ?_) (fun hb => ?_)
  ·replace h := iteT hb h
   refine z4 ⟨[(3, (.ptr 500000 0)), (9, (.sl (List.map c_Rect x0.Rects))), (10, (vI (x0.Rects.length : Int))), (11, (vI s37.1))], [(500000, .box [(vI s37.2.1), (vI s37.2.2.1), (vI s37.2.2.2.1), (vI s37.2.2.2.2)])]⟩ (by kernel_rfl) ?_
   refine sem_seq (by kernel_rfl) ?_
   refine sem_block (by kernel_rfl) ?_
   refine z7 (by kernel_rfl) ?_
   obtain ⟨x51, hx51, h⟩ := bindS h
   refine evs_op (st_idx (c := c_Rect) (l := x0.Rects) (i := s37.1) (kd := .i64) (sz := 4) (by kernel_rfl) hx51 rfl) ?_
   refine z1 3 ⟨[(3, (.ptr 500000 0)), (5, (.ptr 5 0)), (9, (.sl (List.map c_Rect x0.Rects))), (10, (vI (x0.Rects.length : Int))), (11, (vI s37.1))], [(5, .box [(vI x51.X), (vI x51.Y), (vI x51.W), (vI x51.H)]), (500000, .box [(vI s37.2.1), (vI s37.2.2.1), (vI s37.2.2.2.1), (vI s37.2.2.2.2)])]⟩ (by kernel_rfl) ?_
   refine sem_block (by kernel_rfl) ?_
   refine z7 (by kernel_rfl) ?_
   refine evs_run 1 (by kernel_rfl) ?_
   obtain ⟨r53, hr53, h⟩ := bindS h
   refine evs_callP [] (by kernel_rfl) (W.geom_ValidRect_k_ok hr53) (by kernel_rfl) (.inl rfl) (by kernel_rfl) ?_
   refine z1 2 ⟨[(3, (.ptr 500000 0)), (5, (.ptr 5 0)), (9, (.sl (List.map c_Rect x0.Rects))), (10, (vI (x0.Rects.length : Int))), (11, (vI s37.1)), (57, (vB (!r53)))], [(5, .box [(vI x51.X), (vI x51.Y), (vI x51.W), (vI x51.H)]), (500000, .box [(vI s37.2.1), (vI s37.2.2.1), (vI s37.2.2.2.1), (vI s37.2.2.2.2)])]⟩ (by kernel_rfl) ?_
   refine sem_cond (!r53) (by kernel_rfl) (by kernel_rfl) (fun hb => ?_) (fun hb => ?_)
   ·replace h := iteT hb h
    exact nomatch h
   ·replace h := iteF hb h
    refine z3 4 ⟨[(3, (.ptr 500000 0)), (5, (.ptr 5 0)), (9, (.sl (List.map c_Rect x0.Rects))), (10, (vI (x0.Rects.length : Int))), (11, (vI s37.1)), (61, (vB (s37.2.2.2.1 == 0)))], [(5, .box [(vI x51.X), (vI x51.Y), (vI x51.W), (vI x51.H)]), (500000, .box [(vI s37.2.1), (vI s37.2.2.1), (vI s37.2.2.2.1), (vI s37.2.2.2.2)])]⟩ (by kernel_rfl) ?_
    refine sem_cond (s37.2.2.2.1 == 0) (by kernel_rfl) (by kernel_rfl) (fun hb => ?_) (fun hb => ?_)
    ·replace h := iteT hb h
     refine sem_region (by kernel_rfl) ?_
     refine z6 2 (by kernel_rfl) (fun τ hτ => ?_)
     refine bl_normal ?_
     refine bl_normal ?_
     refine th_normalS hτ ⟨[(3, (.ptr 500000 0)), (9, (.sl (List.map c_Rect x0.Rects))), (10, (vI (x0.Rects.length : Int))), (11, (vI s37.1))], [(500000, .box [(vI x51.X), (vI x51.Y), (vI x51.W), (vI x51.H)])]⟩ (here (by kernel_rfl)) ?_
     refine sem_region (by kernel_rfl) ?_
     refine z6 2 (by kernel_rfl) (fun τ hτ => ?_)
     obtain rfl := Option.some.inj h
     exact lk_nextS hτ (here (by kernel_rfl))
    ·replace h := iteF hb h
     exact nomatch h
  ·replace h := iteF hb h
   refine sem_exitS 0 (by kernel_rfl) rfl (fun τ hτ => ?_)
   refine th_exit ?_
   obtain rfl := Option.some.inj h
   exact lk_outS hτ rfl (here (by kernel_rfl))
 ·intro x
  rfl
 ·intro τ hτ
  refine bl_hit (by kernel_rfl) ?_
  refine th_normalS hτ ⟨[(3, (.ptr 500000 0))], [(500000, .box [(vI x54.1), (vI x54.2.1), (vI x54.2.2.1), (vI x54.2.2.2)])]⟩ (here (by kernel_rfl)) ?_
  refine z8 7 ⟨[(2, (vB (decide ((imin x54.2.2.1 x54.2.2.2) < 7200))))], []⟩ (by kernel_rfl) (fun τ hτ => ?_)
  obtain rfl := Option.some.inj h
  exact rk_ret hτ [(2, (vB (decide ((imin x54.2.2.1 x54.2.2.2) < 7200))))] (here (by kernel_rfl)) (by kernel_rfl)
theorem W.cut_InRegion_1_k_ok {r0 : Rect} {a_0 : Int} {a_1 : Int} {a_2 : Int} {a_3 : Int} {r : Bool} (h : cut_InRegion_1_k r0 a_0 a_1 a_2 a_3 = some r) : PC G.P 23 [(.agg [(vI r0.X), (vI r0.Y), (vI r0.W), (vI r0.H)]), (.vptr [(vI a_0), (vI a_1), (vI a_2), (vI a_3)] 0)] [] (vB r) [] := by
 refine pc_of G (fn := Try.f23) Try.func23 (by kernel_rfl) (by kernel_rfl) (by kernel_rfl) (by kernel_rfl) (by kernel_rfl) ?_
 refine sem_set ⟨[(0, (.agg [(vI r0.X), (vI r0.Y), (vI r0.W), (vI r0.H)])), (1, (.vptr [(vI a_0), (vI a_1), (vI a_2), (vI a_3)] 0))], []⟩ (by kernel_rfl) ?_
 refine z3 2 ⟨[(1, (.vptr [(vI a_0), (vI a_1), (vI a_2), (vI a_3)] 0)), (2, (.ptr 2 0))], [(2, .box [(vI r0.X), (vI r0.Y), (vI r0.W), (vI r0.H)])]⟩ (by kernel_rfl) ?_
 refine z7 (by kernel_rfl) ?_
 refine evs_run 2 (by kernel_rfl) ?_
 obtain ⟨r2, hr2, h⟩ := bindS h
 refine evs_callP [] (by kernel_rfl) (W.geom_Inside_k_ok hr2) (by kernel_rfl) (.inl rfl) (by kernel_rfl) ?_
 refine z1 1 ⟨[(3, (vB r2))], []⟩ (by kernel_rfl) ?_
 refine sem_retS (by kernel_rfl) (fun τ hτ => ?_)
 obtain rfl := Option.some.inj h
 exact rk_ret hτ [(3, (vB r2))] (here (by kernel_rfl)) (by kernel_rfl)
theorem W.slices_IndexFunc_Lapi_Rect_api_Rect__cut_InRegion_1_k_ok {s0 : (List Rect)} {f_0_0 : Int} {f_0_1 : Int} {f_0_2 : Int} {f_0_3 : Int} {r : Int} (h : slices_IndexFunc_Lapi_Rect_api_Rect__cut_InRegion_1_k s0 f_0_0 f_0_1 f_0_2 f_0_3 = some r) : PC G.P 38 [(.sl (List.map c_Rect s0)), (.fn 23 [(.vptr [(vI f_0_0), (vI f_0_1), (vI f_0_2), (vI f_0_3)] 0)])] [] (vI r) [] := by
 refine pc_of G (fn := Try.f38) Try.func38 (by kernel_rfl) (by kernel_rfl) (by kernel_rfl) (by kernel_rfl) (by kernel_rfl) ?_
 refine sem_set ⟨[(0, (.sl (List.map c_Rect s0))), (1, (.fn 23 [(.vptr [(vI f_0_0), (vI f_0_1), (vI f_0_2), (vI f_0_3)] 0)]))], []⟩ (by kernel_rfl) ?_
 refine z3 1 ⟨[(0, (.sl (List.map c_Rect s0))), (1, (.fn 23 [(.vptr [(vI f_0_0), (vI f_0_1), (vI f_0_2), (vI f_0_3)] 0)]))], []⟩ (by kernel_rfl) ?_
 refine sem_seq (by kernel_rfl) ?_
 refine z7 (by kernel_rfl) ?_
 refine evs_run 1 (by kernel_rfl) ?_
 refine evs_op (st_len (c := c_Rect) (l := s0) (x := (.sl (List.map c_Rect s0))) (by kernel_rfl) (by kernel_rfl)) ?_
 refine z1 1 ⟨[(0, (.sl (List.map c_Rect s0))), (1, (.fn 23 [(.vptr [(vI f_0_0), (vI f_0_1), (vI f_0_2), (vI f_0_3)] 0)])), (7, (vI (s0.length : Int))), (8, (vI 0))], []⟩ (by kernel_rfl) ?_
 refine sem_block (by kernel_rfl) ?_
 obtain ⟨x54, hx54, h⟩ := bindS h
 refine sem_loopS (fun (s37 : Int) => ⟨[(0, (.sl (List.map c_Rect s0))), (1, (.fn 23 [(.vptr [(vI f_0_0), (vI f_0_1), (vI f_0_2), (vI f_0_3)] 0)])), (7, (vI (s0.length : Int))), (8, (vI s37))], []⟩) (fun (x54 : Unit) => (.exit 0, ⟨[], []⟩)) (slices_IndexFunc_Lapi_Rect_api_Rect__cut_InRegion_1_k_l1 s0 f_0_0 f_0_1 f_0_2 f_0_3) 0 x54 (by kernel_rfl) (here (by kernel_rfl)) (iter_loop hx54) ?_ ?_ ?_
 ·intro s37 r h
  refine z3 1 ⟨[(0, (.sl (List.map c_Rect s0))), (1, (.fn 23 [(.vptr [(vI f_0_0), (vI f_0_1), (vI f_0_2), (vI f_0_3)] 0)])), (7, (vI (s0.length : Int))), (8, (vI s37)), (9, (vB (decide (s37 < (s0.length : Int)))))], []⟩ (by kernel_rfl) ?_
  refine sem_seq (by kernel_rfl) ?_
  refine sem_cond (decide (s37 < (s0.length : Int))) (by kernel_rfl) (by kernel_rfl) (fun hb => ?_) (fun hb => ?_)
  ·replace h := iteT hb h
   refine z4 ⟨[(0, (.sl (List.map c_Rect s0))), (1, (.fn 23 [(.vptr [(vI f_0_0), (vI f_0_1), (vI f_0_2), (vI f_0_3)] 0)])), (7, (vI (s0.length : Int))), (8, (vI s37))], []⟩ (by kernel_rfl) ?_
   refine sem_seq (by kernel_rfl) ?_
   refine sem_block (by kernel_rfl) ?_
   refine z3 2 ⟨[(0, (.sl (List.map c_Rect s0))), (1, (.fn 23 [(.vptr [(vI f_0_0), (vI f_0_1), (vI f_0_2), (vI f_0_3)] 0)])), (5, (vI s37)), (7, (vI (s0.length : Int))), (8, (vI s37))], []⟩ (by kernel_rfl) ?_
   refine z7 (by kernel_rfl) ?_
   refine evs_run 3 (by kernel_rfl) ?_
   obtain ⟨x52, hx52, h⟩ := bindS h
   refine evs_op (st_idx (c := c_Rect) (l := s0) (i := s37) (kd := .i64) (sz := 4) (by kernel_rfl) hx52 rfl) ?_
   refine evs_run 1 (by kernel_rfl) ?_
   obtain ⟨r53, hr53, h⟩ := bindS h
   refine evs_callP [] (by kernel_rfl) (W.cut_InRegion_1_k_ok hr53) (by kernel_rfl) (.inl rfl) (by kernel_rfl) ?_
   refine evs_endS (by kernel_rfl) (fun τ hτ => ?_)
   refine th_normalS hτ ⟨[(0, (.sl (List.map c_Rect s0))), (1, (.fn 23 [(.vptr [(vI f_0_0), (vI f_0_1), (vI f_0_2), (vI f_0_3)] 0)])), (5, (vI s37)), (7, (vI (s0.length : Int))), (8, (vI s37)), (16, (vB r53))], []⟩ (here (by kernel_rfl)) ?_
   refine sem_cond r53 (by kernel_rfl) (by kernel_rfl) (fun hb => ?_) (fun hb => ?_)
   ·replace h := iteT hb h
    exact nomatch h
   ·replace h := iteF hb h
    refine sem_skipS (by kernel_rfl) (fun τ hτ => ?_)
    refine bl_normal ?_
    refine th_normalS hτ ⟨[(0, (.sl (List.map c_Rect s0))), (1, (.fn 23 [(.vptr [(vI f_0_0), (vI f_0_1), (vI f_0_2), (vI f_0_3)] 0)])), (7, (vI (s0.length : Int))), (8, (vI s37))], []⟩ (here (by kernel_rfl)) ?_
    refine sem_region (by kernel_rfl) ?_
    refine z6 2 (by kernel_rfl) (fun τ hτ => ?_)
    obtain rfl := Option.some.inj h
    exact lk_nextS hτ (here (by kernel_rfl))
  ·replace h := iteF hb h
   refine sem_exitS 0 (by kernel_rfl) rfl (fun τ hτ => ?_)
   refine th_exit ?_
   obtain rfl := Option.some.inj h
   exact lk_outS hτ rfl (here (by kernel_rfl))
 ·intro x
  rfl
 ·intro τ hτ
  refine bl_hit (by kernel_rfl) ?_
  refine th_normalS hτ ⟨[], []⟩ (here (by kernel_rfl)) ?_
  refine z8 1 ⟨[(4, (vI (-1)))], []⟩ (by kernel_rfl) (fun τ hτ => ?_)
  obtain rfl := Option.some.inj h
  exact rk_ret hτ [(4, (vI (-1)))] (here (by kernel_rfl)) (by kernel_rfl)
theorem W.slices_ContainsFunc_Lapi_Rect_api_Rect__cut_InRegion_1_k_ok {s0 : (List Rect)} {f_0_0 : Int} {f_0_1 : Int} {f_0_2 : Int} {f_0_3 : Int} {r : Bool} (h : slices_ContainsFunc_Lapi_Rect_api_Rect__cut_InRegion_1_k s0 f_0_0 f_0_1 f_0_2 f_0_3 = some r) : PC G.P 22 [(.sl (List.map c_Rect s0)), (.fn 23 [(.vptr [(vI f_0_0), (vI f_0_1), (vI f_0_2), (vI f_0_3)] 0)])] [] (vB r) [] := by
 refine pc_of G (fn := Try.f22) Try.func22 (by kernel_rfl) (by kernel_rfl) (by kernel_rfl) (by kernel_rfl) (by kernel_rfl) ?_
 refine sem_set ⟨[(0, (.sl (List.map c_Rect s0))), (1, (.fn 23 [(.vptr [(vI f_0_0), (vI f_0_1), (vI f_0_2), (vI f_0_3)] 0)]))], []⟩ (by kernel_rfl) ?_
 refine z3 1 ⟨[(0, (.sl (List.map c_Rect s0))), (1, (.fn 23 [(.vptr [(vI f_0_0), (vI f_0_1), (vI f_0_2), (vI f_0_3)] 0)]))], []⟩ (by kernel_rfl) ?_
 refine z7 (by kernel_rfl) ?_
 refine evs_run 2 (by kernel_rfl) ?_
 obtain ⟨r2, hr2, h⟩ := bindS h
 refine evs_callP [] (by kernel_rfl) (W.slices_IndexFunc_Lapi_Rect_api_Rect__cut_InRegion_1_k_ok hr2) (by kernel_rfl) (.inl rfl) (by kernel_rfl) ?_
 refine z1 2 ⟨[(4, (vB (decide (r2 ≥ 0))))], []⟩ (by kernel_rfl) ?_
 refine sem_retS (by kernel_rfl) (fun τ hτ => ?_)
 obtain rfl := Option.some.inj h
 exact rk_ret hτ [(4, (vB (decide (r2 ≥ 0))))] (here (by kernel_rfl)) (by kernel_rfl)
theorem W.cut_InRegion_k_ok {l : (List Rect)} {s1 : Spot} {r : Bool} (h : cut_InRegion_k l s1 = some r) : PC G.P 9 [(.sl (List.map c_Rect l)), (.agg [(vI s1.X), (vI s1.Y)])] [] (vB r) [] := by
 refine pc_of G (fn := Try.f9) Try.func9 (by kernel_rfl) (by kernel_rfl) (by kernel_rfl) (by kernel_rfl) (by kernel_rfl) ?_
 refine sem_set ⟨[(0, (.sl (List.map c_Rect l))), (1, (.agg [(vI s1.X), (vI s1.Y)]))], []⟩ (by kernel_rfl) ?_
 refine z3 2 ⟨[(0, (.sl (List.map c_Rect l))), (3, (.ptr 3 0))], [(3, .box [(vI s1.X), (vI s1.Y)])]⟩ (by kernel_rfl) ?_
 refine sem_seq (by kernel_rfl) ?_
 refine z7 (by kernel_rfl) ?_
 refine evs_run 4 (by kernel_rfl) ?_
 refine evs_split (decide (s1.X < (-4194304))) (fun b0 => ⟨[(0, (.sl (List.map c_Rect l))), (3, (.ptr 3 0)), (10, (vB b0))], [(3, .box [(vI s1.X), (vI s1.Y)])]⟩) (by kernel_rfl) (fun hb => ?_) (fun hb => ?_)
 ·replace h := iteT hb h
  exact nomatch h
 ·replace h := iteF hb h
  refine evs_run 5 (by kernel_rfl) ?_
  refine evs_split (decide (s1.X > 4194304)) (fun b0 => ⟨[(0, (.sl (List.map c_Rect l))), (3, (.ptr 3 0)), (15, (vB b0))], [(3, .box [(vI s1.X), (vI s1.Y)])]⟩) (by kernel_rfl) (fun hb => ?_) (fun hb => ?_)
  ·replace h := iteT hb h
   exact nomatch h
  ·replace h := iteF hb h
   refine evs_run 5 (by kernel_rfl) ?_
   refine evs_split (decide (s1.Y < (-4194304))) (fun b0 => ⟨[(0, (.sl (List.map c_Rect l))), (3, (.ptr 3 0)), (20, (vB b0))], [(3, .box [(vI s1.X), (vI s1.Y)])]⟩) (by kernel_rfl) (fun hb => ?_) (fun hb => ?_)
   ·replace h := iteT hb h
    exact nomatch h
   ·replace h := iteF hb h
    refine z1 4 ⟨[(0, (.sl (List.map c_Rect l))), (3, (.ptr 3 0)), (24, (vB (decide (s1.Y > 4194304))))], [(3, .box [(vI s1.X), (vI s1.Y)])]⟩ (by kernel_rfl) ?_
    refine sem_cond (decide (s1.Y > 4194304)) (by kernel_rfl) (by kernel_rfl) (fun hb => ?_) (fun hb => ?_)
    ·replace h := iteT hb h
     exact nomatch h
    ·replace h := iteF hb h
     refine z4 ⟨[(0, (.sl (List.map c_Rect l))), (3, (.ptr 3 0))], [(3, .box [(vI s1.X), (vI s1.Y)])]⟩ (by kernel_rfl) ?_
     refine sem_seq (by kernel_rfl) ?_
     refine z7 (by kernel_rfl) ?_
     refine evs_run 25 (by kernel_rfl) ?_
     refine evs_op (st_len (c := c_Rect) (l := [(Rect.mk (isub s1.X 1) (isub s1.Y 1) 1 1), (Rect.mk s1.X (isub s1.Y 1) 1 1), (Rect.mk (isub s1.X 1) s1.Y 1 1), (Rect.mk s1.X s1.Y 1 1)]) (x := (.sl (List.map c_Rect [(Rect.mk (isub s1.X 1) (isub s1.Y 1) 1 1), (Rect.mk s1.X (isub s1.Y 1) 1 1), (Rect.mk (isub s1.X 1) s1.Y 1 1), (Rect.mk s1.X s1.Y 1 1)]))) (by kernel_rfl) (by kernel_rfl)) ?_
     refine z1 1 ⟨[(0, (.sl (List.map c_Rect l))), (49, (.sl (List.map c_Rect [(Rect.mk (isub s1.X 1) (isub s1.Y 1) 1 1), (Rect.mk s1.X (isub s1.Y 1) 1 1), (Rect.mk (isub s1.X 1) s1.Y 1 1), (Rect.mk s1.X s1.Y 1 1)]))), (50, (vI ([(Rect.mk (isub s1.X 1) (isub s1.Y 1) 1 1), (Rect.mk s1.X (isub s1.Y 1) 1 1), (Rect.mk (isub s1.X 1) s1.Y 1 1), (Rect.mk s1.X s1.Y 1 1)].length : Int))), (51, (vI 0))], []⟩ (by kernel_rfl) ?_
     refine sem_block (by kernel_rfl) ?_
     obtain ⟨x36, hx36, h⟩ := bindS h
     refine sem_loopS (fun (s19 : Unit) => ⟨[(0, (.sl (List.map c_Rect l))), (49, (.sl (List.map c_Rect [(Rect.mk (isub s1.X 1) (isub s1.Y 1) 1 1), (Rect.mk s1.X (isub s1.Y 1) 1 1), (Rect.mk (isub s1.X 1) s1.Y 1 1), (Rect.mk s1.X s1.Y 1 1)]))), (50, (vI ([(Rect.mk (isub s1.X 1) (isub s1.Y 1) 1 1), (Rect.mk s1.X (isub s1.Y 1) 1 1), (Rect.mk (isub s1.X 1) s1.Y 1 1), (Rect.mk s1.X s1.Y 1 1)].length : Int))), (51, (vI 0))], []⟩) (fun (x36 : Unit) => (.ret, ⟨[(4, (vB false))], []⟩)) (cut_InRegion_k_l1 l s1) () x36 (by kernel_rfl) (here (by kernel_rfl)) (iter_loop hx36) ?_ ?_ ?_
     ·intro s19 r h
      refine z3 1 ⟨[(0, (.sl (List.map c_Rect l))), (49, (.sl (List.map c_Rect [(Rect.mk (isub s1.X 1) (isub s1.Y 1) 1 1), (Rect.mk s1.X (isub s1.Y 1) 1 1), (Rect.mk (isub s1.X 1) s1.Y 1 1), (Rect.mk s1.X s1.Y 1 1)]))), (50, (vI ([(Rect.mk (isub s1.X 1) (isub s1.Y 1) 1 1), (Rect.mk s1.X (isub s1.Y 1) 1 1), (Rect.mk (isub s1.X 1) s1.Y 1 1), (Rect.mk s1.X s1.Y 1 1)].length : Int))), (51, (vI 0)), (52, (vB (decide (0 < ([(Rect.mk (isub s1.X 1) (isub s1.Y 1) 1 1), (Rect.mk s1.X (isub s1.Y 1) 1 1), (Rect.mk (isub s1.X 1) s1.Y 1 1), (Rect.mk s1.X s1.Y 1 1)].length : Int)))))], []⟩ (by kernel_rfl) ?_
      refine sem_seq (by kernel_rfl) ?_
      refine sem_cond (decide (0 < ([(Rect.mk (isub s1.X 1) (isub s1.Y 1) 1 1), (Rect.mk s1.X (isub s1.Y 1) 1 1), (Rect.mk (isub s1.X 1) s1.Y 1 1), (Rect.mk s1.X s1.Y 1 1)].length : Int))) (by kernel_rfl) (by kernel_rfl) (fun hb => ?_) (fun hb => ?_)
      ·replace h := iteT hb h
       refine z4 ⟨[(0, (.sl (List.map c_Rect l))), (49, (.sl (List.map c_Rect [(Rect.mk (isub s1.X 1) (isub s1.Y 1) 1 1), (Rect.mk s1.X (isub s1.Y 1) 1 1), (Rect.mk (isub s1.X 1) s1.Y 1 1), (Rect.mk s1.X s1.Y 1 1)]))), (50, (vI ([(Rect.mk (isub s1.X 1) (isub s1.Y 1) 1 1), (Rect.mk s1.X (isub s1.Y 1) 1 1), (Rect.mk (isub s1.X 1) s1.Y 1 1), (Rect.mk s1.X s1.Y 1 1)].length : Int))), (51, (vI 0))], []⟩ (by kernel_rfl) ?_
       refine sem_seq (by kernel_rfl) ?_
       refine sem_block (by kernel_rfl) ?_
       refine z7 (by kernel_rfl) ?_
       obtain ⟨x33, hx33, h⟩ := bindS h
       refine evs_op (st_idx (c := c_Rect) (l := [(Rect.mk (isub s1.X 1) (isub s1.Y 1) 1 1), (Rect.mk s1.X (isub s1.Y 1) 1 1), (Rect.mk (isub s1.X 1) s1.Y 1 1), (Rect.mk s1.X s1.Y 1 1)]) (i := 0) (kd := .i64) (sz := 4) (by kernel_rfl) hx33 rfl) ?_
       refine z1 3 ⟨[(0, (.sl (List.map c_Rect l))), (6, (.ptr 6 0)), (49, (.sl (List.map c_Rect [(Rect.mk (isub s1.X 1) (isub s1.Y 1) 1 1), (Rect.mk s1.X (isub s1.Y 1) 1 1), (Rect.mk (isub s1.X 1) s1.Y 1 1), (Rect.mk s1.X s1.Y 1 1)]))), (50, (vI ([(Rect.mk (isub s1.X 1) (isub s1.Y 1) 1 1), (Rect.mk s1.X (isub s1.Y 1) 1 1), (Rect.mk (isub s1.X 1) s1.Y 1 1), (Rect.mk s1.X s1.Y 1 1)].length : Int))), (51, (vI 0))], [(6, .box [(vI x33.X), (vI x33.Y), (vI x33.W), (vI x33.H)])]⟩ (by kernel_rfl) ?_
       refine z7 (by kernel_rfl) ?_
       refine evs_run 2 (by kernel_rfl) ?_
       obtain ⟨r35, hr35, h⟩ := bindS h
       refine evs_callP [6] (by kernel_rfl) (W.slices_ContainsFunc_Lapi_Rect_api_Rect__cut_InRegion_1_k_ok hr35) (by kernel_rfl) (.inr rfl) (by kernel_rfl) ?_
       refine z1 1 ⟨[(0, (.sl (List.map c_Rect l))), (49, (.sl (List.map c_Rect [(Rect.mk (isub s1.X 1) (isub s1.Y 1) 1 1), (Rect.mk s1.X (isub s1.Y 1) 1 1), (Rect.mk (isub s1.X 1) s1.Y 1 1), (Rect.mk s1.X s1.Y 1 1)]))), (50, (vI ([(Rect.mk (isub s1.X 1) (isub s1.Y 1) 1 1), (Rect.mk s1.X (isub s1.Y 1) 1 1), (Rect.mk (isub s1.X 1) s1.Y 1 1), (Rect.mk s1.X s1.Y 1 1)].length : Int))), (51, (vI 0)), (58, (vB (!r35)))], []⟩ (by kernel_rfl) ?_
       refine sem_cond (!r35) (by kernel_rfl) (by kernel_rfl) (fun hb => ?_) (fun hb => ?_)
       ·replace h := iteT hb h
        refine z8 1 ⟨[(4, (vB false))], []⟩ (by kernel_rfl) (fun τ hτ => ?_)
        refine bl_ret ?_
        refine th_ret ?_
        obtain rfl := Option.some.inj h
        exact lk_outS hτ rfl (here (by kernel_rfl))
       ·replace h := iteF hb h
        exact nomatch h
      ·replace h := iteF hb h
       exact nomatch h
     ·intro x
      rfl
     ·intro τ hτ
      refine bl_ret ?_
      refine th_ret ?_
      obtain rfl := Option.some.inj h
      exact rk_ret hτ [(4, (vB false))] (here (by kernel_rfl)) (by kernel_rfl)
theorem W.cut_gap_k_ok {s0 : Spot} {l : Segment} {r : Int} (h : cut_gap_k s0 l = some r) : PC G.P 58 [(.agg [(vI s0.X), (vI s0.Y)]), (.agg [(vI l.X1), (vI l.Y1), (vI l.X2), (vI l.Y2)])] [] (vI r) [] := by
 refine pc_of G (fn := Try.f58) Try.func58 (by kernel_rfl) (by kernel_rfl) (by kernel_rfl) (by kernel_rfl) (by kernel_rfl) ?_
 refine sem_set ⟨[(0, (.agg [(vI s0.X), (vI s0.Y)])), (1, (.agg [(vI l.X1), (vI l.Y1), (vI l.X2), (vI l.Y2)]))], []⟩ (by kernel_rfl) ?_
 refine z3 3 ⟨[(2, (.ptr 2 0)), (3, (.ptr 3 0))], [(2, .box [(vI s0.X), (vI s0.Y)]), (3, .box [(vI l.X1), (vI l.Y1), (vI l.X2), (vI l.Y2)])]⟩ (by kernel_rfl) ?_
 refine z8 22 ⟨[(4, (vI (imax (imax (imax (imax 0 (isub l.X1 s0.X)) (isub s0.X l.X2)) (isub l.Y1 s0.Y)) (isub s0.Y l.Y2))))], []⟩ (by kernel_rfl) (fun τ hτ => ?_)
 obtain rfl := Option.some.inj h
 exact rk_ret hτ [(4, (vI (imax (imax (imax (imax 0 (isub l.X1 s0.X)) (isub s0.X l.X2)) (isub l.Y1 s0.Y)) (isub s0.Y l.Y2))))] (here (by kernel_rfl)) (by kernel_rfl)
theorem W.cut_State_lead_k_ok {st : cut_State} {l : LayoutT} {all : (List EdgeT)} {x3 : ItemT} {r : Bool} (h : cut_State_lead_k st l all x3 = some r) : PC G.P 42 [(.agg [(.sl (List.map cB st.Cut)), (.sl (List.map (cS cB) st.Holes)), (.sl (List.map cB st.Done)), (.sl (List.map cI st.Joints)), (.sl (List.map cB st.Fallen))]), (.agg [(vS l.Sheet.Name), (vS l.Sheet.Material), (vI l.Sheet.Gauge), (vI l.Sheet.Grain), (vI l.Sheet.Width), (vI l.Sheet.Height), (.sl (List.map c_Rect l.Sheet.Clamps)), (.sl (List.map c_Rect l.Sheet.Used)), (.sl (List.map c_Piece l.Pieces))]), (.sl (List.map c_EdgeT all)), (.agg [(vI x3.Piece), (vI x3.Hole), (vI x3.Joints), (vI x3.Lead.X), (vI x3.Lead.Y)])] [] (vB r) [] := by
 refine pc_of G (fn := Try.f42) Try.func42 (by kernel_rfl) (by kernel_rfl) (by kernel_rfl) (by kernel_rfl) (by kernel_rfl) ?_
 refine sem_set ⟨[(0, (.agg [(.sl (List.map cB st.Cut)), (.sl (List.map (cS cB) st.Holes)), (.sl (List.map cB st.Done)), (.sl (List.map cI st.Joints)), (.sl (List.map cB st.Fallen))])), (1, (.agg [(vS l.Sheet.Name), (vS l.Sheet.Material), (vI l.Sheet.Gauge), (vI l.Sheet.Grain), (vI l.Sheet.Width), (vI l.Sheet.Height), (.sl (List.map c_Rect l.Sheet.Clamps)), (.sl (List.map c_Rect l.Sheet.Used)), (.sl (List.map c_Piece l.Pieces))])), (2, (.sl (List.map c_EdgeT all))), (3, (.agg [(vI x3.Piece), (vI x3.Hole), (vI x3.Joints), (vI x3.Lead.X), (vI x3.Lead.Y)]))], []⟩ (by kernel_rfl) ?_
 refine z3 4 ⟨[(2, (.sl (List.map c_EdgeT all))), (4, (.ptr 4 0)), (5, (.ptr 5 0)), (7, (.ptr 7 0))], [(4, .box [(.sl (List.map cB st.Cut)), (.sl (List.map (cS cB) st.Holes)), (.sl (List.map cB st.Done)), (.sl (List.map cI st.Joints)), (.sl (List.map cB st.Fallen))]), (5, .box [(vS l.Sheet.Name), (vS l.Sheet.Material), (vI l.Sheet.Gauge), (vI l.Sheet.Grain), (vI l.Sheet.Width), (vI l.Sheet.Height), (.sl (List.map c_Rect l.Sheet.Clamps)), (.sl (List.map c_Rect l.Sheet.Used)), (.sl (List.map c_Piece l.Pieces))]), (7, .box [(vI x3.Piece), (vI x3.Hole), (vI x3.Joints), (vI x3.Lead.X), (vI x3.Lead.Y)])]⟩ (by kernel_rfl) ?_
 refine z3 4 ⟨[(2, (.sl (List.map c_EdgeT all))), (4, (.ptr 4 0)), (5, (.ptr 5 0)), (7, (.ptr 7 0)), (9, (.ptr 9 0))], [(4, .box [(.sl (List.map cB st.Cut)), (.sl (List.map (cS cB) st.Holes)), (.sl (List.map cB st.Done)), (.sl (List.map cI st.Joints)), (.sl (List.map cB st.Fallen))]), (5, .box [(vS l.Sheet.Name), (vS l.Sheet.Material), (vI l.Sheet.Gauge), (vI l.Sheet.Grain), (vI l.Sheet.Width), (vI l.Sheet.Height), (.sl (List.map c_Rect l.Sheet.Clamps)), (.sl (List.map c_Rect l.Sheet.Used)), (.sl (List.map c_Piece l.Pieces))]), (7, .box [(vI x3.Piece), (vI x3.Hole), (vI x3.Joints), (vI x3.Lead.X), (vI x3.Lead.Y)]), (9, .box [(vI x3.Lead.X), (vI x3.Lead.Y)])]⟩ (by kernel_rfl) ?_
 refine sem_seq (by kernel_rfl) ?_
 refine z3 3 ⟨[(2, (.sl (List.map c_EdgeT all))), (4, (.ptr 4 0)), (5, (.ptr 5 0)), (7, (.ptr 7 0)), (9, (.ptr 9 0)), (19, (vB (decide (x3.Hole ≥ 0))))], [(4, .box [(.sl (List.map cB st.Cut)), (.sl (List.map (cS cB) st.Holes)), (.sl (List.map cB st.Done)), (.sl (List.map cI st.Joints)), (.sl (List.map cB st.Fallen))]), (5, .box [(vS l.Sheet.Name), (vS l.Sheet.Material), (vI l.Sheet.Gauge), (vI l.Sheet.Grain), (vI l.Sheet.Width), (vI l.Sheet.Height), (.sl (List.map c_Rect l.Sheet.Clamps)), (.sl (List.map c_Rect l.Sheet.Used)), (.sl (List.map c_Piece l.Pieces))]), (7, .box [(vI x3.Piece), (vI x3.Hole), (vI x3.Joints), (vI x3.Lead.X), (vI x3.Lead.Y)]), (9, .box [(vI x3.Lead.X), (vI x3.Lead.Y)])]⟩ (by kernel_rfl) ?_
 refine sem_cond (decide (x3.Hole ≥ 0)) (by kernel_rfl) (by kernel_rfl) (fun hb => ?_) (fun hb => ?_)
 ·replace h := iteT hb h
  exact nomatch h
 ·replace h := iteF hb h
  refine z4 ⟨[(2, (.sl (List.map c_EdgeT all))), (4, (.ptr 4 0)), (5, (.ptr 5 0)), (7, (.ptr 7 0)), (9, (.ptr 9 0))], [(4, .box [(.sl (List.map cB st.Cut)), (.sl (List.map (cS cB) st.Holes)), (.sl (List.map cB st.Done)), (.sl (List.map cI st.Joints)), (.sl (List.map cB st.Fallen))]), (5, .box [(vS l.Sheet.Name), (vS l.Sheet.Material), (vI l.Sheet.Gauge), (vI l.Sheet.Grain), (vI l.Sheet.Width), (vI l.Sheet.Height), (.sl (List.map c_Rect l.Sheet.Clamps)), (.sl (List.map c_Rect l.Sheet.Used)), (.sl (List.map c_Piece l.Pieces))]), (7, .box [(vI x3.Piece), (vI x3.Hole), (vI x3.Joints), (vI x3.Lead.X), (vI x3.Lead.Y)]), (9, .box [(vI x3.Lead.X), (vI x3.Lead.Y)])]⟩ (by kernel_rfl) ?_
  refine sem_seq (by kernel_rfl) ?_
  refine z7 (by kernel_rfl) ?_
  refine evs_run 4 (by kernel_rfl) ?_
  refine evs_split (decide (x3.Lead.X < 0)) (fun b0 => ⟨[(2, (.sl (List.map c_EdgeT all))), (4, (.ptr 4 0)), (5, (.ptr 5 0)), (7, (.ptr 7 0)), (9, (.ptr 9 0)), (66, (vB b0))], [(4, .box [(.sl (List.map cB st.Cut)), (.sl (List.map (cS cB) st.Holes)), (.sl (List.map cB st.Done)), (.sl (List.map cI st.Joints)), (.sl (List.map cB st.Fallen))]), (5, .box [(vS l.Sheet.Name), (vS l.Sheet.Material), (vI l.Sheet.Gauge), (vI l.Sheet.Grain), (vI l.Sheet.Width), (vI l.Sheet.Height), (.sl (List.map c_Rect l.Sheet.Clamps)), (.sl (List.map c_Rect l.Sheet.Used)), (.sl (List.map c_Piece l.Pieces))]), (7, .box [(vI x3.Piece), (vI x3.Hole), (vI x3.Joints), (vI x3.Lead.X), (vI x3.Lead.Y)]), (9, .box [(vI x3.Lead.X), (vI x3.Lead.Y)])]⟩) (by kernel_rfl) (fun hb => ?_) (fun hb => ?_)
  ·replace h := iteT hb h
   exact nomatch h
  ·replace h := iteF hb h
   refine evs_run 8 (by kernel_rfl) ?_
   refine evs_split (decide (x3.Lead.X > l.Sheet.Width)) (fun b0 => ⟨[(2, (.sl (List.map c_EdgeT all))), (4, (.ptr 4 0)), (5, (.ptr 5 0)), (7, (.ptr 7 0)), (9, (.ptr 9 0)), (74, (vB b0))], [(4, .box [(.sl (List.map cB st.Cut)), (.sl (List.map (cS cB) st.Holes)), (.sl (List.map cB st.Done)), (.sl (List.map cI st.Joints)), (.sl (List.map cB st.Fallen))]), (5, .box [(vS l.Sheet.Name), (vS l.Sheet.Material), (vI l.Sheet.Gauge), (vI l.Sheet.Grain), (vI l.Sheet.Width), (vI l.Sheet.Height), (.sl (List.map c_Rect l.Sheet.Clamps)), (.sl (List.map c_Rect l.Sheet.Used)), (.sl (List.map c_Piece l.Pieces))]), (7, .box [(vI x3.Piece), (vI x3.Hole), (vI x3.Joints), (vI x3.Lead.X), (vI x3.Lead.Y)]), (9, .box [(vI x3.Lead.X), (vI x3.Lead.Y)])]⟩) (by kernel_rfl) (fun hb => ?_) (fun hb => ?_)
   ·replace h := iteT hb h
    exact nomatch h
   ·replace h := iteF hb h
    refine evs_run 5 (by kernel_rfl) ?_
    refine evs_split (decide (x3.Lead.Y < 0)) (fun b0 => ⟨[(2, (.sl (List.map c_EdgeT all))), (4, (.ptr 4 0)), (5, (.ptr 5 0)), (7, (.ptr 7 0)), (9, (.ptr 9 0)), (79, (vB b0))], [(4, .box [(.sl (List.map cB st.Cut)), (.sl (List.map (cS cB) st.Holes)), (.sl (List.map cB st.Done)), (.sl (List.map cI st.Joints)), (.sl (List.map cB st.Fallen))]), (5, .box [(vS l.Sheet.Name), (vS l.Sheet.Material), (vI l.Sheet.Gauge), (vI l.Sheet.Grain), (vI l.Sheet.Width), (vI l.Sheet.Height), (.sl (List.map c_Rect l.Sheet.Clamps)), (.sl (List.map c_Rect l.Sheet.Used)), (.sl (List.map c_Piece l.Pieces))]), (7, .box [(vI x3.Piece), (vI x3.Hole), (vI x3.Joints), (vI x3.Lead.X), (vI x3.Lead.Y)]), (9, .box [(vI x3.Lead.X), (vI x3.Lead.Y)])]⟩) (by kernel_rfl) (fun hb => ?_) (fun hb => ?_)
    ·replace h := iteT hb h
     exact nomatch h
    ·replace h := iteF hb h
     refine evs_run 8 (by kernel_rfl) ?_
     refine evs_split (decide (x3.Lead.Y > l.Sheet.Height)) (fun b0 => ⟨[(2, (.sl (List.map c_EdgeT all))), (4, (.ptr 4 0)), (5, (.ptr 5 0)), (7, (.ptr 7 0)), (9, (.ptr 9 0)), (87, (vB b0))], [(4, .box [(.sl (List.map cB st.Cut)), (.sl (List.map (cS cB) st.Holes)), (.sl (List.map cB st.Done)), (.sl (List.map cI st.Joints)), (.sl (List.map cB st.Fallen))]), (5, .box [(vS l.Sheet.Name), (vS l.Sheet.Material), (vI l.Sheet.Gauge), (vI l.Sheet.Grain), (vI l.Sheet.Width), (vI l.Sheet.Height), (.sl (List.map c_Rect l.Sheet.Clamps)), (.sl (List.map c_Rect l.Sheet.Used)), (.sl (List.map c_Piece l.Pieces))]), (7, .box [(vI x3.Piece), (vI x3.Hole), (vI x3.Joints), (vI x3.Lead.X), (vI x3.Lead.Y)]), (9, .box [(vI x3.Lead.X), (vI x3.Lead.Y)])]⟩) (by kernel_rfl) (fun hb => ?_) (fun hb => ?_)
     ·replace h := iteT hb h
      exact nomatch h
     ·replace h := iteF hb h
      refine evs_run 4 (by kernel_rfl) ?_
      obtain ⟨r4, hr4, h⟩ := bindS h
      refine evs_callP [] (by kernel_rfl) (W.cut_InRegion_k_ok hr4) (by kernel_rfl) (.inl rfl) (by kernel_rfl) ?_
      refine z1 1 ⟨[(2, (.sl (List.map c_EdgeT all))), (4, (.ptr 4 0)), (5, (.ptr 5 0)), (7, (.ptr 7 0)), (9, (.ptr 9 0)), (93, (vB r4))], [(4, .box [(.sl (List.map cB st.Cut)), (.sl (List.map (cS cB) st.Holes)), (.sl (List.map cB st.Done)), (.sl (List.map cI st.Joints)), (.sl (List.map cB st.Fallen))]), (5, .box [(vS l.Sheet.Name), (vS l.Sheet.Material), (vI l.Sheet.Gauge), (vI l.Sheet.Grain), (vI l.Sheet.Width), (vI l.Sheet.Height), (.sl (List.map c_Rect l.Sheet.Clamps)), (.sl (List.map c_Rect l.Sheet.Used)), (.sl (List.map c_Piece l.Pieces))]), (7, .box [(vI x3.Piece), (vI x3.Hole), (vI x3.Joints), (vI x3.Lead.X), (vI x3.Lead.Y)]), (9, .box [(vI x3.Lead.X), (vI x3.Lead.Y)])]⟩ (by kernel_rfl) ?_
      refine sem_cond r4 (by kernel_rfl) (by kernel_rfl) (fun hb => ?_) (fun hb => ?_)
      ·replace h := iteT hb h
       exact nomatch h
      ·replace h := iteF hb h
       refine z4 ⟨[(2, (.sl (List.map c_EdgeT all))), (4, (.ptr 4 0)), (5, (.ptr 5 0)), (7, (.ptr 7 0)), (9, (.ptr 9 0))], [(4, .box [(.sl (List.map cB st.Cut)), (.sl (List.map (cS cB) st.Holes)), (.sl (List.map cB st.Done)), (.sl (List.map cI st.Joints)), (.sl (List.map cB st.Fallen))]), (5, .box [(vS l.Sheet.Name), (vS l.Sheet.Material), (vI l.Sheet.Gauge), (vI l.Sheet.Grain), (vI l.Sheet.Width), (vI l.Sheet.Height), (.sl (List.map c_Rect l.Sheet.Clamps)), (.sl (List.map c_Rect l.Sheet.Used)), (.sl (List.map c_Piece l.Pieces))]), (7, .box [(vI x3.Piece), (vI x3.Hole), (vI x3.Joints), (vI x3.Lead.X), (vI x3.Lead.Y)]), (9, .box [(vI x3.Lead.X), (vI x3.Lead.Y)])]⟩ (by kernel_rfl) ?_
       refine sem_seq (by kernel_rfl) ?_
       refine z7 (by kernel_rfl) ?_
       refine evs_run 2 (by kernel_rfl) ?_
       refine evs_op (st_len (c := c_Piece) (l := l.Pieces) (x := (.sl (List.map c_Piece l.Pieces))) (by kernel_rfl) (by kernel_rfl)) ?_
       refine z1 1 ⟨[(2, (.sl (List.map c_EdgeT all))), (4, (.ptr 4 0)), (7, (.ptr 7 0)), (9, (.ptr 9 0)), (95, (.sl (List.map c_Piece l.Pieces))), (96, (vI (l.Pieces.length : Int))), (97, (vI 0))], [(4, .box [(.sl (List.map cB st.Cut)), (.sl (List.map (cS cB) st.Holes)), (.sl (List.map cB st.Done)), (.sl (List.map cI st.Joints)), (.sl (List.map cB st.Fallen))]), (7, .box [(vI x3.Piece), (vI x3.Hole), (vI x3.Joints), (vI x3.Lead.X), (vI x3.Lead.Y)]), (9, .box [(vI x3.Lead.X), (vI x3.Lead.Y)])]⟩ (by kernel_rfl) ?_
       refine sem_block (by kernel_rfl) ?_
       obtain ⟨x58, hx58, h⟩ := bindS h
       refine sem_loopS (fun (s41 : Int) => ⟨[(2, (.sl (List.map c_EdgeT all))), (4, (.ptr 500000 0)), (7, (.ptr 500001 0)), (9, (.ptr 500002 0)), (95, (.sl (List.map c_Piece l.Pieces))), (96, (vI (l.Pieces.length : Int))), (97, (vI s41))], [(500000, .box [(.sl (List.map cB st.Cut)), (.sl (List.map (cS cB) st.Holes)), (.sl (List.map cB st.Done)), (.sl (List.map cI st.Joints)), (.sl (List.map cB st.Fallen))]), (500001, .box [(vI x3.Piece), (vI x3.Hole), (vI x3.Joints), (vI x3.Lead.X), (vI x3.Lead.Y)]), (500002, .box [(vI x3.Lead.X), (vI x3.Lead.Y)])]⟩) (fun (x58 : Unit) => (.exit 0, ⟨[(2, (.sl (List.map c_EdgeT all))), (4, (.ptr 500000 0)), (7, (.ptr 500001 0)), (9, (.ptr 500002 0))], [(500000, .box [(.sl (List.map cB st.Cut)), (.sl (List.map (cS cB) st.Holes)), (.sl (List.map cB st.Done)), (.sl (List.map cI st.Joints)), (.sl (List.map cB st.Fallen))]), (500001, .box [(vI x3.Piece), (vI x3.Hole), (vI x3.Joints), (vI x3.Lead.X), (vI x3.Lead.Y)]), (500002, .box [(vI x3.Lead.X), (vI x3.Lead.Y)])]⟩)) (cut_State_lead_k_l1 l x3) 0 x58 (by kernel_rfl) (subR_prep [] [(4, 500000), (7, 500001), (9, 500002)] (by kernel_rfl) rfl rfl (by kernel_rfl)) (iter_loop hx58) ?_ ?_ ?_
       ·intro s41 r h
        refine z3 1 ⟨[(2, (.sl (List.map c_EdgeT all))), (4, (.ptr 500000 0)), (7, (.ptr 500001 0)), (9, (.ptr 500002 0)), (95, (.sl (List.map c_Piece l.Pieces))), (96, (vI (l.Pieces.length : Int))), (97, (vI s41)), (98, (vB (decide (s41 < (l.Pieces.length : Int)))))], [(500000, .box [(.sl (List.map cB st.Cut)), (.sl (List.map (cS cB) st.Holes)), (.sl (List.map cB st.Done)), (.sl (List.map cI st.Joints)), (.sl (List.map cB st.Fallen))]), (500001, .box [(vI x3.Piece), (vI x3.Hole), (vI x3.Joints), (vI x3.Lead.X), (vI x3.Lead.Y)]), (500002, .box [(vI x3.Lead.X), (vI x3.Lead.Y)])]⟩ (by kernel_rfl) ?_
        refine sem_seq (by kernel_rfl) ?_
        refine sem_cond (decide (s41 < (l.Pieces.length : Int))) (by kernel_rfl) (by kernel_rfl) (fun hb => ?_) (fun hb => ?_)
        ·replace h := iteT hb h
         refine z4 ⟨[(2, (.sl (List.map c_EdgeT all))), (4, (.ptr 500000 0)), (7, (.ptr 500001 0)), (9, (.ptr 500002 0)), (95, (.sl (List.map c_Piece l.Pieces))), (96, (vI (l.Pieces.length : Int))), (97, (vI s41))], [(500000, .box [(.sl (List.map cB st.Cut)), (.sl (List.map (cS cB) st.Holes)), (.sl (List.map cB st.Done)), (.sl (List.map cI st.Joints)), (.sl (List.map cB st.Fallen))]), (500001, .box [(vI x3.Piece), (vI x3.Hole), (vI x3.Joints), (vI x3.Lead.X), (vI x3.Lead.Y)]), (500002, .box [(vI x3.Lead.X), (vI x3.Lead.Y)])]⟩ (by kernel_rfl) ?_
         refine sem_seq (by kernel_rfl) ?_
         refine sem_block (by kernel_rfl) ?_
         refine z7 (by kernel_rfl) ?_
         obtain ⟨x55, hx55, h⟩ := bindS h
         refine evs_op (st_idx (c := c_Piece) (l := l.Pieces) (i := s41) (kd := .i64) (sz := 7) (by kernel_rfl) hx55 rfl) ?_
         refine z1 3 ⟨[(2, (.sl (List.map c_EdgeT all))), (4, (.ptr 500000 0)), (7, (.ptr 500001 0)), (9, (.ptr 500002 0)), (12, (.ptr 12 0)), (95, (.sl (List.map c_Piece l.Pieces))), (96, (vI (l.Pieces.length : Int))), (97, (vI s41))], [(12, .box [(vS x55.Name), (vS x55.Material), (vI x55.Gauge), (vI x55.Grain), (.sl (List.map c_Rect x55.Rects)), (.sl (List.map c_Rect x55.Cuts)), (.sl (List.map c_Rect x55.Forms))]), (500000, .box [(.sl (List.map cB st.Cut)), (.sl (List.map (cS cB) st.Holes)), (.sl (List.map cB st.Done)), (.sl (List.map cI st.Joints)), (.sl (List.map cB st.Fallen))]), (500001, .box [(vI x3.Piece), (vI x3.Hole), (vI x3.Joints), (vI x3.Lead.X), (vI x3.Lead.Y)]), (500002, .box [(vI x3.Lead.X), (vI x3.Lead.Y)])]⟩ (by kernel_rfl) ?_
         refine z7 (by kernel_rfl) ?_
         refine evs_run 3 (by kernel_rfl) ?_
         obtain ⟨r57, hr57, h⟩ := bindS h
         refine evs_callP [] (by kernel_rfl) (W.cut_InRegion_k_ok hr57) (by kernel_rfl) (.inl rfl) (by kernel_rfl) ?_
         refine evs_endS (by kernel_rfl) (fun τ hτ => ?_)
         refine th_normalS hτ ⟨[(2, (.sl (List.map c_EdgeT all))), (4, (.ptr 500000 0)), (7, (.ptr 500001 0)), (9, (.ptr 500002 0)), (95, (.sl (List.map c_Piece l.Pieces))), (96, (vI (l.Pieces.length : Int))), (97, (vI s41)), (104, (vB r57))], [(500000, .box [(.sl (List.map cB st.Cut)), (.sl (List.map (cS cB) st.Holes)), (.sl (List.map cB st.Done)), (.sl (List.map cI st.Joints)), (.sl (List.map cB st.Fallen))]), (500001, .box [(vI x3.Piece), (vI x3.Hole), (vI x3.Joints), (vI x3.Lead.X), (vI x3.Lead.Y)]), (500002, .box [(vI x3.Lead.X), (vI x3.Lead.Y)])]⟩ (here (by kernel_rfl)) ?_
         refine sem_cond r57 (by kernel_rfl) (by kernel_rfl) (fun hb => ?_) (fun hb => ?_)
         ·replace h := iteT hb h
          exact nomatch h
         ·replace h := iteF hb h
          refine sem_skipS (by kernel_rfl) (fun τ hτ => ?_)
          refine bl_normal ?_
          refine th_normalS hτ ⟨[(2, (.sl (List.map c_EdgeT all))), (4, (.ptr 500000 0)), (7, (.ptr 500001 0)), (9, (.ptr 500002 0)), (95, (.sl (List.map c_Piece l.Pieces))), (96, (vI (l.Pieces.length : Int))), (97, (vI s41))], [(500000, .box [(.sl (List.map cB st.Cut)), (.sl (List.map (cS cB) st.Holes)), (.sl (List.map cB st.Done)), (.sl (List.map cI st.Joints)), (.sl (List.map cB st.Fallen))]), (500001, .box [(vI x3.Piece), (vI x3.Hole), (vI x3.Joints), (vI x3.Lead.X), (vI x3.Lead.Y)]), (500002, .box [(vI x3.Lead.X), (vI x3.Lead.Y)])]⟩ (here (by kernel_rfl)) ?_
          refine sem_region (by kernel_rfl) ?_
          refine z6 2 (by kernel_rfl) (fun τ hτ => ?_)
          obtain rfl := Option.some.inj h
          exact lk_nextS hτ (here (by kernel_rfl))
        ·replace h := iteF hb h
         refine sem_exitS 0 (by kernel_rfl) rfl (fun τ hτ => ?_)
         refine th_exit ?_
         obtain rfl := Option.some.inj h
         exact lk_outS hτ rfl (here (by kernel_rfl))
       ·intro x
        rfl
       ·intro τ hτ
        refine bl_hit (by kernel_rfl) ?_
        refine th_normalS hτ ⟨[(2, (.sl (List.map c_EdgeT all))), (4, (.ptr 500000 0)), (7, (.ptr 500001 0)), (9, (.ptr 500002 0))], [(500000, .box [(.sl (List.map cB st.Cut)), (.sl (List.map (cS cB) st.Holes)), (.sl (List.map cB st.Done)), (.sl (List.map cI st.Joints)), (.sl (List.map cB st.Fallen))]), (500001, .box [(vI x3.Piece), (vI x3.Hole), (vI x3.Joints), (vI x3.Lead.X), (vI x3.Lead.Y)]), (500002, .box [(vI x3.Lead.X), (vI x3.Lead.Y)])]⟩ (here (by kernel_rfl)) ?_
        refine sem_seq (by kernel_rfl) ?_
        refine z7 (by kernel_rfl) ?_
        refine evs_run 1 (by kernel_rfl) ?_
        refine evs_op (st_len (c := c_EdgeT) (l := all) (x := (.sl (List.map c_EdgeT all))) (by kernel_rfl) (by kernel_rfl)) ?_
        refine z1 1 ⟨[(4, (.ptr 500000 0)), (7, (.ptr 500001 0)), (9, (.ptr 500002 0)), (106, (.sl (List.map c_EdgeT all))), (107, (vI (all.length : Int))), (108, (vI 0))], [(500000, .box [(.sl (List.map cB st.Cut)), (.sl (List.map (cS cB) st.Holes)), (.sl (List.map cB st.Done)), (.sl (List.map cI st.Joints)), (.sl (List.map cB st.Fallen))]), (500001, .box [(vI x3.Piece), (vI x3.Hole), (vI x3.Joints), (vI x3.Lead.X), (vI x3.Lead.Y)]), (500002, .box [(vI x3.Lead.X), (vI x3.Lead.Y)])]⟩ (by kernel_rfl) ?_
        refine sem_block (by kernel_rfl) ?_
        obtain ⟨x172, hx172, h⟩ := bindS h
        refine sem_loopS (fun (s135 : Int) => ⟨[(4, (.ptr 500000 0)), (7, (.ptr 500001 0)), (9, (.ptr 500002 0)), (106, (.sl (List.map c_EdgeT all))), (107, (vI (all.length : Int))), (108, (vI s135))], [(500000, .box [(.sl (List.map cB st.Cut)), (.sl (List.map (cS cB) st.Holes)), (.sl (List.map cB st.Done)), (.sl (List.map cI st.Joints)), (.sl (List.map cB st.Fallen))]), (500001, .box [(vI x3.Piece), (vI x3.Hole), (vI x3.Joints), (vI x3.Lead.X), (vI x3.Lead.Y)]), (500002, .box [(vI x3.Lead.X), (vI x3.Lead.Y)])]⟩) (fun (x172 : Unit) => (.ret, ⟨[(8, (vB true))], []⟩)) (cut_State_lead_k_l2 st all x3) 0 x172 (by kernel_rfl) (here (by kernel_rfl)) (iter_loop hx172) ?_ ?_ ?_
        ·intro s135 r h
         refine z3 1 ⟨[(4, (.ptr 500000 0)), (7, (.ptr 500001 0)), (9, (.ptr 500002 0)), (106, (.sl (List.map c_EdgeT all))), (107, (vI (all.length : Int))), (108, (vI s135)), (109, (vB (decide (s135 < (all.length : Int)))))], [(500000, .box [(.sl (List.map cB st.Cut)), (.sl (List.map (cS cB) st.Holes)), (.sl (List.map cB st.Done)), (.sl (List.map cI st.Joints)), (.sl (List.map cB st.Fallen))]), (500001, .box [(vI x3.Piece), (vI x3.Hole), (vI x3.Joints), (vI x3.Lead.X), (vI x3.Lead.Y)]), (500002, .box [(vI x3.Lead.X), (vI x3.Lead.Y)])]⟩ (by kernel_rfl) ?_
         refine sem_seq (by kernel_rfl) ?_
         refine sem_cond (decide (s135 < (all.length : Int))) (by kernel_rfl) (by kernel_rfl) (fun hb => ?_) (fun hb => ?_)
         ·replace h := iteT hb h
          refine z4 ⟨[(4, (.ptr 500000 0)), (7, (.ptr 500001 0)), (9, (.ptr 500002 0)), (106, (.sl (List.map c_EdgeT all))), (107, (vI (all.length : Int))), (108, (vI s135))], [(500000, .box [(.sl (List.map cB st.Cut)), (.sl (List.map (cS cB) st.Holes)), (.sl (List.map cB st.Done)), (.sl (List.map cI st.Joints)), (.sl (List.map cB st.Fallen))]), (500001, .box [(vI x3.Piece), (vI x3.Hole), (vI x3.Joints), (vI x3.Lead.X), (vI x3.Lead.Y)]), (500002, .box [(vI x3.Lead.X), (vI x3.Lead.Y)])]⟩ (by kernel_rfl) ?_
          refine sem_seq (by kernel_rfl) ?_
          refine sem_block (by kernel_rfl) ?_
          refine z7 (by kernel_rfl) ?_
          refine evs_run 1 (by kernel_rfl) ?_
          obtain ⟨x164, hx164, h⟩ := bindS h
          refine evs_op (st_idx (c := c_EdgeT) (l := all) (i := s135) (kd := .i64) (sz := 6) (by kernel_rfl) hx164 rfl) ?_
          refine z1 4 ⟨[(4, (.ptr 500000 0)), (7, (.ptr 500001 0)), (9, (.ptr 500002 0)), (13, (vI s135)), (14, (.ptr 14 0)), (106, (.sl (List.map c_EdgeT all))), (107, (vI (all.length : Int))), (108, (vI s135))], [(14, .box [(vI x164.Line.X1), (vI x164.Line.Y1), (vI x164.Line.X2), (vI x164.Line.Y2), (vI x164.A), (vI x164.B)]), (500000, .box [(.sl (List.map cB st.Cut)), (.sl (List.map (cS cB) st.Holes)), (.sl (List.map cB st.Done)), (.sl (List.map cI st.Joints)), (.sl (List.map cB st.Fallen))]), (500001, .box [(vI x3.Piece), (vI x3.Hole), (vI x3.Joints), (vI x3.Lead.X), (vI x3.Lead.Y)]), (500002, .box [(vI x3.Lead.X), (vI x3.Lead.Y)])]⟩ (by kernel_rfl) ?_
          refine sem_seq (by kernel_rfl) ?_
          obtain ⟨j168, hj168, h⟩ := bindS h
          refine sem_regionC ⟨[(4, (.ptr 500000 0)), (7, (.ptr 500001 0)), (9, (.ptr 500002 0)), (106, (.sl (List.map c_EdgeT all))), (107, (vI (all.length : Int))), (108, (vI s135)), (131, (vB j168))], [(500000, .box [(.sl (List.map cB st.Cut)), (.sl (List.map (cS cB) st.Holes)), (.sl (List.map cB st.Done)), (.sl (List.map cI st.Joints)), (.sl (List.map cB st.Fallen))]), (500001, .box [(vI x3.Piece), (vI x3.Hole), (vI x3.Joints), (vI x3.Lead.X), (vI x3.Lead.Y)]), (500002, .box [(vI x3.Lead.X), (vI x3.Lead.Y)])]⟩ (by kernel_rfl) ?_ (fun τ hτ => ?_)
          ·replace h := hj168
           refine evs_run 3 (by kernel_rfl) ?_
           obtain ⟨r169, hr169, h⟩ := bindS h
           refine evs_callP [] (by kernel_rfl) (W.cut_of_k_ok hr169) (by kernel_rfl) (.inl rfl) (by kernel_rfl) ?_
           refine evs_run 1 (by kernel_rfl) ?_
           refine evs_split r169 (fun b0 => ⟨[(4, (.ptr 500000 0)), (7, (.ptr 500001 0)), (9, (.ptr 500002 0)), (13, (vI s135)), (14, (.ptr 14 0)), (106, (.sl (List.map c_EdgeT all))), (107, (vI (all.length : Int))), (108, (vI s135)), (117, (vB b0))], [(14, .box [(vI x164.Line.X1), (vI x164.Line.Y1), (vI x164.Line.X2), (vI x164.Line.Y2), (vI x164.A), (vI x164.B)]), (500000, .box [(.sl (List.map cB st.Cut)), (.sl (List.map (cS cB) st.Holes)), (.sl (List.map cB st.Done)), (.sl (List.map cI st.Joints)), (.sl (List.map cB st.Fallen))]), (500001, .box [(vI x3.Piece), (vI x3.Hole), (vI x3.Joints), (vI x3.Lead.X), (vI x3.Lead.Y)]), (500002, .box [(vI x3.Lead.X), (vI x3.Lead.Y)])]⟩) (by kernel_rfl) (fun hb => ?_) (fun hb => ?_)
           ·replace h := iteT hb h
            refine evs_run 3 (by kernel_rfl) ?_
            obtain ⟨x170, hx170, h⟩ := bindS h
            refine evs_op (st_idx (c := cB) (l := st.Cut) (i := s135) (kd := .i64) (sz := 1) (by kernel_rfl) hx170 rfl) ?_
            refine evs_run 4 (by kernel_rfl) ?_
            refine evs_split x170 (fun b0 => ⟨[(4, (.ptr 500000 0)), (7, (.ptr 500001 0)), (9, (.ptr 500002 0)), (14, (.ptr 14 0)), (106, (.sl (List.map c_EdgeT all))), (107, (vI (all.length : Int))), (108, (vI s135)), (118, (.ptr 500000 0)), (119, (.sl (List.map cB st.Cut))), (120, (vI s135)), (121, (.vptr [(vB b0)] 0)), (122, (vB b0)), (123, (vB (!b0))), (125, (vB (!b0)))], [(14, .box [(vI x164.Line.X1), (vI x164.Line.Y1), (vI x164.Line.X2), (vI x164.Line.Y2), (vI x164.A), (vI x164.B)]), (500000, .box [(.sl (List.map cB st.Cut)), (.sl (List.map (cS cB) st.Holes)), (.sl (List.map cB st.Done)), (.sl (List.map cI st.Joints)), (.sl (List.map cB st.Fallen))]), (500001, .box [(vI x3.Piece), (vI x3.Hole), (vI x3.Joints), (vI x3.Lead.X), (vI x3.Lead.Y)]), (500002, .box [(vI x3.Lead.X), (vI x3.Lead.Y)])]⟩) (by kernel_rfl) (fun hb => ?_) (fun hb => ?_)
            ·replace h := iteT hb h
             refine z6 6 (by kernel_rfl) (fun τ hτ => ?_)
             obtain rfl := Option.some.inj h
             exact leafC hτ (here (by kernel_rfl))
            ·replace h := iteF hb h
             refine evs_run 3 (by kernel_rfl) ?_
             obtain ⟨r171, hr171, h⟩ := bindS h
             refine evs_callP [] (by kernel_rfl) (W.cut_gap_k_ok hr171) (by kernel_rfl) (.inl rfl) (by kernel_rfl) ?_
             refine z6 2 (by kernel_rfl) (fun τ hτ => ?_)
             obtain rfl := Option.some.inj h
             exact leafC hτ (here (by kernel_rfl))
           ·replace h := iteF hb h
            refine z6 14 (by kernel_rfl) (fun τ hτ => ?_)
            obtain rfl := Option.some.inj h
            exact leafC hτ (here (by kernel_rfl))
          refine th_normalS hτ ⟨[(4, (.ptr 500000 0)), (7, (.ptr 500001 0)), (9, (.ptr 500002 0)), (106, (.sl (List.map c_EdgeT all))), (107, (vI (all.length : Int))), (108, (vI s135)), (131, (vB j168))], [(500000, .box [(.sl (List.map cB st.Cut)), (.sl (List.map (cS cB) st.Holes)), (.sl (List.map cB st.Done)), (.sl (List.map cI st.Joints)), (.sl (List.map cB st.Fallen))]), (500001, .box [(vI x3.Piece), (vI x3.Hole), (vI x3.Joints), (vI x3.Lead.X), (vI x3.Lead.Y)]), (500002, .box [(vI x3.Lead.X), (vI x3.Lead.Y)])]⟩ (here (by kernel_rfl)) ?_
          refine sem_cond j168 (by kernel_rfl) (by kernel_rfl) (fun hb => ?_) (fun hb => ?_)
          ·replace h := iteT hb h
           refine z8 1 ⟨[(8, (vB true))], []⟩ (by kernel_rfl) (fun τ hτ => ?_)
           refine bl_ret ?_
           refine th_ret ?_
           obtain rfl := Option.some.inj h
           exact lk_outS hτ rfl (here (by kernel_rfl))
          ·replace h := iteF hb h
           refine sem_skipS (by kernel_rfl) (fun τ hτ => ?_)
           refine bl_normal ?_
           refine th_normalS hτ ⟨[(4, (.ptr 500000 0)), (7, (.ptr 500001 0)), (9, (.ptr 500002 0)), (106, (.sl (List.map c_EdgeT all))), (107, (vI (all.length : Int))), (108, (vI s135))], [(500000, .box [(.sl (List.map cB st.Cut)), (.sl (List.map (cS cB) st.Holes)), (.sl (List.map cB st.Done)), (.sl (List.map cI st.Joints)), (.sl (List.map cB st.Fallen))]), (500001, .box [(vI x3.Piece), (vI x3.Hole), (vI x3.Joints), (vI x3.Lead.X), (vI x3.Lead.Y)]), (500002, .box [(vI x3.Lead.X), (vI x3.Lead.Y)])]⟩ (here (by kernel_rfl)) ?_
           refine sem_region (by kernel_rfl) ?_
           refine z6 2 (by kernel_rfl) (fun τ hτ => ?_)
           obtain rfl := Option.some.inj h
           exact lk_nextS hτ (here (by kernel_rfl))
         ·replace h := iteF hb h
          exact nomatch h
        ·intro x
         rfl
        ·intro τ hτ
         refine bl_ret ?_
         refine th_ret ?_
         obtain rfl := Option.some.inj h
         exact rk_ret hτ [(8, (vB true))] (here (by kernel_rfl)) (by kernel_rfl)
end Go.Proofs.Ytgfjbgoehhnaeaa
