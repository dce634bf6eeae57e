/- Each Go function does what its model says; written by a program out of the translation. -/
import Derived.Test.YtonmponhpfpokaaGreatRWV
import Derived.Test.YtonmponhpfpokaaGreatRNeMV
set_option linter.unusedVariables false
set_option linter.unusedSimpArgs false
set_option linter.unusedSectionVars false
namespace Go.Proofs.YtonmponhpfpokaaGreatR
open Go Go.VI Go.SM Go.Proofs
set_option maxRecDepth 100000
set_option maxHeartbeats 4000000
theorem W.flat_Quarter_k_ok {f : Flat} {turns : Int} {r : Flat × Int} (h : flat_Quarter_k f turns = some r) : PC G.P 99 [(.agg (c_Flat f)), (vI turns)] [] (.tup [(.agg [(.row (.top 1) 86), (.row (.top 2) 86), (.row (.top 3) 86), .nl]), (vI r.2)]) [(0, .box [(.row (.top 1) 86), (.row (.top 2) 86), (.row (.top 3) 86), .nl]), (1, .row 86 [] (List.map c_Rect r.1.Rects)), (2, .row 86 [] (List.map c_Rect r.1.Cuts)), (3, .row 86 [] (List.map c_Rect r.1.Forms))] := by
 refine pc_of G (fn := Tryz.f99) Tryz.func99 (by kernel_rfl) (by kernel_rfl) (by kernel_rfl) (by kernel_rfl) (by kernel_rfl) ?_
 refine sem_set ⟨[(0, (.agg (c_Flat f))), (1, (vI turns))], []⟩ (by kernel_rfl) ?_
 refine z3 3 ⟨[(1, (vI turns)), (2, (.ptr 2 0)), (4, (.ptr 4 0))], [(2, .box (c_Flat f)), (4, .box [.nl, .nl, .nl, .nl])]⟩ (by kernel_rfl) ?_
 refine sem_seq (by kernel_rfl) ?_
 refine z7 (by kernel_rfl) ?_
 refine evs_run 1 (by kernel_rfl) ?_
 obtain ⟨r4, hr4, h⟩ := bindS h
 refine evs_callP [] (by kernel_rfl) (W.flat_check_k_ok hr4) (by kernel_rfl) (.inl rfl) (by kernel_rfl) ?_
 refine z1 1 ⟨[(1, (vI turns)), (2, (.ptr 2 0)), (4, (.ptr 4 0)), (6, (vI r4))], [(2, .box (c_Flat f)), (4, .box [.nl, .nl, .nl, .nl])]⟩ (by kernel_rfl) ?_
 refine z7 (by kernel_rfl) ?_
 refine evs_run 3 (by kernel_rfl) ?_
 refine evs_split (r4 != 0) (fun b0 => ⟨[(1, (vI turns)), (2, (.ptr 2 0)), (4, (.ptr 4 0)), (15, (vB b0))], [(2, .box (c_Flat f)), (4, .box [.nl, .nl, .nl, .nl])]⟩) (by kernel_rfl) (fun hb => ?_) (fun hb => ?_)
 ·replace h := iteT hb h
  exact nomatch h
 ·replace h := iteF hb h
  refine evs_run 4 (by kernel_rfl) ?_
  refine evs_split (decide (turns < 0)) (fun b0 => ⟨[(1, (vI turns)), (2, (.ptr 2 0)), (4, (.ptr 4 0)), (19, (vB b0))], [(2, .box (c_Flat f)), (4, .box [.nl, .nl, .nl, .nl])]⟩) (by kernel_rfl) (fun hb => ?_) (fun hb => ?_)
  ·replace h := iteT hb h
   exact nomatch h
  ·replace h := iteF hb h
   refine z1 3 ⟨[(1, (vI turns)), (2, (.ptr 2 0)), (4, (.ptr 4 0)), (22, (vB (decide (turns > 3))))], [(2, .box (c_Flat f)), (4, .box [.nl, .nl, .nl, .nl])]⟩ (by kernel_rfl) ?_
   refine sem_cond (decide (turns > 3)) (by kernel_rfl) (by kernel_rfl) (fun hb => ?_) (fun hb => ?_)
   ·replace h := iteT hb h
    exact nomatch h
   ·replace h := iteF hb h
    refine z4 ⟨[(1, (vI turns)), (2, (.ptr 2 0)), (4, (.ptr 4 0))], [(2, .box (c_Flat f)), (4, .box [.nl, .nl, .nl, .nl])]⟩ (by kernel_rfl) ?_
    refine z3 3 ⟨[(1, (vI turns)), (2, (.ptr 2 0)), (4, (.ptr 4 0)), (7, (.ptr 7 0))], [(2, .box (c_Flat f)), (4, .box [.nl, .nl, .nl, .nl]), (7, .box (c_Flat f))]⟩ (by kernel_rfl) ?_
    refine sem_seq (by kernel_rfl) ?_
    refine z3 2 ⟨[(1, (vI turns)), (2, (.ptr 2 0)), (4, (.ptr 4 0)), (7, (.ptr 7 0)), (25, (vI turns)), (26, (vI 0))], [(2, .box (c_Flat f)), (4, .box [.nl, .nl, .nl, .nl]), (7, .box (c_Flat f))]⟩ (by kernel_rfl) ?_
    refine sem_block (by kernel_rfl) ?_
    obtain ⟨x34, hx34, h⟩ := bindS h
    refine sem_loopS (fun (s25 : Int × (List Rect) × (List Rect) × (List Rect) × (List BendLine)) => ⟨[(1, (vI turns)), (2, (.ptr 500000 0)), (4, (.ptr 500001 0)), (7, (.ptr 500002 0)), (25, (vI turns)), (26, (vI s25.1))], [(500000, .box (c_Flat f)), (500001, .box [.nl, .nl, .nl, .nl]), (500002, .box [(.sl (List.map c_Rect s25.2.1)), (.sl (List.map c_Rect s25.2.2.1)), (.sl (List.map c_Rect s25.2.2.2.1)), (.sl (List.map c_BendLine s25.2.2.2.2))])]⟩) (fun (x34 : (List Rect) × (List Rect) × (List Rect) × (List BendLine)) => (.exit 0, ⟨[(1, (vI turns)), (2, (.ptr 500000 0)), (4, (.ptr 500001 0)), (7, (.ptr 500002 0))], [(500000, .box (c_Flat f)), (500001, .box [.nl, .nl, .nl, .nl]), (500002, .box [(.sl (List.map c_Rect x34.1)), (.sl (List.map c_Rect x34.2.1)), (.sl (List.map c_Rect x34.2.2.1)), (.sl (List.map c_BendLine x34.2.2.2))])]⟩)) (flat_Quarter_k_l1 turns) (0, f.Rects, f.Cuts, f.Forms, f.Bends) x34 (by kernel_rfl) (subR_prep [] [(2, 500000), (4, 500001), (7, 500002)] (by kernel_rfl) rfl rfl (by kernel_rfl)) (iter_loop hx34) ?_ ?_ ?_
    ·intro s25 r h
     refine z3 1 ⟨[(1, (vI turns)), (2, (.ptr 500000 0)), (4, (.ptr 500001 0)), (7, (.ptr 500002 0)), (25, (vI turns)), (26, (vI s25.1)), (27, (vB (decide (s25.1 < turns))))], [(500000, .box (c_Flat f)), (500001, .box [.nl, .nl, .nl, .nl]), (500002, .box [(.sl (List.map c_Rect s25.2.1)), (.sl (List.map c_Rect s25.2.2.1)), (.sl (List.map c_Rect s25.2.2.2.1)), (.sl (List.map c_BendLine s25.2.2.2.2))])]⟩ (by kernel_rfl) ?_
     refine sem_seq (by kernel_rfl) ?_
     refine sem_cond (decide (s25.1 < turns)) (by kernel_rfl) (by kernel_rfl) (fun hb => ?_) (fun hb => ?_)
     ·replace h := iteT hb h
      refine z4 ⟨[(1, (vI turns)), (2, (.ptr 500000 0)), (4, (.ptr 500001 0)), (7, (.ptr 500002 0)), (25, (vI turns)), (26, (vI s25.1))], [(500000, .box (c_Flat f)), (500001, .box [.nl, .nl, .nl, .nl]), (500002, .box [(.sl (List.map c_Rect s25.2.1)), (.sl (List.map c_Rect s25.2.2.1)), (.sl (List.map c_Rect s25.2.2.2.1)), (.sl (List.map c_BendLine s25.2.2.2.2))])]⟩ (by kernel_rfl) ?_
      refine sem_seq (by kernel_rfl) ?_
      refine sem_block (by kernel_rfl) ?_
      refine sem_region (by kernel_rfl) ?_
      refine evs_run 1 (by kernel_rfl) ?_
      obtain ⟨r33, hr33, h⟩ := bindS h
      refine evs_callS [] [(0, 700050), (1, 700051), (2, 700052), (3, 700053)] [] (by kernel_rfl) (W.flat_quarter_k_ok hr33) (by kernel_rfl) (by kernel_rfl) (.inl rfl) ?_
      refine z6 1 (by kernel_rfl) (fun τ hτ => ?_)
      refine bl_normal ?_
      refine th_normalS hτ ⟨[(1, (vI turns)), (2, (.ptr 500000 0)), (4, (.ptr 500001 0)), (7, (.ptr 500002 0)), (25, (vI turns)), (26, (vI s25.1))], [(500000, .box (c_Flat f)), (500001, .box [.nl, .nl, .nl, .nl]), (500002, .box [(.row (.top 700051) 86), (.row (.top 700052) 86), (.row (.top 700053) 86), .nl]), (700051, .row 86 [] (List.map c_Rect r33.Rects)), (700052, .row 86 [] (List.map c_Rect r33.Cuts)), (700053, .row 86 [] (List.map c_Rect r33.Forms))]⟩ (here (by kernel_rfl)) ?_
      refine sem_region (by kernel_rfl) ?_
      refine z6 2 (by kernel_rfl) (fun τ hτ => ?_)
      obtain rfl := Option.some.inj h
      exact lk_nextS hτ (subR_prep [.frz 700051, .frz 700052, .frz 700053, .soft (.box 500002 3)] [(500000, 500000), (500001, 500001), (500002, 500002)] (by kernel_rfl) rfl rfl (by kernel_rfl))
     ·replace h := iteF hb h
      refine sem_exitS 0 (by kernel_rfl) rfl (fun τ hτ => ?_)
      refine th_exit ?_
      obtain rfl := Option.some.inj h
      exact lk_outS hτ rfl (here (by kernel_rfl))
    ·intro x
     rfl
    ·intro τ hτ
     refine bl_hit (by kernel_rfl) ?_
     refine th_normalS hτ ⟨[(1, (vI turns)), (2, (.ptr 500000 0)), (4, (.ptr 500001 0)), (7, (.ptr 500002 0))], [(500000, .box (c_Flat f)), (500001, .box [.nl, .nl, .nl, .nl]), (500002, .box [(.sl (List.map c_Rect x34.1)), (.sl (List.map c_Rect x34.2.1)), (.sl (List.map c_Rect x34.2.2.1)), (.sl (List.map c_BendLine x34.2.2.2))])]⟩ (here (by kernel_rfl)) ?_
     refine sem_seq (by kernel_rfl) ?_
     refine z7 (by kernel_rfl) ?_
     refine evs_run 2 (by kernel_rfl) ?_
     refine evs_op (st_len (c := c_BendLine) (l := f.Bends) (x := (.sl (List.map c_BendLine f.Bends))) (by kernel_rfl) (by kernel_rfl)) ?_
     refine z1 1 ⟨[(1, (vI turns)), (4, (.ptr 500001 0)), (7, (.ptr 500002 0)), (32, (.sl (List.map c_BendLine f.Bends))), (33, (vI (f.Bends.length : Int))), (34, (vI 0))], [(500001, .box [.nl, .nl, .nl, .nl]), (500002, .box [(.sl (List.map c_Rect x34.1)), (.sl (List.map c_Rect x34.2.1)), (.sl (List.map c_Rect x34.2.2.1)), (.sl (List.map c_BendLine x34.2.2.2))])]⟩ (by kernel_rfl) ?_
     refine sem_block (by kernel_rfl) ?_
     obtain ⟨x38, hx38, h⟩ := bindS h
     refine sem_loopS (fun (s37 : Unit) => ⟨[(1, (vI turns)), (4, (.ptr 500000 0)), (7, (.ptr 500001 0)), (32, (.sl (List.map c_BendLine f.Bends))), (33, (vI (f.Bends.length : Int))), (34, (vI 0))], [(500000, .box [.nl, .nl, .nl, .nl]), (500001, .box [(.sl (List.map c_Rect x34.1)), (.sl (List.map c_Rect x34.2.1)), (.sl (List.map c_Rect x34.2.2.1)), (.sl (List.map c_BendLine x34.2.2.2))])]⟩) (fun (x38 : Unit) => (.exit 2, ⟨[(4, (.ptr 500000 0)), (7, (.ptr 500001 0))], [(500000, .box [.nl, .nl, .nl, .nl]), (500001, .box [(.sl (List.map c_Rect x34.1)), (.sl (List.map c_Rect x34.2.1)), (.sl (List.map c_Rect x34.2.2.1)), (.sl (List.map c_BendLine x34.2.2.2))])]⟩)) (flat_Quarter_k_l2 f) () x38 (by kernel_rfl) (subR_prep [] [(500001, 500000), (500002, 500001)] (by kernel_rfl) rfl rfl (by kernel_rfl)) (iter_loop hx38) ?_ ?_ ?_
     ·intro s37 r h
      refine z3 1 ⟨[(1, (vI turns)), (4, (.ptr 500000 0)), (7, (.ptr 500001 0)), (32, (.sl (List.map c_BendLine f.Bends))), (33, (vI (f.Bends.length : Int))), (34, (vI 0)), (35, (vB (decide (0 < (f.Bends.length : Int)))))], [(500000, .box [.nl, .nl, .nl, .nl]), (500001, .box [(.sl (List.map c_Rect x34.1)), (.sl (List.map c_Rect x34.2.1)), (.sl (List.map c_Rect x34.2.2.1)), (.sl (List.map c_BendLine x34.2.2.2))])]⟩ (by kernel_rfl) ?_
      refine sem_seq (by kernel_rfl) ?_
      refine sem_cond (decide (0 < (f.Bends.length : Int))) (by kernel_rfl) (by kernel_rfl) (fun hb => ?_) (fun hb => ?_)
      ·replace h := iteT hb h
       exact nomatch h
      ·replace h := iteF hb h
       refine sem_exitS 2 (by kernel_rfl) rfl (fun τ hτ => ?_)
       refine th_exit ?_
       obtain rfl := Option.some.inj h
       exact lk_outS hτ rfl (here (by kernel_rfl))
     ·intro x
      rfl
     ·intro τ hτ
      refine bl_hit (by kernel_rfl) ?_
      refine th_normalS hτ ⟨[(4, (.ptr 500000 0)), (7, (.ptr 500001 0))], [(500000, .box [.nl, .nl, .nl, .nl]), (500001, .box [(.sl (List.map c_Rect x34.1)), (.sl (List.map c_Rect x34.2.1)), (.sl (List.map c_Rect x34.2.2.1)), (.sl (List.map c_BendLine x34.2.2.2))])]⟩ (here (by kernel_rfl)) ?_
      refine z7 (by kernel_rfl) ?_
      refine evs_run 1 (by kernel_rfl) ?_
      obtain ⟨r40, hr40, h⟩ := bindS h
      refine evs_callS [] [(0, 700050), (1, 700051), (2, 700052), (3, 700053)] [] (by kernel_rfl) (W.flat_settled_k_ok hr40) (by kernel_rfl) (by kernel_rfl) (.inl rfl) ?_
      refine z1 4 ⟨[(4, (.ptr 500000 0)), (5, (vI r40.2))], [(500000, .box [(.row (.top 700051) 86), (.row (.top 700052) 86), (.row (.top 700053) 86), .nl]), (700051, .row 86 [] (List.map c_Rect r40.1.Rects)), (700052, .row 86 [] (List.map c_Rect r40.1.Cuts)), (700053, .row 86 [] (List.map c_Rect r40.1.Forms))]⟩ (by kernel_rfl) ?_
      refine sem_retS (by kernel_rfl) (fun τ hτ => ?_)
      obtain rfl := Option.some.inj h
      exact rk_ret hτ [(4, (.ptr 0 0)), (5, (vI r40.2))] (subR_prep [] [(500000, 0), (700051, 1), (700052, 2), (700053, 3)] (by kernel_rfl) rfl rfl (by kernel_rfl)) (by kernel_rfl)
theorem W.nest_moved_k_ok {l : (List Rect)} {x1 : Int} {y : Int} {r : (List Rect)} (h : nest_moved_k l x1 y = some r) : PC G.P 87 [(.sl (List.map c_Rect l)), (vI x1), (vI y)] [] (.row (.top 0) 86) [(0, .row 86 [] (List.map c_Rect r))] := by
 refine pc_of G (fn := Tryz.f87) Tryz.func87 (by kernel_rfl) (by kernel_rfl) (by kernel_rfl) (by kernel_rfl) (by kernel_rfl) ?_
 refine sem_set ⟨[(0, (.sl (List.map c_Rect l))), (1, (vI x1)), (2, (vI y))], []⟩ (by kernel_rfl) ?_
 refine z3 1 ⟨[(0, (.sl (List.map c_Rect l))), (1, (vI x1)), (2, (vI y))], []⟩ (by kernel_rfl) ?_
 refine z7 (by kernel_rfl) ?_
 refine evs_run 1 (by kernel_rfl) ?_
 refine evs_op (st_len (c := c_Rect) (l := l) (x := (.sl (List.map c_Rect l))) (by kernel_rfl) (by kernel_rfl)) ?_
 obtain ⟨l2, hl2, h⟩ := bindS h
 refine evs_op (st_mk (c := c_Rect) (z := (Rect.mk 0 0 0 0)) (n := (l.length : Int)) (e := 86) (d := 11) (zs := [(vI 0), (vI 0), (vI 0), (vI 0)]) (k1 := .i64) (k2 := .i64) (by kernel_rfl) rfl hl2) ?_
 refine z1 1 ⟨[(0, (.sl (List.map c_Rect l))), (1, (vI x1)), (2, (vI y)), (7, (.row (.top 11) 86))], [(11, .row 86 [] (List.map c_Rect l2))]⟩ (by kernel_rfl) ?_
 refine z7 (by kernel_rfl) ?_
 refine evs_run 2 (by kernel_rfl) ?_
 refine evs_at (at_copy (c := c_Rect) (l := l2) (l2 := l) (d := (.row (.top 11) 86)) (x := (.sl (List.map c_Rect l))) (e := 86) (sz := 4) (g := 11) (lo := 0) (n := l2.length) (by kernel_rfl) (by kernel_rfl) (by kernel_rfl) (Nat.le_of_eq (Nat.zero_add _)) (by kernel_rfl) (by kernel_rfl) (fun _ => rfl)) ?_
 refine evs_endS (by kernel_rfl) (fun τ hτ => ?_)
 refine th_normalS hτ ⟨[(1, (vI x1)), (2, (vI y)), (7, (.row (.top 11) 86))], [(11, .row 86 [] (List.map c_Rect (cpy l2 (0) (List.take (min l.length (l2.length)) l))))]⟩ (here (by kernel_rfl)) ?_
 refine sem_seq (by kernel_rfl) ?_
 refine z7 (by kernel_rfl) ?_
 refine evs_run 1 (by kernel_rfl) ?_
 refine evs_op (st_len (c := c_Rect) (l := (cpy l2 (0) (List.take (min l.length (l2.length)) l))) (x := (.row (.top 11) 86)) (by kernel_rfl) (by kernel_rfl)) ?_
 refine z1 1 ⟨[(1, (vI x1)), (2, (vI y)), (7, (.row (.top 11) 86)), (16, (vI ((cpy l2 (0) (List.take (min l.length (l2.length)) l)).length : Int))), (17, (vI 0))], [(11, .row 86 [] (List.map c_Rect (cpy l2 (0) (List.take (min l.length (l2.length)) l))))]⟩ (by kernel_rfl) ?_
 refine sem_block (by kernel_rfl) ?_
 obtain ⟨x104, hx104, h⟩ := bindS h
 refine sem_loopS (fun (s71 : Int × (List Rect)) => ⟨[(1, (vI x1)), (2, (vI y)), (7, (.row (.top 500000) 86)), (16, (vI ((cpy l2 (0) (List.take (min l.length (l2.length)) l)).length : Int))), (17, (vI s71.1))], [(500000, .row 86 [] (List.map c_Rect s71.2))]⟩) (fun (x104 : (List Rect)) => (.exit 0, ⟨[(7, (.row (.top 500000) 86))], [(500000, .row 86 [] (List.map c_Rect x104))]⟩)) (nest_moved_k_l1 l x1 y l2) (0, (cpy l2 (0) (List.take (min l.length (l2.length)) l))) x104 (by kernel_rfl) (subR_prep [] [(11, 500000)] (by kernel_rfl) rfl rfl (by kernel_rfl)) (iter_loop hx104) ?_ ?_ ?_
 ·intro s71 r h
  refine z3 1 ⟨[(1, (vI x1)), (2, (vI y)), (7, (.row (.top 500000) 86)), (16, (vI ((cpy l2 (0) (List.take (min l.length (l2.length)) l)).length : Int))), (17, (vI s71.1)), (18, (vB (decide (s71.1 < ((cpy l2 (0) (List.take (min l.length (l2.length)) l)).length : Int)))))], [(500000, .row 86 [] (List.map c_Rect s71.2))]⟩ (by kernel_rfl) ?_
  refine sem_seq (by kernel_rfl) ?_
  refine sem_cond (decide (s71.1 < ((cpy l2 (0) (List.take (min l.length (l2.length)) l)).length : Int))) (by kernel_rfl) (by kernel_rfl) (fun hb => ?_) (fun hb => ?_)
  ·replace h := iteT hb h
   refine z4 ⟨[(1, (vI x1)), (2, (vI y)), (7, (.row (.top 500000) 86)), (16, (vI ((cpy l2 (0) (List.take (min l.length (l2.length)) l)).length : Int))), (17, (vI s71.1))], [(500000, .row 86 [] (List.map c_Rect s71.2))]⟩ (by kernel_rfl) ?_
   refine sem_seq (by kernel_rfl) ?_
   refine sem_block (by kernel_rfl) ?_
   refine z3 2 ⟨[(1, (vI x1)), (2, (vI y)), (7, (.row (.top 500000) 86)), (8, (vI s71.1)), (16, (vI ((cpy l2 (0) (List.take (min l.length (l2.length)) l)).length : Int))), (17, (vI s71.1))], [(500000, .row 86 [] (List.map c_Rect s71.2))]⟩ (by kernel_rfl) ?_
   refine z7 (by kernel_rfl) ?_
   refine evs_run 2 (by kernel_rfl) ?_
   obtain ⟨x98, hx98, h⟩ := bindS h
   refine evs_op (st_idxO (c := c_Rect) (l := s71.2) (i := s71.1) (kd := .i64) (kk := (.top 500000)) (e := 86) (sz := 4) (by kernel_rfl) (by kernel_rfl) hx98 rfl) ?_
   refine evs_run 1 (by kernel_rfl) ?_
   refine evs_op (st_ldO (c := c_Rect) (l := s71.2) (i := (Int.toNat s71.1)) (v := (vI x98.X)) (agg := false) (sz := 1) (kk := (.top 500000)) (e := 86) (off := 0) (J := []) (by kernel_rfl) (by kernel_rfl) (by kernel_rfl) ((idxS hx98).2) (by kernel_rfl)) ?_
   refine evs_run 2 (by kernel_rfl) ?_
   obtain ⟨x99, hx99, h⟩ := bindS h
   refine evs_op (st_idxO (c := c_Rect) (l := s71.2) (i := s71.1) (kd := .i64) (kk := (.top 500000)) (e := 86) (sz := 4) (by kernel_rfl) (by kernel_rfl) hx99 rfl) ?_
   refine evs_run 1 (by kernel_rfl) ?_
   refine evs_op (st_stO (c := c_Rect) (l := s71.2) (i := (Int.toNat s71.1)) (x := x99) (x' := (Rect.mk (iadd x98.X x1) x99.Y x99.W x99.H)) (v := (vI (iadd x98.X x1))) (agg := false) (sz := 1) (kk := (.top 500000)) (e := 86) (off := 0) (J := []) (o := .row 86 [] (List.map c_Rect (List.set s71.2 (Int.toNat s71.1) (Rect.mk (iadd x98.X x1) x99.Y x99.W x99.H)))) (by kernel_rfl) (by kernel_rfl) (by kernel_rfl) ((idxS hx99).2) (by kernel_rfl) (by kernel_rfl) (by kernel_rfl)) ?_
   refine evs_endS (by kernel_rfl) (fun τ hτ => ?_)
   refine th_normalS hτ ⟨[(1, (vI x1)), (2, (vI y)), (7, (.row (.top 500000) 86)), (8, (vI s71.1)), (16, (vI ((cpy l2 (0) (List.take (min l.length (l2.length)) l)).length : Int))), (17, (vI s71.1))], [(500000, .row 86 [] (List.map c_Rect (List.set s71.2 (Int.toNat s71.1) (Rect.mk (iadd x98.X x1) x99.Y x99.W x99.H))))]⟩ (here (by kernel_rfl)) ?_
   refine sem_region (by kernel_rfl) ?_
   refine evs_run 2 (by kernel_rfl) ?_
   obtain ⟨x102, hx102, h⟩ := bindS h
   refine evs_op (st_idxO (c := c_Rect) (l := (List.set s71.2 (Int.toNat s71.1) (Rect.mk (iadd x98.X x1) x99.Y x99.W x99.H))) (i := s71.1) (kd := .i64) (kk := (.top 500000)) (e := 86) (sz := 4) (by kernel_rfl) (by kernel_rfl) hx102 rfl) ?_
   refine evs_run 1 (by kernel_rfl) ?_
   refine evs_op (st_ldO (c := c_Rect) (l := (List.set s71.2 (Int.toNat s71.1) (Rect.mk (iadd x98.X x1) x99.Y x99.W x99.H))) (i := (Int.toNat s71.1)) (v := (vI x102.Y)) (agg := false) (sz := 1) (kk := (.top 500000)) (e := 86) (off := 1) (J := []) (by kernel_rfl) (by kernel_rfl) (by kernel_rfl) ((idxS hx102).2) (by kernel_rfl)) ?_
   refine evs_run 2 (by kernel_rfl) ?_
   obtain ⟨x103, hx103, h⟩ := bindS h
   refine evs_op (st_idxO (c := c_Rect) (l := (List.set s71.2 (Int.toNat s71.1) (Rect.mk (iadd x98.X x1) x99.Y x99.W x99.H))) (i := s71.1) (kd := .i64) (kk := (.top 500000)) (e := 86) (sz := 4) (by kernel_rfl) (by kernel_rfl) hx103 rfl) ?_
   refine evs_run 1 (by kernel_rfl) ?_
   refine evs_op (st_stO (c := c_Rect) (l := (List.set s71.2 (Int.toNat s71.1) (Rect.mk (iadd x98.X x1) x99.Y x99.W x99.H))) (i := (Int.toNat s71.1)) (x := x103) (x' := (Rect.mk x103.X (iadd x102.Y y) x103.W x103.H)) (v := (vI (iadd x102.Y y))) (agg := false) (sz := 1) (kk := (.top 500000)) (e := 86) (off := 1) (J := []) (o := .row 86 [] (List.map c_Rect (List.set (List.set s71.2 (Int.toNat s71.1) (Rect.mk (iadd x98.X x1) x99.Y x99.W x99.H)) (Int.toNat s71.1) (Rect.mk x103.X (iadd x102.Y y) x103.W x103.H)))) (by kernel_rfl) (by kernel_rfl) (by kernel_rfl) ((idxS hx103).2) (by kernel_rfl) (by kernel_rfl) (by kernel_rfl)) ?_
   refine evs_endS (by kernel_rfl) (fun τ hτ => ?_)
   refine bl_normal ?_
   refine th_normalS hτ ⟨[(1, (vI x1)), (2, (vI y)), (7, (.row (.top 500000) 86)), (16, (vI ((cpy l2 (0) (List.take (min l.length (l2.length)) l)).length : Int))), (17, (vI s71.1))], [(500000, .row 86 [] (List.map c_Rect (List.set (List.set s71.2 (Int.toNat s71.1) (Rect.mk (iadd x98.X x1) x99.Y x99.W x99.H)) (Int.toNat s71.1) (Rect.mk x103.X (iadd x102.Y y) x103.W x103.H))))]⟩ (here (by kernel_rfl)) ?_
   refine sem_region (by kernel_rfl) ?_
   refine z6 2 (by kernel_rfl) (fun τ hτ => ?_)
   obtain rfl := Option.some.inj h
   exact lk_nextS hτ (here (by kernel_rfl))
  ·replace h := iteF hb h
   refine sem_exitS 0 (by kernel_rfl) rfl (fun τ hτ => ?_)
   refine th_exit ?_
   obtain rfl := Option.some.inj h
   exact lk_outS hτ rfl (here (by kernel_rfl))
 ·intro x
  rfl
 ·intro τ hτ
  refine bl_hit (by kernel_rfl) ?_
  refine th_normalS hτ ⟨[(7, (.row (.top 500000) 86))], [(500000, .row 86 [] (List.map c_Rect x104))]⟩ (here (by kernel_rfl)) ?_
  refine z8 2 ⟨[(6, (.row (.top 500000) 86))], [(500000, .row 86 [] (List.map c_Rect x104))]⟩ (by kernel_rfl) (fun τ hτ => ?_)
  obtain rfl := Option.some.inj h
  exact rk_ret hτ [(6, (.row (.top 0) 86))] (subR_prep [] [(500000, 0)] (by kernel_rfl) rfl rfl (by kernel_rfl)) (by kernel_rfl)
theorem W.nest_put_k_ok {x0 : Piece} {at1 : Placement} {r : Piece × Int} (h : nest_put_k x0 at1 = some r) : PC G.P 68 [(.agg (c_Piece x0)), (.agg (c_Placement at1))] [] (.tup [(.agg [(vS r.1.Name), (vS r.1.Material), (vI r.1.Gauge), (vI r.1.Grain), (.row (.top 1) 86), (.row (.top 2) 86), (.row (.top 3) 86)]), (vI r.2)]) [(0, .box [(vS x0.Name), (vS x0.Material), (vI x0.Gauge), (vI x0.Grain), (.row (.top 1) 86), (.row (.top 2) 86), (.row (.top 3) 86)]), (1, .row 86 [] (List.map c_Rect r.1.Rects)), (2, .row 86 [] (List.map c_Rect r.1.Cuts)), (3, .row 86 [] (List.map c_Rect r.1.Forms))] := by
 refine pc_of G (fn := Tryz.f68) Tryz.func68 (by kernel_rfl) (by kernel_rfl) (by kernel_rfl) (by kernel_rfl) (by kernel_rfl) ?_
 refine sem_set ⟨[(0, (.agg (c_Piece x0))), (1, (.agg (c_Placement at1)))], []⟩ (by kernel_rfl) ?_
 refine z3 4 ⟨[(2, (.ptr 2 0)), (3, (.ptr 3 0)), (4, (.ptr 4 0))], [(2, .box (c_Piece x0)), (3, .box (c_Placement at1)), (4, .box [(vS ByteArray.empty), (vS ByteArray.empty), (vI 0), (vI 0), .nl, .nl, .nl])]⟩ (by kernel_rfl) ?_
 refine z7 (by kernel_rfl) ?_
 refine evs_run 9 (by kernel_rfl) ?_
 obtain ⟨r2, hr2, h⟩ := bindS h
 refine evs_callS [] [(0, 700450), (1, 700451), (2, 700452), (3, 700453)] [] (by kernel_rfl) (W.flat_Quarter_k_ok hr2) (by kernel_rfl) (by kernel_rfl) (.inl rfl) ?_
 refine z1 6 ⟨[(2, (.ptr 2 0)), (3, (.ptr 3 0)), (4, (.ptr 4 0)), (6, (.ptr 6 0)), (7, (vI r2.2))], [(2, .box (c_Piece x0)), (3, .box (c_Placement at1)), (4, .box [(vS ByteArray.empty), (vS ByteArray.empty), (vI 0), (vI 0), .nl, .nl, .nl]), (6, .box [(.row (.top 700451) 86), (.row (.top 700452) 86), (.row (.top 700453) 86), .nl]), (700451, .row 86 [] (List.map c_Rect r2.1.Rects)), (700452, .row 86 [] (List.map c_Rect r2.1.Cuts)), (700453, .row 86 [] (List.map c_Rect r2.1.Forms))]⟩ (by kernel_rfl) ?_
 refine sem_seq (by kernel_rfl) ?_
 refine z3 2 ⟨[(2, (.ptr 2 0)), (3, (.ptr 3 0)), (4, (.ptr 4 0)), (6, (.ptr 6 0)), (23, (vB (r2.2 != 0)))], [(2, .box (c_Piece x0)), (3, .box (c_Placement at1)), (4, .box [(vS ByteArray.empty), (vS ByteArray.empty), (vI 0), (vI 0), .nl, .nl, .nl]), (6, .box [(.row (.top 700451) 86), (.row (.top 700452) 86), (.row (.top 700453) 86), .nl]), (700451, .row 86 [] (List.map c_Rect r2.1.Rects)), (700452, .row 86 [] (List.map c_Rect r2.1.Cuts)), (700453, .row 86 [] (List.map c_Rect r2.1.Forms))]⟩ (by kernel_rfl) ?_
 refine sem_cond (r2.2 != 0) (by kernel_rfl) (by kernel_rfl) (fun hb => ?_) (fun hb => ?_)
 ·replace h := iteT hb h
  exact nomatch h
 ·replace h := iteF hb h
  refine z4 ⟨[(2, (.ptr 2 0)), (3, (.ptr 3 0)), (4, (.ptr 4 0)), (6, (.ptr 6 0))], [(2, .box (c_Piece x0)), (3, .box (c_Placement at1)), (4, .box [(vS ByteArray.empty), (vS ByteArray.empty), (vI 0), (vI 0), .nl, .nl, .nl]), (6, .box [(.row (.top 700451) 86), (.row (.top 700452) 86), (.row (.top 700453) 86), .nl]), (700451, .row 86 [] (List.map c_Rect r2.1.Rects)), (700452, .row 86 [] (List.map c_Rect r2.1.Cuts)), (700453, .row 86 [] (List.map c_Rect r2.1.Forms))]⟩ (by kernel_rfl) ?_
  refine z3 3 ⟨[(3, (.ptr 3 0)), (4, (.ptr 4 0)), (6, (.ptr 6 0)), (8, (.ptr 8 0))], [(3, .box (c_Placement at1)), (4, .box [(vS ByteArray.empty), (vS ByteArray.empty), (vI 0), (vI 0), .nl, .nl, .nl]), (6, .box [(.row (.top 700451) 86), (.row (.top 700452) 86), (.row (.top 700453) 86), .nl]), (8, .box (c_Piece x0)), (700451, .row 86 [] (List.map c_Rect r2.1.Rects)), (700452, .row 86 [] (List.map c_Rect r2.1.Cuts)), (700453, .row 86 [] (List.map c_Rect r2.1.Forms))]⟩ (by kernel_rfl) ?_
  refine sem_seq (by kernel_rfl) ?_
  refine sem_draw [(6, [700300]), (13, [700650]), (20, [701000])] [(6, [700300]), (13, [700650]), (20, [701000])] [(6, [700451]), (13, [700452]), (20, [700453])] [(7, [700300]), (8, [700300]), (9, [700300]), (10, [700300]), (11, [700300]), (12, [700300]), (14, [700300, 700650]), (15, [700300, 700650]), (16, [700300, 700650]), (17, [700300, 700650]), (18, [700300, 700650]), (19, [700300, 700650]), (21, [700650, 701000])] [(0, [700300, 700650, 701000]), (1, [700300, 700650, 701000]), (2, [700300, 700650, 701000]), (3, [700300, 700650, 701000]), (4, [700300, 700650, 701000]), (5, [700300, 700650, 701000]), (6, [700650, 701000]), (7, [700300, 700650, 701000]), (8, [700300, 700650, 701000]), (9, [700300, 700650, 701000]), (10, [700300, 700650, 701000]), (11, [700300, 700650, 701000]), (12, [700300, 700650, 701000]), (13, [701000]), (14, [700300, 700650, 701000]), (15, [700300, 700650, 701000]), (16, [700300, 700650, 701000]), (17, [700300, 700650, 701000]), (18, [700300, 700650, 701000]), (19, [700300, 700650, 701000]), (21, [700650, 701000])] 22 (by kernel_rfl) (by kernel_rfl) [700300, 700650, 701000] (by kernel_rfl) (by kernel_rfl) ?_
  refine evd_run 6 (by kernel_rfl) ?_
  obtain ⟨r9, hr9, h⟩ := bindS h
  refine evd_callS [(0, 700300)] [700451] (by kernel_rfl) (by kernel_rfl) (W.nest_moved_k_ok hr9) (by kernel_rfl) (.inr ⟨rfl, fun _ _ => ind_cons (ind_row fun _ => rfl) (fun _ _ => ind_nil)⟩) (by kernel_rfl) (by kernel_rfl) ?_
  refine evd_run 6 (by kernel_rfl) ?_
  obtain ⟨r10, hr10, h⟩ := bindS h
  refine evd_callS [(0, 700650)] [700452] (by kernel_rfl) (by kernel_rfl) (W.nest_moved_k_ok hr10) (by kernel_rfl) (.inr ⟨rfl, fun _ _ => ind_cons (ind_row fun _ => rfl) (fun _ _ => ind_nil)⟩) (by kernel_rfl) (by kernel_rfl) ?_
  refine evd_run 6 (by kernel_rfl) ?_
  obtain ⟨r11, hr11, h⟩ := bindS h
  refine evd_callS [(0, 701000)] [700453] (by kernel_rfl) (by kernel_rfl) (W.nest_moved_k_ok hr11) (by kernel_rfl) (.inr ⟨rfl, fun _ _ => ind_cons (ind_row fun _ => rfl) (fun _ _ => ind_nil)⟩) (by kernel_rfl) (by kernel_rfl) ?_
  refine evd_run 1 (by kernel_rfl) ?_
  refine evd_end (by kernel_rfl) ?_
  refine evo_run 5 (by kernel_rfl) ?_
  refine evo_endS (by kernel_rfl) (fun τ hτ => ?_)
  refine th_normalS hτ ⟨[(4, (.ptr 4 0)), (8, (.ptr 8 0))], [(4, .box [(vS ByteArray.empty), (vS ByteArray.empty), (vI 0), (vI 0), .nl, .nl, .nl]), (8, .box [(vS x0.Name), (vS x0.Material), (vI x0.Gauge), (vI x0.Grain), (.row (.top 700300) 86), (.row (.top 700650) 86), (.row (.top 701000) 86)]), (700300, .row 86 [] (List.map c_Rect r9)), (700650, .row 86 [] (List.map c_Rect r10)), (701000, .row 86 [] (List.map c_Rect r11))]⟩ (here (by kernel_rfl)) ?_
  refine sem_seq (by kernel_rfl) ?_
  refine z7 (by kernel_rfl) ?_
  refine evs_run 2 (by kernel_rfl) ?_
  obtain ⟨r21, hr21, h⟩ := bindS h
  refine evs_callP [700300] (by kernel_rfl) (W.nest_valid_k_ok hr21) (by kernel_rfl) (.inr rfl) (by kernel_rfl) ?_
  refine evs_run 2 (by kernel_rfl) ?_
  refine evs_split r21 (fun b0 => ⟨[(4, (.ptr 4 0)), (8, (.ptr 8 0)), (54, (vB (!b0)))], [(4, .box [(vS ByteArray.empty), (vS ByteArray.empty), (vI 0), (vI 0), .nl, .nl, .nl]), (8, .box [(vS x0.Name), (vS x0.Material), (vI x0.Gauge), (vI x0.Grain), (.row (.top 700300) 86), (.row (.top 700650) 86), (.row (.top 701000) 86)]), (700300, .row 86 [] (List.map c_Rect r9)), (700650, .row 86 [] (List.map c_Rect r10)), (701000, .row 86 [] (List.map c_Rect r11))]⟩) (by kernel_rfl) (fun hb => ?_) (fun hb => ?_)
  ·replace h := iteT hb h
   refine evs_run 2 (by kernel_rfl) ?_
   obtain ⟨r22, hr22, h⟩ := bindS h
   refine evs_callP [700650] (by kernel_rfl) (W.nest_valid_k_ok hr22) (by kernel_rfl) (.inr rfl) (by kernel_rfl) ?_
   refine evs_run 3 (by kernel_rfl) ?_
   refine evs_split r22 (fun b0 => ⟨[(4, (.ptr 4 0)), (8, (.ptr 8 0)), (60, (vB (!b0)))], [(4, .box [(vS ByteArray.empty), (vS ByteArray.empty), (vI 0), (vI 0), .nl, .nl, .nl]), (8, .box [(vS x0.Name), (vS x0.Material), (vI x0.Gauge), (vI x0.Grain), (.row (.top 700300) 86), (.row (.top 700650) 86), (.row (.top 701000) 86)]), (700300, .row 86 [] (List.map c_Rect r9)), (700650, .row 86 [] (List.map c_Rect r10)), (701000, .row 86 [] (List.map c_Rect r11))]⟩) (by kernel_rfl) (fun hb => ?_) (fun hb => ?_)
   ·replace h := iteT hb h
    refine evs_run 2 (by kernel_rfl) ?_
    obtain ⟨r23, hr23, h⟩ := bindS h
    refine evs_callP [701000] (by kernel_rfl) (W.nest_valid_k_ok hr23) (by kernel_rfl) (.inr rfl) (by kernel_rfl) ?_
    refine z1 2 ⟨[(4, (.ptr 4 0)), (8, (.ptr 8 0)), (65, (vB (!r23)))], [(4, .box [(vS ByteArray.empty), (vS ByteArray.empty), (vI 0), (vI 0), .nl, .nl, .nl]), (8, .box [(vS x0.Name), (vS x0.Material), (vI x0.Gauge), (vI x0.Grain), (.row (.top 700300) 86), (.row (.top 700650) 86), (.row (.top 701000) 86)]), (700300, .row 86 [] (List.map c_Rect r9)), (700650, .row 86 [] (List.map c_Rect r10)), (701000, .row 86 [] (List.map c_Rect r11))]⟩ (by kernel_rfl) ?_
    refine sem_cond (!r23) (by kernel_rfl) (by kernel_rfl) (fun hb => ?_) (fun hb => ?_)
    ·replace h := iteT hb h
     exact nomatch h
    ·replace h := iteF hb h
     refine z4 ⟨[(4, (.ptr 4 0)), (8, (.ptr 8 0))], [(4, .box [(vS ByteArray.empty), (vS ByteArray.empty), (vI 0), (vI 0), .nl, .nl, .nl]), (8, .box [(vS x0.Name), (vS x0.Material), (vI x0.Gauge), (vI x0.Grain), (.row (.top 700300) 86), (.row (.top 700650) 86), (.row (.top 701000) 86)]), (700300, .row 86 [] (List.map c_Rect r9)), (700650, .row 86 [] (List.map c_Rect r10)), (701000, .row 86 [] (List.map c_Rect r11))]⟩ (by kernel_rfl) ?_
     refine z8 3 ⟨[(4, (.ptr 4 0)), (5, (vI 0))], [(4, .box [(vS x0.Name), (vS x0.Material), (vI x0.Gauge), (vI x0.Grain), (.row (.top 700300) 86), (.row (.top 700650) 86), (.row (.top 701000) 86)]), (700300, .row 86 [] (List.map c_Rect r9)), (700650, .row 86 [] (List.map c_Rect r10)), (701000, .row 86 [] (List.map c_Rect r11))]⟩ (by kernel_rfl) (fun τ hτ => ?_)
     obtain rfl := Option.some.inj h
     exact rk_ret hτ [(4, (.ptr 0 0)), (5, (vI 0))] (subR_prep [] [(4, 0), (700300, 1), (700650, 2), (701000, 3)] (by kernel_rfl) rfl rfl (by kernel_rfl)) (by kernel_rfl)
   ·replace h := iteF hb h
    exact nomatch h
  ·replace h := iteF hb h
   exact nomatch h
theorem W.bits_Len64_k_ok {x0 : Int} {r : Int} (h : bits_Len64_k x0 = some r) : PC G.P 174 [(vK .u64 x0)] [] (vI r) [] := by
 refine pc_of G (fn := Tryz.f174) Tryz.func174 (by kernel_rfl) (by kernel_rfl) (by kernel_rfl) (by kernel_rfl) (by kernel_rfl) ?_
 refine sem_set ⟨[(0, (vK .u64 x0))], []⟩ (by kernel_rfl) ?_
 refine z3 1 ⟨[(0, (vK .u64 x0)), (2, (vI 0))], []⟩ (by kernel_rfl) ?_
 refine sem_seq (by kernel_rfl) ?_
 refine z3 2 ⟨[(0, (vK .u64 x0)), (2, (vI 0)), (4, (vB (decide (x0 ≥ 4294967296))))], []⟩ (by kernel_rfl) ?_
 refine sem_cond (decide (x0 ≥ 4294967296)) (by kernel_rfl) (by kernel_rfl) (fun hb => ?_) (fun hb => ?_)
 ·replace h := iteT hb h
  exact nomatch h
 ·replace h := iteF hb h
  refine z4 ⟨[(0, (vK .u64 x0)), (2, (vI 0))], []⟩ (by kernel_rfl) ?_
  refine sem_seq (by kernel_rfl) ?_
  refine z3 2 ⟨[(0, (vK .u64 x0)), (2, (vI 0)), (8, (vB (decide (x0 ≥ 65536))))], []⟩ (by kernel_rfl) ?_
  refine sem_cond (decide (x0 ≥ 65536)) (by kernel_rfl) (by kernel_rfl) (fun hb => ?_) (fun hb => ?_)
  ·replace h := iteT hb h
   exact nomatch h
  ·replace h := iteF hb h
   refine z4 ⟨[(0, (vK .u64 x0)), (2, (vI 0))], []⟩ (by kernel_rfl) ?_
   refine sem_seq (by kernel_rfl) ?_
   refine z3 2 ⟨[(0, (vK .u64 x0)), (2, (vI 0)), (14, (vB (decide (x0 ≥ 256))))], []⟩ (by kernel_rfl) ?_
   refine sem_cond (decide (x0 ≥ 256)) (by kernel_rfl) (by kernel_rfl) (fun hb => ?_) (fun hb => ?_)
   ·replace h := iteT hb h
    exact nomatch h
   ·replace h := iteF hb h
    refine z4 ⟨[(0, (vK .u64 x0)), (2, (vI 0))], []⟩ (by kernel_rfl) ?_
    refine z7 (by kernel_rfl) ?_
    refine evs_run 3 (by kernel_rfl) ?_
    obtain ⟨x2, hx2, h⟩ := bindS h
    refine evs_at (at_sidx (s := (ByteArray.mk #[0, 1, 2, 2, 3, 3, 3, 3, 4, 4, 4, 4, 4, 4, 4, 4, 5, 5, 5, 5, 5, 5, 5, 5, 5, 5, 5, 5, 5, 5, 5, 5, 6, 6, 6, 6, 6, 6, 6, 6, 6, 6, 6, 6, 6, 6, 6, 6, 6, 6, 6, 6, 6, 6, 6, 6, 6, 6, 6, 6, 6, 6, 6, 6, 7, 7, 7, 7, 7, 7, 7, 7, 7, 7, 7, 7, 7, 7, 7, 7, 7, 7, 7, 7, 7, 7, 7, 7, 7, 7, 7, 7, 7, 7, 7, 7, 7, 7, 7, 7, 7, 7, 7, 7, 7, 7, 7, 7, 7, 7, 7, 7, 7, 7, 7, 7, 7, 7, 7, 7, 7, 7, 7, 7, 7, 7, 7, 7, 8, 8, 8, 8, 8, 8, 8, 8, 8, 8, 8, 8, 8, 8, 8, 8, 8, 8, 8, 8, 8, 8, 8, 8, 8, 8, 8, 8, 8, 8, 8, 8, 8, 8, 8, 8, 8, 8, 8, 8, 8, 8, 8, 8, 8, 8, 8, 8, 8, 8, 8, 8, 8, 8, 8, 8, 8, 8, 8, 8, 8, 8, 8, 8, 8, 8, 8, 8, 8, 8, 8, 8, 8, 8, 8, 8, 8, 8, 8, 8, 8, 8, 8, 8, 8, 8, 8, 8, 8, 8, 8, 8, 8, 8, 8, 8, 8, 8, 8, 8, 8, 8, 8, 8, 8, 8, 8, 8, 8, 8, 8, 8, 8, 8, 8, 8, 8, 8, 8, 8, 8, 8, 8, 8, 8, 8, 8, 8])) (i := (IntKind.wrap .u8 x0)) (kd := .u8) (by kernel_rfl) hx2) ?_
    refine z1 3 ⟨[(2, (vI (iadd 0 (IntKind.wrap .i64 x2))))], []⟩ (by kernel_rfl) ?_
    refine sem_retS (by kernel_rfl) (fun τ hτ => ?_)
    obtain rfl := Option.some.inj h
    exact rk_ret hτ [(2, (vI (iadd 0 (IntKind.wrap .i64 x2))))] (here (by kernel_rfl)) (by kernel_rfl)
theorem W.bits_Len_k_ok {x0 : Int} {r : Int} (h : bits_Len_k x0 = some r) : PC G.P 152 [(vK .u64 x0)] [] (vI r) [] := by
 refine pc_of G (fn := Tryz.f152) Tryz.func152 (by kernel_rfl) (by kernel_rfl) (by kernel_rfl) (by kernel_rfl) (by kernel_rfl) ?_
 refine sem_set ⟨[(0, (vK .u64 x0))], []⟩ (by kernel_rfl) ?_
 refine z3 1 ⟨[(0, (vK .u64 x0))], []⟩ (by kernel_rfl) ?_
 refine sem_seq (by kernel_rfl) ?_
 refine sem_condF (by kernel_rfl) (by kernel_rfl) ?_
 refine z4 ⟨[(0, (vK .u64 x0))], []⟩ (by kernel_rfl) ?_
 refine z7 (by kernel_rfl) ?_
 refine evs_run 1 (by kernel_rfl) ?_
 obtain ⟨r2, hr2, h⟩ := bindS h
 refine evs_callP [] (by kernel_rfl) (W.bits_Len64_k_ok hr2) (by kernel_rfl) (.inl rfl) (by kernel_rfl) ?_
 refine z1 1 ⟨[(2, (vI r2))], []⟩ (by kernel_rfl) ?_
 refine sem_retS (by kernel_rfl) (fun τ hτ => ?_)
 obtain rfl := Option.some.inj h
 exact rk_ret hτ [(2, (vI r2))] (here (by kernel_rfl)) (by kernel_rfl)
theorem W.cmp_isNaN_int_k_ok {x0 : Int} {r : Bool} (h : cmp_isNaN_int_k x0 = some r) : PC G.P 142 [(vI x0)] [] (vB r) [] := by
 refine pc_of G (fn := Tryz.f142) Tryz.func142 (by kernel_rfl) (by kernel_rfl) (by kernel_rfl) (by kernel_rfl) (by kernel_rfl) ?_
 refine sem_set ⟨[(0, (vI x0))], []⟩ (by kernel_rfl) ?_
 refine z3 1 ⟨[(0, (vI x0))], []⟩ (by kernel_rfl) ?_
 refine z8 4 ⟨[(2, (vB (x0 != x0)))], []⟩ (by kernel_rfl) (fun τ hτ => ?_)
 obtain rfl := Option.some.inj h
 exact rk_ret hτ [(2, (vB (x0 != x0)))] (here (by kernel_rfl)) (by kernel_rfl)
theorem W.cmp_Less_int_k_ok {x0 : Int} {y : Int} {r : Bool} (h : cmp_Less_int_k x0 y = some r) : PC G.P 170 [(vI x0), (vI y)] [] (vB r) [] := by
 refine pc_of G (fn := Tryz.f170) Tryz.func170 (by kernel_rfl) (by kernel_rfl) (by kernel_rfl) (by kernel_rfl) (by kernel_rfl) ?_
 refine sem_set ⟨[(0, (vI x0)), (1, (vI y))], []⟩ (by kernel_rfl) ?_
 refine z3 1 ⟨[(0, (vI x0)), (1, (vI y))], []⟩ (by kernel_rfl) ?_
 refine z7 (by kernel_rfl) ?_
 refine evs_run 1 (by kernel_rfl) ?_
 obtain ⟨r2, hr2, h⟩ := bindS h
 refine evs_callP [] (by kernel_rfl) (W.cmp_isNaN_int_k_ok hr2) (by kernel_rfl) (.inl rfl) (by kernel_rfl) ?_
 refine evs_run 1 (by kernel_rfl) ?_
 refine evs_split r2 (fun b0 => ⟨[(0, (vI x0)), (1, (vI y)), (7, (vB b0))], []⟩) (by kernel_rfl) (fun hb => ?_) (fun hb => ?_)
 ·replace h := iteT hb h
  exact nomatch h
 ·replace h := iteF hb h
  refine z1 10 ⟨[(4, (vB (decide (x0 < y))))], []⟩ (by kernel_rfl) ?_
  refine sem_retS (by kernel_rfl) (fun τ hτ => ?_)
  obtain rfl := Option.some.inj h
  exact rk_ret hτ [(4, (vB (decide (x0 < y))))] (here (by kernel_rfl)) (by kernel_rfl)
theorem W.slices_insertionSortOrdered_int_k_ok {a : Int} {b : Int} {h0 : (List Int)} {r : (List Int)} (h : slices_insertionSortOrdered_int_k a b h0 = some r) : PC G.P 164 [(.row (.top 1000000) 3), (vI a), (vI b)] [(1000000, .row 3 [] (List.map cI h0))] (.tup []) [(1000000, .row 3 [] (List.map cI r))] := by
 refine pc_of G (fn := Tryz.f164) Tryz.func164 (by kernel_rfl) (by kernel_rfl) (by kernel_rfl) (by kernel_rfl) (by kernel_rfl) ?_
 refine sem_set ⟨[(0, (.row (.top 1000000) 3)), (1, (vI a)), (2, (vI b))], [(1000000, .row 3 [] (List.map cI h0))]⟩ (by kernel_rfl) ?_
 refine z3 3 ⟨[(0, (.row (.top 1000000) 3)), (1, (vI a)), (2, (vI b)), (6, (vI (iadd a 1)))], [(1000000, .row 3 [] (List.map cI h0))]⟩ (by kernel_rfl) ?_
 refine sem_block (by kernel_rfl) ?_
 obtain ⟨x813, hx813, h⟩ := bindS h
 refine sem_loopS (fun (s272 : Int × (List Int)) => ⟨[(0, (.row (.top 1000000) 3)), (1, (vI a)), (2, (vI b)), (6, (vI s272.1))], [(1000000, .row 3 [] (List.map cI s272.2))]⟩) (fun (x813 : (List Int)) => (.exit 0, ⟨[], [(1000000, .row 3 [] (List.map cI x813))]⟩)) (slices_insertionSortOrdered_int_k_l2 a b) ((iadd a 1), h0) x813 (by kernel_rfl) (here (by kernel_rfl)) (iter_loop hx813) ?_ ?_ ?_
 ·intro s272 r h
  refine sem_seq (by kernel_rfl) ?_
  refine z3 3 ⟨[(0, (.row (.top 1000000) 3)), (1, (vI a)), (2, (vI b)), (6, (vI s272.1)), (12, (vB (decide (s272.1 < b))))], [(1000000, .row 3 [] (List.map cI s272.2))]⟩ (by kernel_rfl) ?_
  refine sem_cond (decide (s272.1 < b)) (by kernel_rfl) (by kernel_rfl) (fun hb => ?_) (fun hb => ?_)
  ·replace h := iteT hb h
   refine z4 ⟨[(0, (.row (.top 1000000) 3)), (1, (vI a)), (2, (vI b)), (6, (vI s272.1))], [(1000000, .row 3 [] (List.map cI s272.2))]⟩ (by kernel_rfl) ?_
   refine sem_seq (by kernel_rfl) ?_
   refine sem_block (by kernel_rfl) ?_
   refine z3 2 ⟨[(0, (.row (.top 1000000) 3)), (1, (vI a)), (2, (vI b)), (6, (vI s272.1)), (7, (vI s272.1))], [(1000000, .row 3 [] (List.map cI s272.2))]⟩ (by kernel_rfl) ?_
   refine sem_block (by kernel_rfl) ?_
   obtain ⟨x812, hx812, h⟩ := bindS h
   refine sem_loopS (fun (s723 : Int × (List Int)) => ⟨[(0, (.row (.top 1000000) 3)), (1, (vI a)), (2, (vI b)), (6, (vI s272.1)), (7, (vI s723.1))], [(1000000, .row 3 [] (List.map cI s723.2))]⟩) (fun (x812 : (List Int)) => (.exit 2, ⟨[(0, (.row (.top 1000000) 3)), (1, (vI a)), (2, (vI b)), (6, (vI s272.1))], [(1000000, .row 3 [] (List.map cI x812))]⟩)) (slices_insertionSortOrdered_int_k_l1 a) (s272.1, s272.2) x812 (by kernel_rfl) (here (by kernel_rfl)) (iter_loop hx812) ?_ ?_ ?_
   ·intro s723 r h
    refine sem_seq (by kernel_rfl) ?_
    refine sem_seq (by kernel_rfl) ?_
    obtain ⟨j784, hj784, h⟩ := bindS h
    refine sem_drawP ⟨[(0, (.row (.top 1000000) 3)), (1, (vI a)), (2, (vI b)), (6, (vI s272.1)), (7, (vI s723.1)), (30, (vB j784))], [(1000000, .row 3 [] (List.map cI s723.2))]⟩ [] [] [] [] [] 13 (by kernel_rfl) (by kernel_rfl) (by kernel_rfl) ?_ (fun τ hτ => ?_)
    ·replace h := hj784
     refine evd_run 4 (by kernel_rfl) ?_
     refine evd_split (decide (s723.1 > a)) (fun b0 => ⟨[(19, (vB b0)), (18, (vB b0)), (17, (vI a)), (16, (vI s723.1)), (0, (.row (.top 1000000) 3)), (1, (vI a)), (2, (vI b)), (6, (vI s272.1)), (7, (vI s723.1))], [(1000000, .row 3 [] (List.map cI s723.2))]⟩) (by kernel_rfl) (fun hb => ?_) (fun hb => ?_)
     ·replace h := iteT hb h
      refine evd_run 2 (by kernel_rfl) ?_
      obtain ⟨x785, hx785, h⟩ := bindS h
      refine evd_val (by kernel_rfl) (st_idxO (c := cI) (l := s723.2) (i := s723.1) (kd := .i64) (kk := (.top 1000000)) (e := 3) (sz := 1) (by kernel_rfl) (by kernel_rfl) hx785 rfl) (by kernel_rfl) (by kernel_rfl) ?_
      refine evd_val (by kernel_rfl) (st_ldO (c := cI) (l := s723.2) (i := (Int.toNat s723.1)) (v := (vI x785)) (agg := false) (sz := 1) (kk := (.top 1000000)) (e := 3) (off := 0) (J := []) (by kernel_rfl) (by kernel_rfl) (by kernel_rfl) ((idxS hx785).2) (by kernel_rfl)) (by kernel_rfl) (by kernel_rfl) ?_
      refine evd_run 3 (by kernel_rfl) ?_
      obtain ⟨x786, hx786, h⟩ := bindS h
      refine evd_val (by kernel_rfl) (st_idxO (c := cI) (l := s723.2) (i := (isub s723.1 1)) (kd := .i64) (kk := (.top 1000000)) (e := 3) (sz := 1) (by kernel_rfl) (by kernel_rfl) hx786 rfl) (by kernel_rfl) (by kernel_rfl) ?_
      refine evd_val (by kernel_rfl) (st_ldO (c := cI) (l := s723.2) (i := (Int.toNat (isub s723.1 1))) (v := (vI x786)) (agg := false) (sz := 1) (kk := (.top 1000000)) (e := 3) (off := 0) (J := []) (by kernel_rfl) (by kernel_rfl) (by kernel_rfl) ((idxS hx786).2) (by kernel_rfl)) (by kernel_rfl) (by kernel_rfl) ?_
      refine evd_end (by kernel_rfl) ?_
      obtain ⟨r787, hr787, h⟩ := bindS h
      refine evo_callP [] (by kernel_rfl) (W.cmp_Less_int_k_ok hr787) (by kernel_rfl) (.inl rfl) (by kernel_rfl) ?_
      refine evo_run 1 (by kernel_rfl) ?_
      refine evo_endS (by kernel_rfl) (fun τ hτ => ?_)
      obtain rfl := Option.some.inj h
      exact leafC hτ (here (by kernel_rfl))
     ·replace h := iteF hb h
      refine evd_run 9 (by kernel_rfl) ?_
      refine evd_end (by kernel_rfl) ?_
      refine evo_run 2 (by kernel_rfl) ?_
      refine evo_endS (by kernel_rfl) (fun τ hτ => ?_)
      obtain rfl := Option.some.inj h
      exact leafC hτ (here (by kernel_rfl))
    refine th_normalS hτ ⟨[(0, (.row (.top 1000000) 3)), (1, (vI a)), (2, (vI b)), (6, (vI s272.1)), (7, (vI s723.1)), (30, (vB j784))], [(1000000, .row 3 [] (List.map cI s723.2))]⟩ (here (by kernel_rfl)) ?_
    refine sem_cond j784 (by kernel_rfl) (by kernel_rfl) (fun hb => ?_) (fun hb => ?_)
    ·replace h := iteT hb h
     refine z4 ⟨[(0, (.row (.top 1000000) 3)), (1, (vI a)), (2, (vI b)), (6, (vI s272.1)), (7, (vI s723.1))], [(1000000, .row 3 [] (List.map cI s723.2))]⟩ (by kernel_rfl) ?_
     refine sem_seq (by kernel_rfl) ?_
     refine sem_block (by kernel_rfl) ?_
     refine sem_drawN [(15, [1000000])] [] [] [(2, [1000000]), (3, [1000000]), (4, [1000000])] [] 16 (by kernel_rfl) (by kernel_rfl) (by kernel_rfl) ?_
     refine evd_run 8 (by kernel_rfl) ?_
     obtain ⟨x808, hx808, h⟩ := bindS h
     refine evd_val (by kernel_rfl) (st_idxO (c := cI) (l := s723.2) (i := (isub s723.1 1)) (kd := .i64) (kk := (.top 1000000)) (e := 3) (sz := 1) (by kernel_rfl) (by kernel_rfl) hx808 rfl) (by kernel_rfl) (by kernel_rfl) ?_
     refine evd_val (by kernel_rfl) (st_ldO (c := cI) (l := s723.2) (i := (Int.toNat (isub s723.1 1))) (v := (vI x808)) (agg := false) (sz := 1) (kk := (.top 1000000)) (e := 3) (off := 0) (J := []) (by kernel_rfl) (by kernel_rfl) (by kernel_rfl) ((idxS hx808).2) (by kernel_rfl)) (by kernel_rfl) (by kernel_rfl) ?_
     refine evd_run 2 (by kernel_rfl) ?_
     obtain ⟨x809, hx809, h⟩ := bindS h
     refine evd_val (by kernel_rfl) (st_idxO (c := cI) (l := s723.2) (i := s723.1) (kd := .i64) (kk := (.top 1000000)) (e := 3) (sz := 1) (by kernel_rfl) (by kernel_rfl) hx809 rfl) (by kernel_rfl) (by kernel_rfl) ?_
     refine evd_val (by kernel_rfl) (st_ldO (c := cI) (l := s723.2) (i := (Int.toNat s723.1)) (v := (vI x809)) (agg := false) (sz := 1) (kk := (.top 1000000)) (e := 3) (off := 0) (J := []) (by kernel_rfl) (by kernel_rfl) (by kernel_rfl) ((idxS hx809).2) (by kernel_rfl)) (by kernel_rfl) (by kernel_rfl) ?_
     obtain ⟨x810, hx810, h⟩ := bindS h
     refine evd_val (by kernel_rfl) (st_idxO (c := cI) (l := s723.2) (i := s723.1) (kd := .i64) (kk := (.top 1000000)) (e := 3) (sz := 1) (by kernel_rfl) (by kernel_rfl) hx810 rfl) (by kernel_rfl) (by kernel_rfl) ?_
     refine evd_set (by kernel_rfl) (st_stO (c := cI) (l := s723.2) (i := (Int.toNat s723.1)) (x := x810) (x' := x808) (v := (vI x808)) (agg := false) (sz := 1) (kk := (.top 1000000)) (e := 3) (off := 0) (J := []) (o := .row 3 [] (List.map cI (List.set s723.2 (Int.toNat s723.1) x808))) (by kernel_rfl) (by kernel_rfl) (by kernel_rfl) ((idxS hx810).2) (by kernel_rfl) (by kernel_rfl) (by kernel_rfl)) (by kernel_rfl) (by kernel_rfl) (by kernel_rfl) ?_
     refine evd_end (by kernel_rfl) ?_
     obtain ⟨x811, hx811, h⟩ := bindS h
     refine evo_op (st_idxO (c := cI) (l := (List.set s723.2 (Int.toNat s723.1) x808)) (i := (isub s723.1 1)) (kd := .i64) (kk := (.top 1000000)) (e := 3) (sz := 1) (by kernel_rfl) (by kernel_rfl) hx811 rfl) ?_
     refine evo_op (st_stO (c := cI) (l := (List.set s723.2 (Int.toNat s723.1) x808)) (i := (Int.toNat (isub s723.1 1))) (x := x811) (x' := x809) (v := (vI x809)) (agg := false) (sz := 1) (kk := (.top 1000000)) (e := 3) (off := 0) (J := []) (o := .row 3 [] (List.map cI (List.set (List.set s723.2 (Int.toNat s723.1) x808) (Int.toNat (isub s723.1 1)) x809))) (by kernel_rfl) (by kernel_rfl) (by kernel_rfl) ((idxS hx811).2) (by kernel_rfl) (by kernel_rfl) (by kernel_rfl)) ?_
     refine evo_endS (by kernel_rfl) (fun τ hτ => ?_)
     refine bl_normal ?_
     refine th_normalS hτ ⟨[(0, (.row (.top 1000000) 3)), (1, (vI a)), (2, (vI b)), (6, (vI s272.1)), (7, (vI s723.1))], [(1000000, .row 3 [] (List.map cI (List.set (List.set s723.2 (Int.toNat s723.1) x808) (Int.toNat (isub s723.1 1)) x809)))]⟩ (here (by kernel_rfl)) ?_
     refine sem_region (by kernel_rfl) ?_
     refine z6 3 (by kernel_rfl) (fun τ hτ => ?_)
     obtain rfl := Option.some.inj h
     exact lk_nextS hτ (here (by kernel_rfl))
    ·replace h := iteF hb h
     refine sem_exitS 2 (by kernel_rfl) rfl (fun τ hτ => ?_)
     refine th_exit ?_
     obtain rfl := Option.some.inj h
     exact lk_outS hτ rfl (here (by kernel_rfl))
   ·intro x
    rfl
   ·intro τ hτ
    refine bl_hit (by kernel_rfl) ?_
    refine bl_normal ?_
    refine th_normalS hτ ⟨[(0, (.row (.top 1000000) 3)), (1, (vI a)), (2, (vI b)), (6, (vI s272.1))], [(1000000, .row 3 [] (List.map cI x812))]⟩ (here (by kernel_rfl)) ?_
    refine sem_region (by kernel_rfl) ?_
    refine z6 3 (by kernel_rfl) (fun τ hτ => ?_)
    obtain rfl := Option.some.inj h
    exact lk_nextS hτ (here (by kernel_rfl))
  ·replace h := iteF hb h
   refine sem_exitS 0 (by kernel_rfl) rfl (fun τ hτ => ?_)
   refine th_exit ?_
   obtain rfl := Option.some.inj h
   exact lk_outS hτ rfl (here (by kernel_rfl))
 ·intro x
  rfl
 ·intro τ hτ
  refine bl_hit (by kernel_rfl) ?_
  obtain rfl := Option.some.inj h
  exact rk_normal hτ [] (here (by kernel_rfl)) (by kernel_rfl)
theorem W.slices_pdqsortOrdered_int_k_ok {a : Int} {b : Int} {limit : Int} {h0 : (List Int)} {r : (List Int)} (h : slices_pdqsortOrdered_int_k a b limit h0 = some r) : PC G.P 151 [(.row (.top 1000000) 3), (vI a), (vI b), (vI limit)] [(1000000, .row 3 [] (List.map cI h0))] (.tup []) [(1000000, .row 3 [] (List.map cI r))] := by
 refine pc_of G (fn := Tryz.f151) Tryz.func151 (by kernel_rfl) (by kernel_rfl) (by kernel_rfl) (by kernel_rfl) (by kernel_rfl) ?_
 refine sem_set ⟨[(0, (.row (.top 1000000) 3)), (1, (vI a)), (2, (vI b)), (3, (vI limit))], [(1000000, .row 3 [] (List.map cI h0))]⟩ (by kernel_rfl) ?_
 refine z3 1 ⟨[(0, (.row (.top 1000000) 3)), (1, (vI a)), (2, (vI b)), (3, (vI limit)), (8, (vB true))], [(1000000, .row 3 [] (List.map cI h0))]⟩ (by kernel_rfl) ?_
 refine z3 1 ⟨[(0, (.row (.top 1000000) 3)), (1, (vI a)), (2, (vI b)), (3, (vI limit)), (8, (vB true)), (9, (vB true))], [(1000000, .row 3 [] (List.map cI h0))]⟩ (by kernel_rfl) ?_
 refine sem_block (by kernel_rfl) ?_
 obtain ⟨x10, hx10, h⟩ := bindS h
 refine sem_loopS (fun (s1 : Unit) => ⟨[(0, (.row (.top 1000000) 3)), (1, (vI a)), (2, (vI b)), (3, (vI limit)), (8, (vB true)), (9, (vB true))], [(1000000, .row 3 [] (List.map cI h0))]⟩) (fun (x10 : (List Int)) => (.ret, ⟨[], [(1000000, .row 3 [] (List.map cI x10))]⟩)) (slices_pdqsortOrdered_int_k_l1 a b h0) () x10 (by kernel_rfl) (here (by kernel_rfl)) (iter_loop hx10) ?_ ?_ ?_
 ·intro s1 r h
  refine sem_block (by kernel_rfl) ?_
  refine z3 4 ⟨[(0, (.row (.top 1000000) 3)), (1, (vI a)), (2, (vI b)), (3, (vI limit)), (8, (vB true)), (9, (vB true)), (10, (vI (isub b a)))], [(1000000, .row 3 [] (List.map cI h0))]⟩ (by kernel_rfl) ?_
  refine sem_seq (by kernel_rfl) ?_
  refine z3 2 ⟨[(0, (.row (.top 1000000) 3)), (1, (vI a)), (2, (vI b)), (3, (vI limit)), (8, (vB true)), (9, (vB true)), (10, (vI (isub b a))), (23, (vB (decide ((isub b a) ≤ 12))))], [(1000000, .row 3 [] (List.map cI h0))]⟩ (by kernel_rfl) ?_
  refine sem_cond (decide ((isub b a) ≤ 12)) (by kernel_rfl) (by kernel_rfl) (fun hb => ?_) (fun hb => ?_)
  ·replace h := iteT hb h
   refine z7 (by kernel_rfl) ?_
   refine evs_run 3 (by kernel_rfl) ?_
   obtain ⟨r9, hr9, h⟩ := bindS h
   refine evs_callS [(1000000, 1000000)] [] [] (by kernel_rfl) (W.slices_insertionSortOrdered_int_k_ok hr9) (by kernel_rfl) (by kernel_rfl) (.inl rfl) ?_
   refine evs_endS (by kernel_rfl) (fun τ hτ => ?_)
   refine th_normalS hτ ⟨[], [(1000000, .row 3 [] (List.map cI r9))]⟩ (here (by kernel_rfl)) ?_
   refine sem_retS (by kernel_rfl) (fun τ hτ => ?_)
   refine th_ret ?_
   refine bl_ret ?_
   obtain rfl := Option.some.inj h
   exact lk_outS hτ rfl (here (by kernel_rfl))
  ·replace h := iteF hb h
   exact nomatch h
 ·intro x
  rfl
 ·intro τ hτ
  refine bl_ret ?_
  obtain rfl := Option.some.inj h
  exact rk_ret hτ [] (here (by kernel_rfl)) (by kernel_rfl)
theorem W.slices_Sort_Lint_int_k_ok {h0 : (List Int)} {r : (List Int)} (h : slices_Sort_Lint_int_k h0 = some r) : PC G.P 129 [(.row (.top 1000000) 3)] [(1000000, .row 3 [] (List.map cI h0))] (.tup []) [(1000000, .row 3 [] (List.map cI r))] := by
 refine pc_of G (fn := Tryz.f129) Tryz.func129 (by kernel_rfl) (by kernel_rfl) (by kernel_rfl) (by kernel_rfl) (by kernel_rfl) ?_
 refine sem_set ⟨[(0, (.row (.top 1000000) 3))], [(1000000, .row 3 [] (List.map cI h0))]⟩ (by kernel_rfl) ?_
 refine z7 (by kernel_rfl) ?_
 refine evs_run 1 (by kernel_rfl) ?_
 refine evs_op (st_len (c := cI) (l := h0) (x := (.row (.top 1000000) 3)) (by kernel_rfl) (by kernel_rfl)) ?_
 refine z1 1 ⟨[(0, (.row (.top 1000000) 3)), (2, (vI (h0.length : Int)))], [(1000000, .row 3 [] (List.map cI h0))]⟩ (by kernel_rfl) ?_
 refine sem_region (by kernel_rfl) ?_
 refine evs_run 4 (by kernel_rfl) ?_
 obtain ⟨r3, hr3, h⟩ := bindS h
 refine evs_callP [] (by kernel_rfl) (W.bits_Len_k_ok hr3) (by kernel_rfl) (.inl rfl) (by kernel_rfl) ?_
 obtain ⟨r4, hr4, h⟩ := bindS h
 refine evs_callS [(1000000, 1000000)] [] [] (by kernel_rfl) (W.slices_pdqsortOrdered_int_k_ok hr4) (by kernel_rfl) (by kernel_rfl) (.inl rfl) ?_
 refine evs_endS (by kernel_rfl) (fun τ hτ => ?_)
 obtain rfl := Option.some.inj h
 exact rk_normal hτ [] (here (by kernel_rfl)) (by kernel_rfl)
theorem W.slices_Compact_Lint_int_k_ok {h0 : (List Int)} {r : (List Int)} (h : slices_Compact_Lint_int_k h0 = some r) : PC G.P 130 [(.row (.top 300000) 3)] [(300000, .row 3 [] (List.map cI h0))] (.row (.top 0) 3) [(0, .row 3 [] (List.map cI r))] := by
 refine pc_of G (fn := Tryz.f130) Tryz.func130 (by kernel_rfl) (by kernel_rfl) (by kernel_rfl) (by kernel_rfl) (by kernel_rfl) ?_
 refine sem_set ⟨[(0, (.row (.top 300000) 3))], [(300000, .row 3 [] (List.map cI h0))]⟩ (by kernel_rfl) ?_
 refine z3 1 ⟨[(0, (.row (.top 300000) 3))], [(300000, .row 3 [] (List.map cI h0))]⟩ (by kernel_rfl) ?_
 refine sem_seq (by kernel_rfl) ?_
 refine z7 (by kernel_rfl) ?_
 refine evs_run 1 (by kernel_rfl) ?_
 refine evs_op (st_len (c := cI) (l := h0) (x := (.row (.top 300000) 3)) (by kernel_rfl) (by kernel_rfl)) ?_
 refine z1 1 ⟨[(0, (.row (.top 300000) 3)), (8, (vB (decide ((h0.length : Int) < 2))))], [(300000, .row 3 [] (List.map cI h0))]⟩ (by kernel_rfl) ?_
 refine sem_cond (decide ((h0.length : Int) < 2)) (by kernel_rfl) (by kernel_rfl) (fun hb => ?_) (fun hb => ?_)
 ·replace h := iteT hb h
  refine z8 2 ⟨[(2, (.row (.top 300000) 3))], [(300000, .row 3 [] (List.map cI h0))]⟩ (by kernel_rfl) (fun τ hτ => ?_)
  refine th_ret ?_
  obtain rfl := Option.some.inj h
  exact rk_ret hτ [(2, (.row (.top 0) 3))] (subR_prep [] [(300000, 0)] (by kernel_rfl) rfl rfl (by kernel_rfl)) (by kernel_rfl)
 ·replace h := iteF hb h
  refine z4 ⟨[(0, (.row (.top 300000) 3))], [(300000, .row 3 [] (List.map cI h0))]⟩ (by kernel_rfl) ?_
  refine sem_seq (by kernel_rfl) ?_
  refine z3 1 ⟨[(0, (.row (.top 300000) 3)), (3, (vI 1))], [(300000, .row 3 [] (List.map cI h0))]⟩ (by kernel_rfl) ?_
  refine sem_block (by kernel_rfl) ?_
  obtain ⟨x78, hx78, h⟩ := bindS h
  refine sem_loopS (fun (s53 : Int) => ⟨[(0, (.row (.top 500000) 3)), (3, (vI s53))], [(500000, .row 3 [] (List.map cI h0))]⟩) (fun (x78 : Unit) => (.exit 0, ⟨[(0, (.row (.top 500000) 3))], [(500000, .row 3 [] (List.map cI h0))]⟩)) (slices_Compact_Lint_int_k_l1 h0) 1 x78 (by kernel_rfl) (subR_prep [] [(300000, 500000)] (by kernel_rfl) rfl rfl (by kernel_rfl)) (iter_loop hx78) ?_ ?_ ?_
  ·intro s53 r h
   refine sem_seq (by kernel_rfl) ?_
   refine z7 (by kernel_rfl) ?_
   refine evs_run 2 (by kernel_rfl) ?_
   refine evs_op (st_len (c := cI) (l := h0) (x := (.row (.top 500000) 3)) (by kernel_rfl) (by kernel_rfl)) ?_
   refine z1 1 ⟨[(0, (.row (.top 500000) 3)), (3, (vI s53)), (13, (vB (decide (s53 < (h0.length : Int)))))], [(500000, .row 3 [] (List.map cI h0))]⟩ (by kernel_rfl) ?_
   refine sem_cond (decide (s53 < (h0.length : Int))) (by kernel_rfl) (by kernel_rfl) (fun hb => ?_) (fun hb => ?_)
   ·replace h := iteT hb h
    refine z4 ⟨[(0, (.row (.top 500000) 3)), (3, (vI s53))], [(500000, .row 3 [] (List.map cI h0))]⟩ (by kernel_rfl) ?_
    refine sem_seq (by kernel_rfl) ?_
    refine sem_block (by kernel_rfl) ?_
    refine sem_seq (by kernel_rfl) ?_
    refine sem_drawN [] [] [] [] [] 9 (by kernel_rfl) (by kernel_rfl) (by kernel_rfl) ?_
    refine evd_run 2 (by kernel_rfl) ?_
    obtain ⟨x76, hx76, h⟩ := bindS h
    refine evd_val (by kernel_rfl) (st_idxO (c := cI) (l := h0) (i := s53) (kd := .i64) (kk := (.top 500000)) (e := 3) (sz := 1) (by kernel_rfl) (by kernel_rfl) hx76 rfl) (by kernel_rfl) (by kernel_rfl) ?_
    refine evd_val (by kernel_rfl) (st_ldO (c := cI) (l := h0) (i := (Int.toNat s53)) (v := (vI x76)) (agg := false) (sz := 1) (kk := (.top 500000)) (e := 3) (off := 0) (J := []) (by kernel_rfl) (by kernel_rfl) (by kernel_rfl) ((idxS hx76).2) (by kernel_rfl)) (by kernel_rfl) (by kernel_rfl) ?_
    refine evd_run 3 (by kernel_rfl) ?_
    obtain ⟨x77, hx77, h⟩ := bindS h
    refine evd_val (by kernel_rfl) (st_idxO (c := cI) (l := h0) (i := (isub s53 1)) (kd := .i64) (kk := (.top 500000)) (e := 3) (sz := 1) (by kernel_rfl) (by kernel_rfl) hx77 rfl) (by kernel_rfl) (by kernel_rfl) ?_
    refine evd_val (by kernel_rfl) (st_ldO (c := cI) (l := h0) (i := (Int.toNat (isub s53 1))) (v := (vI x77)) (agg := false) (sz := 1) (kk := (.top 500000)) (e := 3) (off := 0) (J := []) (by kernel_rfl) (by kernel_rfl) (by kernel_rfl) ((idxS hx77).2) (by kernel_rfl)) (by kernel_rfl) (by kernel_rfl) ?_
    refine evd_end (by kernel_rfl) ?_
    refine evo_run 1 (by kernel_rfl) ?_
    refine evo_endS (by kernel_rfl) (fun τ hτ => ?_)
    refine th_normalS hτ ⟨[(0, (.row (.top 500000) 3)), (3, (vI s53)), (25, (vB (x76 == x77)))], [(500000, .row 3 [] (List.map cI h0))]⟩ (here (by kernel_rfl)) ?_
    refine sem_cond (x76 == x77) (by kernel_rfl) (by kernel_rfl) (fun hb => ?_) (fun hb => ?_)
    ·replace h := iteT hb h
     exact nomatch h
    ·replace h := iteF hb h
     refine sem_skipS (by kernel_rfl) (fun τ hτ => ?_)
     refine bl_normal ?_
     refine th_normalS hτ ⟨[(0, (.row (.top 500000) 3)), (3, (vI s53))], [(500000, .row 3 [] (List.map cI h0))]⟩ (here (by kernel_rfl)) ?_
     refine sem_region (by kernel_rfl) ?_
     refine z6 3 (by kernel_rfl) (fun τ hτ => ?_)
     obtain rfl := Option.some.inj h
     exact lk_nextS hτ (here (by kernel_rfl))
   ·replace h := iteF hb h
    refine sem_exitS 0 (by kernel_rfl) rfl (fun τ hτ => ?_)
    refine th_exit ?_
    obtain rfl := Option.some.inj h
    exact lk_outS hτ rfl (here (by kernel_rfl))
  ·intro x
   rfl
  ·intro τ hτ
   refine bl_hit (by kernel_rfl) ?_
   refine th_normalS hτ ⟨[(0, (.row (.top 500000) 3))], [(500000, .row 3 [] (List.map cI h0))]⟩ (here (by kernel_rfl)) ?_
   refine z8 2 ⟨[(2, (.row (.top 500000) 3))], [(500000, .row 3 [] (List.map cI h0))]⟩ (by kernel_rfl) (fun τ hτ => ?_)
   obtain rfl := Option.some.inj h
   exact rk_ret hτ [(2, (.row (.top 0) 3))] (subR_prep [] [(500000, 0)] (by kernel_rfl) rfl rfl (by kernel_rfl)) (by kernel_rfl)
theorem W.nest_search_heights_1_k_ok {y : Int} {a_0 : (List Rect)} {a_1 : (List nest_obstacle)} {a_2 : Int} {a_3 : Int} {a_4 : Int} {a_5 : Int} {a_6 : Int} {a_7 : Int} {r : Bool} (h : nest_search_heights_1_k y a_0 a_1 a_2 a_3 a_4 a_5 a_6 a_7 = some r) : PC G.P 132 [(vI y), (.vptr [(.sl (List.map c_Rect a_0)), (.sl (List.map c_nest_obstacle a_1)), (vI a_2), (vI a_3), (vI a_4), (vI a_5), (vI a_6), (vI a_7)] 0)] [] (vB r) [] := by
 refine pc_of G (fn := Tryz.f132) Tryz.func132 (by kernel_rfl) (by kernel_rfl) (by kernel_rfl) (by kernel_rfl) (by kernel_rfl) ?_
 refine sem_set ⟨[(0, (vI y)), (1, (.vptr [(.sl (List.map c_Rect a_0)), (.sl (List.map c_nest_obstacle a_1)), (vI a_2), (vI a_3), (vI a_4), (vI a_5), (vI a_6), (vI a_7)] 0))], []⟩ (by kernel_rfl) ?_
 refine z3 1 ⟨[(0, (vI y)), (1, (.vptr [(.sl (List.map c_Rect a_0)), (.sl (List.map c_nest_obstacle a_1)), (vI a_2), (vI a_3), (vI a_4), (vI a_5), (vI a_6), (vI a_7)] 0))], []⟩ (by kernel_rfl) ?_
 refine sem_seq (by kernel_rfl) ?_
 obtain ⟨j1, hj1, h⟩ := bindS h
 refine sem_regionC ⟨[(3, (vB j1))], []⟩ (by kernel_rfl) ?_ (fun τ hτ => ?_)
 ·replace h := hj1
  refine evs_run 6 (by kernel_rfl) ?_
  refine evs_split (decide (y < a_3)) (fun b0 => ⟨[(0, (vI y)), (1, (.vptr [(.sl (List.map c_Rect a_0)), (.sl (List.map c_nest_obstacle a_1)), (vI a_2), (vI a_3), (vI a_4), (vI a_5), (vI a_6), (vI a_7)] 0)), (9, (vB b0))], []⟩) (by kernel_rfl) (fun hb => ?_) (fun hb => ?_)
  ·replace h := iteT hb h
   refine z6 14 (by kernel_rfl) (fun τ hτ => ?_)
   obtain rfl := Option.some.inj h
   exact leafC hτ (here (by kernel_rfl))
  ·replace h := iteF hb h
   refine z6 14 (by kernel_rfl) (fun τ hτ => ?_)
   obtain rfl := Option.some.inj h
   exact leafC hτ (here (by kernel_rfl))
 refine th_normalS hτ ⟨[(3, (vB j1))], []⟩ (here (by kernel_rfl)) ?_
 refine sem_retS (by kernel_rfl) (fun τ hτ => ?_)
 obtain rfl := Option.some.inj h
 exact rk_ret hτ [(3, (vB j1))] (here (by kernel_rfl)) (by kernel_rfl)
theorem W.slices_IndexFunc_Lint_int__nest_search_heights_1_k_ok {s0 : (List Int)} {f_0_0 : (List Rect)} {f_0_1 : (List nest_obstacle)} {f_0_2 : Int} {f_0_3 : Int} {f_0_4 : Int} {f_0_5 : Int} {f_0_6 : Int} {f_0_7 : Int} {r : Int} (h : slices_IndexFunc_Lint_int__nest_search_heights_1_k s0 f_0_0 f_0_1 f_0_2 f_0_3 f_0_4 f_0_5 f_0_6 f_0_7 = some r) : PC G.P 153 [(.sl (List.map cI s0)), (.fn 132 [(.vptr [(.sl (List.map c_Rect f_0_0)), (.sl (List.map c_nest_obstacle f_0_1)), (vI f_0_2), (vI f_0_3), (vI f_0_4), (vI f_0_5), (vI f_0_6), (vI f_0_7)] 0)])] [] (vI r) [] := by
 refine pc_of G (fn := Tryz.f153) Tryz.func153 (by kernel_rfl) (by kernel_rfl) (by kernel_rfl) (by kernel_rfl) (by kernel_rfl) ?_
 refine sem_set ⟨[(0, (.sl (List.map cI s0))), (1, (.fn 132 [(.vptr [(.sl (List.map c_Rect f_0_0)), (.sl (List.map c_nest_obstacle f_0_1)), (vI f_0_2), (vI f_0_3), (vI f_0_4), (vI f_0_5), (vI f_0_6), (vI f_0_7)] 0)]))], []⟩ (by kernel_rfl) ?_
 refine z3 1 ⟨[(0, (.sl (List.map cI s0))), (1, (.fn 132 [(.vptr [(.sl (List.map c_Rect f_0_0)), (.sl (List.map c_nest_obstacle f_0_1)), (vI f_0_2), (vI f_0_3), (vI f_0_4), (vI f_0_5), (vI f_0_6), (vI f_0_7)] 0)]))], []⟩ (by kernel_rfl) ?_
 refine sem_seq (by kernel_rfl) ?_
 refine z7 (by kernel_rfl) ?_
 refine evs_run 1 (by kernel_rfl) ?_
 refine evs_op (st_len (c := cI) (l := s0) (x := (.sl (List.map cI s0))) (by kernel_rfl) (by kernel_rfl)) ?_
 refine z1 1 ⟨[(0, (.sl (List.map cI s0))), (1, (.fn 132 [(.vptr [(.sl (List.map c_Rect f_0_0)), (.sl (List.map c_nest_obstacle f_0_1)), (vI f_0_2), (vI f_0_3), (vI f_0_4), (vI f_0_5), (vI f_0_6), (vI f_0_7)] 0)])), (7, (vI (s0.length : Int))), (8, (vI 0))], []⟩ (by kernel_rfl) ?_
 refine sem_block (by kernel_rfl) ?_
 obtain ⟨x56, hx56, h⟩ := bindS h
 refine sem_loopS (fun (s39 : Int) => ⟨[(0, (.sl (List.map cI s0))), (1, (.fn 132 [(.vptr [(.sl (List.map c_Rect f_0_0)), (.sl (List.map c_nest_obstacle f_0_1)), (vI f_0_2), (vI f_0_3), (vI f_0_4), (vI f_0_5), (vI f_0_6), (vI f_0_7)] 0)])), (7, (vI (s0.length : Int))), (8, (vI s39))], []⟩) (fun (x56 : Int ⊕ Unit) => match x56 with | .inl j57 => (.ret, ⟨[(4, (vI j57))], []⟩) | .inr j58 => (.exit 0, ⟨[], []⟩)) (slices_IndexFunc_Lint_int__nest_search_heights_1_k_l1 s0 f_0_0 f_0_1 f_0_2 f_0_3 f_0_4 f_0_5 f_0_6 f_0_7) 0 x56 (by kernel_rfl) (here (by kernel_rfl)) (iter_loop hx56) ?_ ?_ ?_
 ·intro s39 r h
  refine z3 1 ⟨[(0, (.sl (List.map cI s0))), (1, (.fn 132 [(.vptr [(.sl (List.map c_Rect f_0_0)), (.sl (List.map c_nest_obstacle f_0_1)), (vI f_0_2), (vI f_0_3), (vI f_0_4), (vI f_0_5), (vI f_0_6), (vI f_0_7)] 0)])), (7, (vI (s0.length : Int))), (8, (vI s39)), (9, (vB (decide (s39 < (s0.length : Int)))))], []⟩ (by kernel_rfl) ?_
  refine sem_seq (by kernel_rfl) ?_
  refine sem_cond (decide (s39 < (s0.length : Int))) (by kernel_rfl) (by kernel_rfl) (fun hb => ?_) (fun hb => ?_)
  ·replace h := iteT hb h
   refine z4 ⟨[(0, (.sl (List.map cI s0))), (1, (.fn 132 [(.vptr [(.sl (List.map c_Rect f_0_0)), (.sl (List.map c_nest_obstacle f_0_1)), (vI f_0_2), (vI f_0_3), (vI f_0_4), (vI f_0_5), (vI f_0_6), (vI f_0_7)] 0)])), (7, (vI (s0.length : Int))), (8, (vI s39))], []⟩ (by kernel_rfl) ?_
   refine sem_seq (by kernel_rfl) ?_
   refine sem_block (by kernel_rfl) ?_
   refine z3 2 ⟨[(0, (.sl (List.map cI s0))), (1, (.fn 132 [(.vptr [(.sl (List.map c_Rect f_0_0)), (.sl (List.map c_nest_obstacle f_0_1)), (vI f_0_2), (vI f_0_3), (vI f_0_4), (vI f_0_5), (vI f_0_6), (vI f_0_7)] 0)])), (5, (vI s39)), (7, (vI (s0.length : Int))), (8, (vI s39))], []⟩ (by kernel_rfl) ?_
   refine z7 (by kernel_rfl) ?_
   refine evs_run 3 (by kernel_rfl) ?_
   obtain ⟨x54, hx54, h⟩ := bindS h
   refine evs_op (st_idx (c := cI) (l := s0) (i := s39) (kd := .i64) (sz := 1) (by kernel_rfl) hx54 rfl) ?_
   refine evs_run 1 (by kernel_rfl) ?_
   obtain ⟨r55, hr55, h⟩ := bindS h
   refine evs_callP [] (by kernel_rfl) (W.nest_search_heights_1_k_ok hr55) (by kernel_rfl) (.inl rfl) (by kernel_rfl) ?_
   refine evs_endS (by kernel_rfl) (fun τ hτ => ?_)
   refine th_normalS hτ ⟨[(0, (.sl (List.map cI s0))), (1, (.fn 132 [(.vptr [(.sl (List.map c_Rect f_0_0)), (.sl (List.map c_nest_obstacle f_0_1)), (vI f_0_2), (vI f_0_3), (vI f_0_4), (vI f_0_5), (vI f_0_6), (vI f_0_7)] 0)])), (5, (vI s39)), (7, (vI (s0.length : Int))), (8, (vI s39)), (16, (vB r55))], []⟩ (here (by kernel_rfl)) ?_
   refine sem_cond r55 (by kernel_rfl) (by kernel_rfl) (fun hb => ?_) (fun hb => ?_)
   ·replace h := iteT hb h
    refine z8 2 ⟨[(4, (vI s39))], []⟩ (by kernel_rfl) (fun τ hτ => ?_)
    refine bl_ret ?_
    refine th_ret ?_
    obtain rfl := Option.some.inj h
    exact lk_outS hτ rfl (here (by kernel_rfl))
   ·replace h := iteF hb h
    refine sem_skipS (by kernel_rfl) (fun τ hτ => ?_)
    refine bl_normal ?_
    refine th_normalS hτ ⟨[(0, (.sl (List.map cI s0))), (1, (.fn 132 [(.vptr [(.sl (List.map c_Rect f_0_0)), (.sl (List.map c_nest_obstacle f_0_1)), (vI f_0_2), (vI f_0_3), (vI f_0_4), (vI f_0_5), (vI f_0_6), (vI f_0_7)] 0)])), (7, (vI (s0.length : Int))), (8, (vI s39))], []⟩ (here (by kernel_rfl)) ?_
    refine sem_region (by kernel_rfl) ?_
    refine z6 2 (by kernel_rfl) (fun τ hτ => ?_)
    obtain rfl := Option.some.inj h
    exact lk_nextS hτ (here (by kernel_rfl))
  ·replace h := iteF hb h
   refine sem_exitS 0 (by kernel_rfl) rfl (fun τ hτ => ?_)
   refine th_exit ?_
   obtain rfl := Option.some.inj h
   exact lk_outS hτ rfl (here (by kernel_rfl))
 ·intro x
  rcases x with _ | _ <;> rfl
 ·intro τ hτ
  rcases x56 with j57 | j58
  ·refine bl_ret ?_
   refine th_ret ?_
   obtain rfl := Option.some.inj h
   exact rk_ret hτ [(4, (vI j57))] (here (by kernel_rfl)) (by kernel_rfl)
  ·refine bl_hit (by kernel_rfl) ?_
   refine th_normalS hτ ⟨[], []⟩ (here (by kernel_rfl)) ?_
   refine z8 1 ⟨[(4, (vI (-1)))], []⟩ (by kernel_rfl) (fun τ hτ => ?_)
   obtain rfl := Option.some.inj h
   exact rk_ret hτ [(4, (vI (-1)))] (here (by kernel_rfl)) (by kernel_rfl)
theorem W.slices_DeleteFunc_Lint_int__nest_search_heights_1_k_ok {del_0_0 : (List Rect)} {del_0_1 : (List nest_obstacle)} {del_0_2 : Int} {del_0_3 : Int} {del_0_4 : Int} {del_0_5 : Int} {del_0_6 : Int} {del_0_7 : Int} {h0 : (List Int)} {r : (List Int)} (h : slices_DeleteFunc_Lint_int__nest_search_heights_1_k del_0_0 del_0_1 del_0_2 del_0_3 del_0_4 del_0_5 del_0_6 del_0_7 h0 = some r) : PC G.P 131 [(.row (.top 300000) 3), (.fn 132 [(.vptr [(.sl (List.map c_Rect del_0_0)), (.sl (List.map c_nest_obstacle del_0_1)), (vI del_0_2), (vI del_0_3), (vI del_0_4), (vI del_0_5), (vI del_0_6), (vI del_0_7)] 0)])] [(300000, .row 3 [] (List.map cI h0))] (.row (.top 0) 3) [(0, .row 3 [] (List.map cI r))] := by
 refine pc_of G (fn := Tryz.f131) Tryz.func131 (by kernel_rfl) (by kernel_rfl) (by kernel_rfl) (by kernel_rfl) (by kernel_rfl) ?_
 refine sem_set ⟨[(0, (.row (.top 300000) 3)), (1, (.fn 132 [(.vptr [(.sl (List.map c_Rect del_0_0)), (.sl (List.map c_nest_obstacle del_0_1)), (vI del_0_2), (vI del_0_3), (vI del_0_4), (vI del_0_5), (vI del_0_6), (vI del_0_7)] 0)]))], [(300000, .row 3 [] (List.map cI h0))]⟩ (by kernel_rfl) ?_
 refine z3 1 ⟨[(0, (.row (.top 300000) 3)), (1, (.fn 132 [(.vptr [(.sl (List.map c_Rect del_0_0)), (.sl (List.map c_nest_obstacle del_0_1)), (vI del_0_2), (vI del_0_3), (vI del_0_4), (vI del_0_5), (vI del_0_6), (vI del_0_7)] 0)]))], [(300000, .row 3 [] (List.map cI h0))]⟩ (by kernel_rfl) ?_
 refine z7 (by kernel_rfl) ?_
 refine evs_run 2 (by kernel_rfl) ?_
 obtain ⟨r2, hr2, h⟩ := bindS h
 refine evs_callP [300000] (by kernel_rfl) (W.slices_IndexFunc_Lint_int__nest_search_heights_1_k_ok hr2) (by kernel_rfl) (.inr rfl) (by kernel_rfl) ?_
 refine z1 1 ⟨[(0, (.row (.top 300000) 3)), (1, (.fn 132 [(.vptr [(.sl (List.map c_Rect del_0_0)), (.sl (List.map c_nest_obstacle del_0_1)), (vI del_0_2), (vI del_0_3), (vI del_0_4), (vI del_0_5), (vI del_0_6), (vI del_0_7)] 0)])), (5, (vI r2))], [(300000, .row 3 [] (List.map cI h0))]⟩ (by kernel_rfl) ?_
 refine sem_seq (by kernel_rfl) ?_
 refine z3 2 ⟨[(0, (.row (.top 300000) 3)), (1, (.fn 132 [(.vptr [(.sl (List.map c_Rect del_0_0)), (.sl (List.map c_nest_obstacle del_0_1)), (vI del_0_2), (vI del_0_3), (vI del_0_4), (vI del_0_5), (vI del_0_6), (vI del_0_7)] 0)])), (5, (vI r2)), (12, (vB (r2 == (-1))))], [(300000, .row 3 [] (List.map cI h0))]⟩ (by kernel_rfl) ?_
 refine sem_cond (r2 == (-1)) (by kernel_rfl) (by kernel_rfl) (fun hb => ?_) (fun hb => ?_)
 ·replace h := iteT hb h
  refine z8 2 ⟨[(4, (.row (.top 300000) 3))], [(300000, .row 3 [] (List.map cI h0))]⟩ (by kernel_rfl) (fun τ hτ => ?_)
  refine th_ret ?_
  obtain rfl := Option.some.inj h
  exact rk_ret hτ [(4, (.row (.top 0) 3))] (subR_prep [] [(300000, 0)] (by kernel_rfl) rfl rfl (by kernel_rfl)) (by kernel_rfl)
 ·replace h := iteF hb h
  refine z4 ⟨[(0, (.row (.top 300000) 3)), (1, (.fn 132 [(.vptr [(.sl (List.map c_Rect del_0_0)), (.sl (List.map c_nest_obstacle del_0_1)), (vI del_0_2), (vI del_0_3), (vI del_0_4), (vI del_0_5), (vI del_0_6), (vI del_0_7)] 0)])), (5, (vI r2))], [(300000, .row 3 [] (List.map cI h0))]⟩ (by kernel_rfl) ?_
  refine sem_seq (by kernel_rfl) ?_
  refine z3 3 ⟨[(0, (.row (.top 300000) 3)), (1, (.fn 132 [(.vptr [(.sl (List.map c_Rect del_0_0)), (.sl (List.map c_nest_obstacle del_0_1)), (vI del_0_2), (vI del_0_3), (vI del_0_4), (vI del_0_5), (vI del_0_6), (vI del_0_7)] 0)])), (5, (vI r2)), (6, (vI (iadd r2 1)))], [(300000, .row 3 [] (List.map cI h0))]⟩ (by kernel_rfl) ?_
  refine sem_block (by kernel_rfl) ?_
  obtain ⟨x86, hx86, h⟩ := bindS h
  refine sem_loopS (fun (s59 : Int × Int × (List Int)) => ⟨[(0, (.row (.top 500000) 3)), (1, (.fn 132 [(.vptr [(.sl (List.map c_Rect del_0_0)), (.sl (List.map c_nest_obstacle del_0_1)), (vI del_0_2), (vI del_0_3), (vI del_0_4), (vI del_0_5), (vI del_0_6), (vI del_0_7)] 0)])), (5, (vI s59.1)), (6, (vI s59.2.1))], [(500000, .row 3 [] (List.map cI s59.2.2))]⟩) (fun (x86 : Int × (List Int)) => (.exit 0, ⟨[(0, (.row (.top 500000) 3)), (5, (vI x86.1))], [(500000, .row 3 [] (List.map cI x86.2))]⟩)) (slices_DeleteFunc_Lint_int__nest_search_heights_1_k_l2 del_0_0 del_0_1 del_0_2 del_0_3 del_0_4 del_0_5 del_0_6 del_0_7) (r2, (iadd r2 1), h0) x86 (by kernel_rfl) (subR_prep [] [(300000, 500000)] (by kernel_rfl) rfl rfl (by kernel_rfl)) (iter_loop hx86) ?_ ?_ ?_
  ·intro s59 r h
   refine sem_seq (by kernel_rfl) ?_
   refine z7 (by kernel_rfl) ?_
   refine evs_run 2 (by kernel_rfl) ?_
   refine evs_op (st_len (c := cI) (l := s59.2.2) (x := (.row (.top 500000) 3)) (by kernel_rfl) (by kernel_rfl)) ?_
   refine z1 1 ⟨[(0, (.row (.top 500000) 3)), (1, (.fn 132 [(.vptr [(.sl (List.map c_Rect del_0_0)), (.sl (List.map c_nest_obstacle del_0_1)), (vI del_0_2), (vI del_0_3), (vI del_0_4), (vI del_0_5), (vI del_0_6), (vI del_0_7)] 0)])), (5, (vI s59.1)), (6, (vI s59.2.1)), (19, (vB (decide (s59.2.1 < (s59.2.2.length : Int)))))], [(500000, .row 3 [] (List.map cI s59.2.2))]⟩ (by kernel_rfl) ?_
   refine sem_cond (decide (s59.2.1 < (s59.2.2.length : Int))) (by kernel_rfl) (by kernel_rfl) (fun hb => ?_) (fun hb => ?_)
   ·replace h := iteT hb h
    refine z4 ⟨[(0, (.row (.top 500000) 3)), (1, (.fn 132 [(.vptr [(.sl (List.map c_Rect del_0_0)), (.sl (List.map c_nest_obstacle del_0_1)), (vI del_0_2), (vI del_0_3), (vI del_0_4), (vI del_0_5), (vI del_0_6), (vI del_0_7)] 0)])), (5, (vI s59.1)), (6, (vI s59.2.1))], [(500000, .row 3 [] (List.map cI s59.2.2))]⟩ (by kernel_rfl) ?_
    refine sem_seqJ (fun (j79 : Int × (List Int)) => ⟨[(0, (.row (.top 500000) 3)), (1, (.fn 132 [(.vptr [(.sl (List.map c_Rect del_0_0)), (.sl (List.map c_nest_obstacle del_0_1)), (vI del_0_2), (vI del_0_3), (vI del_0_4), (vI del_0_5), (vI del_0_6), (vI del_0_7)] 0)])), (5, (vI j79.1)), (6, (vI s59.2.1))], [(500000, .row 3 [] (List.map cI j79.2))]⟩) (slices_DeleteFunc_Lint_int__nest_search_heights_1_k_k1 s59) r (by kernel_rfl) (fun j79 h => ?_) ?_
    ·refine sem_region (by kernel_rfl) ?_
     refine z6 3 (by kernel_rfl) (fun τ hτ => ?_)
     obtain rfl := Option.some.inj h
     exact lk_nextS hτ (here (by kernel_rfl))
    refine sem_block (by kernel_rfl) ?_
    refine z7 (by kernel_rfl) ?_
    refine evs_run 2 (by kernel_rfl) ?_
    obtain ⟨x81, hx81, h⟩ := bindS h
    refine evs_op (st_idxO (c := cI) (l := s59.2.2) (i := s59.2.1) (kd := .i64) (kk := (.top 500000)) (e := 3) (sz := 1) (by kernel_rfl) (by kernel_rfl) hx81 rfl) ?_
    refine evs_op (st_ldO (c := cI) (l := s59.2.2) (i := (Int.toNat s59.2.1)) (v := (vI x81)) (agg := false) (sz := 1) (kk := (.top 500000)) (e := 3) (off := 0) (J := []) (by kernel_rfl) (by kernel_rfl) (by kernel_rfl) ((idxS hx81).2) (by kernel_rfl)) ?_
    refine z1 1 ⟨[(0, (.row (.top 500000) 3)), (1, (.fn 132 [(.vptr [(.sl (List.map c_Rect del_0_0)), (.sl (List.map c_nest_obstacle del_0_1)), (vI del_0_2), (vI del_0_3), (vI del_0_4), (vI del_0_5), (vI del_0_6), (vI del_0_7)] 0)])), (5, (vI s59.1)), (6, (vI s59.2.1)), (7, (vI x81))], [(500000, .row 3 [] (List.map cI s59.2.2))]⟩ (by kernel_rfl) ?_
    refine z7 (by kernel_rfl) ?_
    refine evs_run 2 (by kernel_rfl) ?_
    obtain ⟨r83, hr83, h⟩ := bindS h
    refine evs_callP [] (by kernel_rfl) (W.nest_search_heights_1_k_ok hr83) (by kernel_rfl) (.inl rfl) (by kernel_rfl) ?_
    refine z1 1 ⟨[(0, (.row (.top 500000) 3)), (1, (.fn 132 [(.vptr [(.sl (List.map c_Rect del_0_0)), (.sl (List.map c_nest_obstacle del_0_1)), (vI del_0_2), (vI del_0_3), (vI del_0_4), (vI del_0_5), (vI del_0_6), (vI del_0_7)] 0)])), (5, (vI s59.1)), (6, (vI s59.2.1)), (7, (vI x81)), (29, (vB (!r83)))], [(500000, .row 3 [] (List.map cI s59.2.2))]⟩ (by kernel_rfl) ?_
    refine sem_cond (!r83) (by kernel_rfl) (by kernel_rfl) (fun hb => ?_) (fun hb => ?_)
    ·replace h := iteT hb h
     refine z7 (by kernel_rfl) ?_
     refine evs_run 3 (by kernel_rfl) ?_
     obtain ⟨x85, hx85, h⟩ := bindS h
     refine evs_op (st_idxO (c := cI) (l := s59.2.2) (i := s59.1) (kd := .i64) (kk := (.top 500000)) (e := 3) (sz := 1) (by kernel_rfl) (by kernel_rfl) hx85 rfl) ?_
     refine evs_op (st_stO (c := cI) (l := s59.2.2) (i := (Int.toNat s59.1)) (x := x85) (x' := x81) (v := (vI x81)) (agg := false) (sz := 1) (kk := (.top 500000)) (e := 3) (off := 0) (J := []) (o := .row 3 [] (List.map cI (List.set s59.2.2 (Int.toNat s59.1) x81))) (by kernel_rfl) (by kernel_rfl) (by kernel_rfl) ((idxS hx85).2) (by kernel_rfl) (by kernel_rfl) (by kernel_rfl)) ?_
     refine evs_endS (by kernel_rfl) (fun τ hτ => ?_)
     refine th_normalS hτ ⟨[(0, (.row (.top 500000) 3)), (1, (.fn 132 [(.vptr [(.sl (List.map c_Rect del_0_0)), (.sl (List.map c_nest_obstacle del_0_1)), (vI del_0_2), (vI del_0_3), (vI del_0_4), (vI del_0_5), (vI del_0_6), (vI del_0_7)] 0)])), (5, (vI s59.1)), (6, (vI s59.2.1))], [(500000, .row 3 [] (List.map cI (List.set s59.2.2 (Int.toNat s59.1) x81)))]⟩ (here (by kernel_rfl)) ?_
     refine sem_region (by kernel_rfl) ?_
     refine z6 3 (by kernel_rfl) (fun τ hτ => ?_)
     refine bl_normal ?_
     exact jk_normal ((iadd s59.1 1), (List.set s59.2.2 (Int.toNat s59.1) x81)) h hτ (here (by kernel_rfl))
    ·replace h := iteF hb h
     refine sem_skipS (by kernel_rfl) (fun τ hτ => ?_)
     refine bl_normal ?_
     exact jk_normal (s59.1, s59.2.2) h hτ (here (by kernel_rfl))
   ·replace h := iteF hb h
    refine sem_exitS 0 (by kernel_rfl) rfl (fun τ hτ => ?_)
    refine th_exit ?_
    obtain rfl := Option.some.inj h
    exact lk_outS hτ rfl (here (by kernel_rfl))
  ·intro x
   rfl
  ·intro τ hτ
   refine bl_hit (by kernel_rfl) ?_
   refine th_normalS hτ ⟨[(0, (.row (.top 500000) 3)), (5, (vI x86.1))], [(500000, .row 3 [] (List.map cI x86.2))]⟩ (here (by kernel_rfl)) ?_
   refine z7 (by kernel_rfl) ?_
   refine evs_run 2 (by kernel_rfl) ?_
   obtain ⟨hp2, h⟩ := iteN h
   refine evs_op (st_slPL (c := cI) (l := x86.2) (kk := (.top 500000)) (e := 3) (sz := 1) (lo := x86.1) (k1 := .i64) (by kernel_rfl) (by kernel_rfl) (fun _ => rfl) hp2) ?_
   refine evs_at (at_clear (c := cI) (l := x86.2) (z := 0) (d := (.part (.top 500000) 3 (Int.toNat x86.1) (Int.toNat (x86.2.length : Int) - Int.toNat x86.1))) (e := 3) (g := 500000) (lo := (Int.toNat x86.1)) (n := (Int.toNat (x86.2.length : Int) - Int.toNat x86.1)) (zs := [(vI 0)]) (by kernel_rfl) (by kernel_rfl) (by kernel_rfl) (part_fit hp2) rfl) ?_
   refine evs_endS (by kernel_rfl) (fun τ hτ => ?_)
   refine th_normalS hτ ⟨[(0, (.row (.top 500000) 3)), (5, (vI x86.1))], [(500000, .row 3 [] (List.map cI (cpy x86.2 (Int.toNat x86.1) (List.replicate (Int.toNat (x86.2.length : Int) - Int.toNat x86.1) 0))))]⟩ (here (by kernel_rfl)) ?_
   refine z7 (by kernel_rfl) ?_
   refine evs_run 2 (by kernel_rfl) ?_
   obtain ⟨l88, hl88, h⟩ := bindS h
   refine evs_at (at_cut (J := []) (c := cI) (l := (cpy x86.2 (Int.toNat x86.1) (List.replicate (Int.toNat (x86.2.length : Int) - Int.toNat x86.1) 0))) (e := 3) (g := 500000) (hi := x86.1) (k2 := .i64) (by kernel_rfl) (by kernel_rfl) rfl hl88) ?_
   refine z1 1 ⟨[(4, (.row (.top 500000) 3))], [(500000, .row 3 [] (List.map cI l88))]⟩ (by kernel_rfl) ?_
   refine sem_retS (by kernel_rfl) (fun τ hτ => ?_)
   obtain rfl := Option.some.inj h
   exact rk_ret hτ [(4, (.row (.top 0) 3))] (subR_prep [] [(500000, 0)] (by kernel_rfl) rfl rfl (by kernel_rfl)) (by kernel_rfl)
theorem W.nest_search_heights_k_ok {s0 : nest_search} {r : (List Int)} (h : nest_search_heights_k s0 = some r) : PC G.P 100 [(.agg (c_nest_search s0))] [] (.row (.top 0) 3) [(0, .row 3 [] (List.map cI r))] := by
 refine pc_of G (fn := Tryz.f100) Tryz.func100 (by kernel_rfl) (by kernel_rfl) (by kernel_rfl) (by kernel_rfl) (by kernel_rfl) ?_
 refine sem_set ⟨[(0, (.agg (c_nest_search s0)))], []⟩ (by kernel_rfl) ?_
 refine z3 2 ⟨[(1, (.ptr 1 0))], [(1, .box (c_nest_search s0))]⟩ (by kernel_rfl) ?_
 refine z7 (by kernel_rfl) ?_
 refine evs_run 3 (by kernel_rfl) ?_
 refine evs_at (at_build (e := 3) (d := 13) (es := (List.map cI [s0.area.Y])) (by kernel_rfl)) ?_
 refine z1 1 ⟨[(1, (.ptr 1 0)), (3, (.row (.top 13) 3))], [(1, .box (c_nest_search s0)), (13, .row 3 [] (List.map cI [s0.area.Y]))]⟩ (by kernel_rfl) ?_
 refine sem_seq (by kernel_rfl) ?_
 refine z7 (by kernel_rfl) ?_
 refine evs_run 2 (by kernel_rfl) ?_
 refine evs_op (st_len (c := c_nest_obstacle) (l := s0.obstacles) (x := (.sl (List.map c_nest_obstacle s0.obstacles))) (by kernel_rfl) (by kernel_rfl)) ?_
 refine z1 1 ⟨[(1, (.ptr 1 0)), (3, (.row (.top 13) 3)), (15, (.sl (List.map c_nest_obstacle s0.obstacles))), (16, (vI (s0.obstacles.length : Int))), (17, (vI 0))], [(1, .box (c_nest_search s0)), (13, .row 3 [] (List.map cI [s0.area.Y]))]⟩ (by kernel_rfl) ?_
 refine sem_block (by kernel_rfl) ?_
 obtain ⟨x2154, hx2154, h⟩ := bindS h
 refine sem_loopS (fun (s1437 : Int × (List Int)) => ⟨[(1, (.ptr 500000 0)), (3, (.row (.top 500001) 3)), (15, (.sl (List.map c_nest_obstacle s0.obstacles))), (16, (vI (s0.obstacles.length : Int))), (17, (vI s1437.1))], [(500000, .box (c_nest_search s0)), (500001, .row 3 [] (List.map cI s1437.2))]⟩) (fun (x2154 : (List Int)) => (.exit 0, ⟨[(1, (.ptr 500000 0)), (3, (.row (.top 500001) 3))], [(500000, .box (c_nest_search s0)), (500001, .row 3 [] (List.map cI x2154))]⟩)) (nest_search_heights_k_l3 s0) (0, [s0.area.Y]) x2154 (by kernel_rfl) (subR_prep [] [(1, 500000), (13, 500001)] (by kernel_rfl) rfl rfl (by kernel_rfl)) (iter_loop hx2154) ?_ ?_ ?_
 ·intro s1437 r h
  refine z3 1 ⟨[(1, (.ptr 500000 0)), (3, (.row (.top 500001) 3)), (15, (.sl (List.map c_nest_obstacle s0.obstacles))), (16, (vI (s0.obstacles.length : Int))), (17, (vI s1437.1)), (18, (vB (decide (s1437.1 < (s0.obstacles.length : Int)))))], [(500000, .box (c_nest_search s0)), (500001, .row 3 [] (List.map cI s1437.2))]⟩ (by kernel_rfl) ?_
  refine sem_seq (by kernel_rfl) ?_
  refine sem_cond (decide (s1437.1 < (s0.obstacles.length : Int))) (by kernel_rfl) (by kernel_rfl) (fun hb => ?_) (fun hb => ?_)
  ·replace h := iteT hb h
   refine z4 ⟨[(1, (.ptr 500000 0)), (3, (.row (.top 500001) 3)), (15, (.sl (List.map c_nest_obstacle s0.obstacles))), (16, (vI (s0.obstacles.length : Int))), (17, (vI s1437.1))], [(500000, .box (c_nest_search s0)), (500001, .row 3 [] (List.map cI s1437.2))]⟩ (by kernel_rfl) ?_
   refine sem_seq (by kernel_rfl) ?_
   refine sem_block (by kernel_rfl) ?_
   refine z7 (by kernel_rfl) ?_
   obtain ⟨x1976, hx1976, h⟩ := bindS h
   refine evs_op (st_idx (c := c_nest_obstacle) (l := s0.obstacles) (i := s1437.1) (kd := .i64) (sz := 6) (by kernel_rfl) hx1976 rfl) ?_
   refine z1 3 ⟨[(1, (.ptr 500000 0)), (3, (.row (.top 500001) 3)), (5, (.ptr 5 0)), (15, (.sl (List.map c_nest_obstacle s0.obstacles))), (16, (vI (s0.obstacles.length : Int))), (17, (vI s1437.1))], [(5, .box (c_nest_obstacle x1976)), (500000, .box (c_nest_search s0)), (500001, .row 3 [] (List.map cI s1437.2))]⟩ (by kernel_rfl) ?_
   refine z7 (by kernel_rfl) ?_
   refine evs_run 2 (by kernel_rfl) ?_
   refine evs_op (st_len (c := c_Rect) (l := s0.rects) (x := (.sl (List.map c_Rect s0.rects))) (by kernel_rfl) (by kernel_rfl)) ?_
   refine z1 1 ⟨[(1, (.ptr 500000 0)), (3, (.row (.top 500001) 3)), (5, (.ptr 5 0)), (15, (.sl (List.map c_nest_obstacle s0.obstacles))), (16, (vI (s0.obstacles.length : Int))), (17, (vI s1437.1)), (22, (.sl (List.map c_Rect s0.rects))), (23, (vI (s0.rects.length : Int))), (24, (vI 0))], [(5, .box (c_nest_obstacle x1976)), (500000, .box (c_nest_search s0)), (500001, .row 3 [] (List.map cI s1437.2))]⟩ (by kernel_rfl) ?_
   refine sem_block (by kernel_rfl) ?_
   obtain ⟨x2153, hx2153, h⟩ := bindS h
   refine sem_loopS (fun (s2036 : Int × (List Int)) => ⟨[(1, (.ptr 500000 0)), (3, (.row (.top 500001) 3)), (5, (.ptr 500002 0)), (15, (.sl (List.map c_nest_obstacle s0.obstacles))), (16, (vI (s0.obstacles.length : Int))), (17, (vI s1437.1)), (22, (.sl (List.map c_Rect s0.rects))), (23, (vI (s0.rects.length : Int))), (24, (vI s2036.1))], [(500000, .box (c_nest_search s0)), (500001, .row 3 [] (List.map cI s2036.2)), (500002, .box (c_nest_obstacle x1976))]⟩) (fun (x2153 : (List Int)) => (.exit 2, ⟨[(1, (.ptr 500000 0)), (3, (.row (.top 500001) 3)), (15, (.sl (List.map c_nest_obstacle s0.obstacles))), (16, (vI (s0.obstacles.length : Int))), (17, (vI s1437.1))], [(500000, .box (c_nest_search s0)), (500001, .row 3 [] (List.map cI x2153))]⟩)) (nest_search_heights_k_l2 s0 x1976) (0, s1437.2) x2153 (by kernel_rfl) (subR_prep [] [(5, 500002), (500000, 500000), (500001, 500001)] (by kernel_rfl) rfl rfl (by kernel_rfl)) (iter_loop hx2153) ?_ ?_ ?_
   ·intro s2036 r h
    refine z3 1 ⟨[(1, (.ptr 500000 0)), (3, (.row (.top 500001) 3)), (5, (.ptr 500002 0)), (15, (.sl (List.map c_nest_obstacle s0.obstacles))), (16, (vI (s0.obstacles.length : Int))), (17, (vI s1437.1)), (22, (.sl (List.map c_Rect s0.rects))), (23, (vI (s0.rects.length : Int))), (24, (vI s2036.1)), (25, (vB (decide (s2036.1 < (s0.rects.length : Int)))))], [(500000, .box (c_nest_search s0)), (500001, .row 3 [] (List.map cI s2036.2)), (500002, .box (c_nest_obstacle x1976))]⟩ (by kernel_rfl) ?_
    refine sem_seq (by kernel_rfl) ?_
    refine sem_cond (decide (s2036.1 < (s0.rects.length : Int))) (by kernel_rfl) (by kernel_rfl) (fun hb => ?_) (fun hb => ?_)
    ·replace h := iteT hb h
     refine z4 ⟨[(1, (.ptr 500000 0)), (3, (.row (.top 500001) 3)), (5, (.ptr 500002 0)), (15, (.sl (List.map c_nest_obstacle s0.obstacles))), (16, (vI (s0.obstacles.length : Int))), (17, (vI s1437.1)), (22, (.sl (List.map c_Rect s0.rects))), (23, (vI (s0.rects.length : Int))), (24, (vI s2036.1))], [(500000, .box (c_nest_search s0)), (500001, .row 3 [] (List.map cI s2036.2)), (500002, .box (c_nest_obstacle x1976))]⟩ (by kernel_rfl) ?_
     refine sem_seq (by kernel_rfl) ?_
     refine sem_block (by kernel_rfl) ?_
     refine z7 (by kernel_rfl) ?_
     obtain ⟨x2125, hx2125, h⟩ := bindS h
     refine evs_op (st_idx (c := c_Rect) (l := s0.rects) (i := s2036.1) (kd := .i64) (sz := 4) (by kernel_rfl) hx2125 rfl) ?_
     refine z1 3 ⟨[(1, (.ptr 500000 0)), (3, (.row (.top 500001) 3)), (5, (.ptr 500002 0)), (7, (.ptr 7 0)), (15, (.sl (List.map c_nest_obstacle s0.obstacles))), (16, (vI (s0.obstacles.length : Int))), (17, (vI s1437.1)), (22, (.sl (List.map c_Rect s0.rects))), (23, (vI (s0.rects.length : Int))), (24, (vI s2036.1))], [(7, .box (c_Rect x2125)), (500000, .box (c_nest_search s0)), (500001, .row 3 [] (List.map cI s2036.2)), (500002, .box (c_nest_obstacle x1976))]⟩ (by kernel_rfl) ?_
     refine z7 (by kernel_rfl) ?_
     refine evs_run 3 (by kernel_rfl) ?_
     refine evs_op (st_len (c := cI) (l := [0, x1976.gap]) (x := (.sl (List.map cI [0, x1976.gap]))) (by kernel_rfl) (by kernel_rfl)) ?_
     refine z1 1 ⟨[(1, (.ptr 500000 0)), (3, (.row (.top 500001) 3)), (5, (.ptr 500002 0)), (7, (.ptr 7 0)), (15, (.sl (List.map c_nest_obstacle s0.obstacles))), (16, (vI (s0.obstacles.length : Int))), (17, (vI s1437.1)), (22, (.sl (List.map c_Rect s0.rects))), (23, (vI (s0.rects.length : Int))), (24, (vI s2036.1)), (30, (.sl (List.map cI [0, x1976.gap]))), (31, (vI ([0, x1976.gap].length : Int))), (32, (vI 0))], [(7, .box (c_Rect x2125)), (500000, .box (c_nest_search s0)), (500001, .row 3 [] (List.map cI s2036.2)), (500002, .box (c_nest_obstacle x1976))]⟩ (by kernel_rfl) ?_
     refine sem_block (by kernel_rfl) ?_
     obtain ⟨x2152, hx2152, h⟩ := bindS h
     refine sem_loopS (fun (s2135 : Int × (List Int)) => ⟨[(1, (.ptr 500000 0)), (3, (.row (.top 500001) 3)), (5, (.ptr 500002 0)), (7, (.ptr 500003 0)), (15, (.sl (List.map c_nest_obstacle s0.obstacles))), (16, (vI (s0.obstacles.length : Int))), (17, (vI s1437.1)), (22, (.sl (List.map c_Rect s0.rects))), (23, (vI (s0.rects.length : Int))), (24, (vI s2036.1)), (30, (.sl (List.map cI [0, x1976.gap]))), (31, (vI ([0, x1976.gap].length : Int))), (32, (vI s2135.1))], [(500000, .box (c_nest_search s0)), (500001, .row 3 [] (List.map cI s2135.2)), (500002, .box (c_nest_obstacle x1976)), (500003, .box (c_Rect x2125))]⟩) (fun (x2152 : (List Int)) => (.exit 4, ⟨[(1, (.ptr 500000 0)), (3, (.row (.top 500001) 3)), (5, (.ptr 500002 0)), (15, (.sl (List.map c_nest_obstacle s0.obstacles))), (16, (vI (s0.obstacles.length : Int))), (17, (vI s1437.1)), (22, (.sl (List.map c_Rect s0.rects))), (23, (vI (s0.rects.length : Int))), (24, (vI s2036.1))], [(500000, .box (c_nest_search s0)), (500001, .row 3 [] (List.map cI x2152)), (500002, .box (c_nest_obstacle x1976))]⟩)) (nest_search_heights_k_l1 x1976 x2125) (0, s2036.2) x2152 (by kernel_rfl) (subR_prep [] [(7, 500003), (500000, 500000), (500001, 500001), (500002, 500002)] (by kernel_rfl) rfl rfl (by kernel_rfl)) (iter_loop hx2152) ?_ ?_ ?_
     ·intro s2135 r h
      refine z3 1 ⟨[(1, (.ptr 500000 0)), (3, (.row (.top 500001) 3)), (5, (.ptr 500002 0)), (7, (.ptr 500003 0)), (15, (.sl (List.map c_nest_obstacle s0.obstacles))), (16, (vI (s0.obstacles.length : Int))), (17, (vI s1437.1)), (22, (.sl (List.map c_Rect s0.rects))), (23, (vI (s0.rects.length : Int))), (24, (vI s2036.1)), (30, (.sl (List.map cI [0, x1976.gap]))), (31, (vI ([0, x1976.gap].length : Int))), (32, (vI s2135.1)), (33, (vB (decide (s2135.1 < ([0, x1976.gap].length : Int)))))], [(500000, .box (c_nest_search s0)), (500001, .row 3 [] (List.map cI s2135.2)), (500002, .box (c_nest_obstacle x1976)), (500003, .box (c_Rect x2125))]⟩ (by kernel_rfl) ?_
      refine sem_seq (by kernel_rfl) ?_
      refine sem_cond (decide (s2135.1 < ([0, x1976.gap].length : Int))) (by kernel_rfl) (by kernel_rfl) (fun hb => ?_) (fun hb => ?_)
      ·replace h := iteT hb h
       refine z4 ⟨[(1, (.ptr 500000 0)), (3, (.row (.top 500001) 3)), (5, (.ptr 500002 0)), (7, (.ptr 500003 0)), (15, (.sl (List.map c_nest_obstacle s0.obstacles))), (16, (vI (s0.obstacles.length : Int))), (17, (vI s1437.1)), (22, (.sl (List.map c_Rect s0.rects))), (23, (vI (s0.rects.length : Int))), (24, (vI s2036.1)), (30, (.sl (List.map cI [0, x1976.gap]))), (31, (vI ([0, x1976.gap].length : Int))), (32, (vI s2135.1))], [(500000, .box (c_nest_search s0)), (500001, .row 3 [] (List.map cI s2135.2)), (500002, .box (c_nest_obstacle x1976)), (500003, .box (c_Rect x2125))]⟩ (by kernel_rfl) ?_
       refine sem_seq (by kernel_rfl) ?_
       refine sem_block (by kernel_rfl) ?_
       refine z7 (by kernel_rfl) ?_
       obtain ⟨x2149, hx2149, h⟩ := bindS h
       refine evs_op (st_idx (c := cI) (l := [0, x1976.gap]) (i := s2135.1) (kd := .i64) (sz := 1) (by kernel_rfl) hx2149 rfl) ?_
       refine z1 2 ⟨[(1, (.ptr 500000 0)), (3, (.row (.top 500001) 3)), (5, (.ptr 500002 0)), (7, (.ptr 500003 0)), (9, (vI x2149)), (15, (.sl (List.map c_nest_obstacle s0.obstacles))), (16, (vI (s0.obstacles.length : Int))), (17, (vI s1437.1)), (22, (.sl (List.map c_Rect s0.rects))), (23, (vI (s0.rects.length : Int))), (24, (vI s2036.1)), (30, (.sl (List.map cI [0, x1976.gap]))), (31, (vI ([0, x1976.gap].length : Int))), (32, (vI s2135.1))], [(500000, .box (c_nest_search s0)), (500001, .row 3 [] (List.map cI s2135.2)), (500002, .box (c_nest_obstacle x1976)), (500003, .box (c_Rect x2125))]⟩ (by kernel_rfl) ?_
       refine sem_region (by kernel_rfl) ?_
       refine evs_run 25 (by kernel_rfl) ?_
       obtain ⟨l2151, hl2151, h⟩ := bindS h
       refine evs_op (st_app (c := cI) (l := s2135.2) (l2 := [(isub (iadd (iadd x1976.Rect.Y x1976.Rect.H) x2149) x2125.Y), (isub (isub (isub x1976.Rect.Y x2149) x2125.Y) x2125.H)]) (x := (.sl (List.map cI [(isub (iadd (iadd x1976.Rect.Y x1976.Rect.H) x2149) x2125.Y), (isub (isub (isub x1976.Rect.Y x2149) x2125.Y) x2125.H)]))) (g := 500001) (e := 3) (sz := 1) (d := 61) (by kernel_rfl) (by kernel_rfl) (by kernel_rfl) (by kernel_rfl) (fun _ => rfl) rfl hl2151) ?_
       refine z6 1 (by kernel_rfl) (fun τ hτ => ?_)
       refine bl_normal ?_
       refine th_normalS hτ ⟨[(1, (.ptr 500000 0)), (3, (.row (.top 500001) 3)), (5, (.ptr 500002 0)), (7, (.ptr 500003 0)), (15, (.sl (List.map c_nest_obstacle s0.obstacles))), (16, (vI (s0.obstacles.length : Int))), (17, (vI s1437.1)), (22, (.sl (List.map c_Rect s0.rects))), (23, (vI (s0.rects.length : Int))), (24, (vI s2036.1)), (30, (.sl (List.map cI [0, x1976.gap]))), (31, (vI ([0, x1976.gap].length : Int))), (32, (vI s2135.1))], [(500000, .box (c_nest_search s0)), (500001, .row 3 [] (List.map cI l2151)), (500002, .box (c_nest_obstacle x1976)), (500003, .box (c_Rect x2125))]⟩ (here (by kernel_rfl)) ?_
       refine sem_region (by kernel_rfl) ?_
       refine z6 2 (by kernel_rfl) (fun τ hτ => ?_)
       obtain rfl := Option.some.inj h
       exact lk_nextS hτ (here (by kernel_rfl))
      ·replace h := iteF hb h
       refine sem_exitS 4 (by kernel_rfl) rfl (fun τ hτ => ?_)
       refine th_exit ?_
       obtain rfl := Option.some.inj h
       exact lk_outS hτ rfl (here (by kernel_rfl))
     ·intro x
      rfl
     ·intro τ hτ
      refine bl_hit (by kernel_rfl) ?_
      refine bl_normal ?_
      refine th_normalS hτ ⟨[(1, (.ptr 500000 0)), (3, (.row (.top 500001) 3)), (5, (.ptr 500002 0)), (15, (.sl (List.map c_nest_obstacle s0.obstacles))), (16, (vI (s0.obstacles.length : Int))), (17, (vI s1437.1)), (22, (.sl (List.map c_Rect s0.rects))), (23, (vI (s0.rects.length : Int))), (24, (vI s2036.1))], [(500000, .box (c_nest_search s0)), (500001, .row 3 [] (List.map cI x2152)), (500002, .box (c_nest_obstacle x1976))]⟩ (here (by kernel_rfl)) ?_
      refine sem_region (by kernel_rfl) ?_
      refine z6 2 (by kernel_rfl) (fun τ hτ => ?_)
      obtain rfl := Option.some.inj h
      exact lk_nextS hτ (here (by kernel_rfl))
    ·replace h := iteF hb h
     refine sem_exitS 2 (by kernel_rfl) rfl (fun τ hτ => ?_)
     refine th_exit ?_
     obtain rfl := Option.some.inj h
     exact lk_outS hτ rfl (here (by kernel_rfl))
   ·intro x
    rfl
   ·intro τ hτ
    refine bl_hit (by kernel_rfl) ?_
    refine bl_normal ?_
    refine th_normalS hτ ⟨[(1, (.ptr 500000 0)), (3, (.row (.top 500001) 3)), (15, (.sl (List.map c_nest_obstacle s0.obstacles))), (16, (vI (s0.obstacles.length : Int))), (17, (vI s1437.1))], [(500000, .box (c_nest_search s0)), (500001, .row 3 [] (List.map cI x2153))]⟩ (here (by kernel_rfl)) ?_
    refine sem_region (by kernel_rfl) ?_
    refine z6 2 (by kernel_rfl) (fun τ hτ => ?_)
    obtain rfl := Option.some.inj h
    exact lk_nextS hτ (here (by kernel_rfl))
  ·replace h := iteF hb h
   refine sem_exitS 0 (by kernel_rfl) rfl (fun τ hτ => ?_)
   refine th_exit ?_
   obtain rfl := Option.some.inj h
   exact lk_outS hτ rfl (here (by kernel_rfl))
 ·intro x
  rfl
 ·intro τ hτ
  refine bl_hit (by kernel_rfl) ?_
  refine th_normalS hτ ⟨[(1, (.ptr 500000 0)), (3, (.row (.top 500001) 3))], [(500000, .box (c_nest_search s0)), (500001, .row 3 [] (List.map cI x2154))]⟩ (here (by kernel_rfl)) ?_
  refine z7 (by kernel_rfl) ?_
  refine evs_run 1 (by kernel_rfl) ?_
  obtain ⟨r2156, hr2156, h⟩ := bindS h
  refine evs_callS [(1000000, 500001)] [] [] (by kernel_rfl) (W.slices_Sort_Lint_int_k_ok hr2156) (by kernel_rfl) (by kernel_rfl) (.inl rfl) ?_
  refine evs_endS (by kernel_rfl) (fun τ hτ => ?_)
  refine th_normalS hτ ⟨[(1, (.ptr 500000 0)), (3, (.row (.top 500001) 3))], [(500000, .box (c_nest_search s0)), (500001, .row 3 [] (List.map cI r2156))]⟩ (here (by kernel_rfl)) ?_
  refine z7 (by kernel_rfl) ?_
  refine evs_run 1 (by kernel_rfl) ?_
  obtain ⟨r2158, hr2158, h⟩ := bindS h
  refine evs_callS [(300000, 500001)] [(0, 700050)] [] (by kernel_rfl) (W.slices_Compact_Lint_int_k_ok hr2158) (by kernel_rfl) (by kernel_rfl) (.inl rfl) ?_
  refine z1 1 ⟨[(1, (.ptr 500000 0)), (3, (.row (.top 700050) 3))], [(500000, .box (c_nest_search s0)), (700050, .row 3 [] (List.map cI r2158))]⟩ (by kernel_rfl) ?_
  refine z7 (by kernel_rfl) ?_
  refine evs_run 2 (by kernel_rfl) ?_
  obtain ⟨r2160, hr2160, h⟩ := bindS h
  refine evs_callS [(300000, 700050)] [(0, 700100)] [500000] (by kernel_rfl) (W.slices_DeleteFunc_Lint_int__nest_search_heights_1_k_ok hr2160) (by kernel_rfl) (by kernel_rfl) (.inr ⟨rfl, fun _ _ => ind_cons (ind_row fun _ => rfl) (fun _ _ => ind_nil)⟩) ?_
  refine z1 1 ⟨[(2, (.row (.top 700100) 3))], [(700100, .row 3 [] (List.map cI r2160))]⟩ (by kernel_rfl) ?_
  refine sem_retS (by kernel_rfl) (fun τ hτ => ?_)
  obtain rfl := Option.some.inj h
  exact rk_ret hτ [(2, (.row (.top 0) 3))] (subR_prep [] [(700100, 0)] (by kernel_rfl) rfl rfl (by kernel_rfl)) (by kernel_rfl)
theorem W.nest_split_1_k_ok {a : nest_span} {r : Bool} (h : nest_split_1_k a = some r) : PC G.P 176 [(.agg [(vI a.lo), (vI a.hi)])] [] (vB r) [] := by
 refine pc_of G (fn := Tryz.f176) Tryz.func176 (by kernel_rfl) (by kernel_rfl) (by kernel_rfl) (by kernel_rfl) (by kernel_rfl) ?_
 refine sem_set ⟨[(0, (.agg [(vI a.lo), (vI a.hi)]))], []⟩ (by kernel_rfl) ?_
 refine z3 2 ⟨[(1, (.ptr 1 0))], [(1, .box [(vI a.lo), (vI a.hi)])]⟩ (by kernel_rfl) ?_
 refine z8 7 ⟨[(2, (vB (decide ((isub a.hi a.lo) < 2))))], []⟩ (by kernel_rfl) (fun τ hτ => ?_)
 obtain rfl := Option.some.inj h
 exact rk_ret hτ [(2, (vB (decide ((isub a.hi a.lo) < 2))))] (here (by kernel_rfl)) (by kernel_rfl)
theorem W.slices_IndexFunc_Lnest_span_nest_span__nest_split_1_k_ok {s0 : (List nest_span)} {r : Int} (h : slices_IndexFunc_Lnest_span_nest_span__nest_split_1_k s0 = some r) : PC G.P 200 [(.sl (List.map c_nest_span s0)), (.fn 176 [])] [] (vI r) [] := by
 refine pc_of G (fn := Tryz.f200) Tryz.func200 (by kernel_rfl) (by kernel_rfl) (by kernel_rfl) (by kernel_rfl) (by kernel_rfl) ?_
 refine sem_set ⟨[(0, (.sl (List.map c_nest_span s0))), (1, (.fn 176 []))], []⟩ (by kernel_rfl) ?_
 refine z3 1 ⟨[(0, (.sl (List.map c_nest_span s0))), (1, (.fn 176 []))], []⟩ (by kernel_rfl) ?_
 refine sem_seq (by kernel_rfl) ?_
 refine z7 (by kernel_rfl) ?_
 refine evs_run 1 (by kernel_rfl) ?_
 refine evs_op (st_len (c := c_nest_span) (l := s0) (x := (.sl (List.map c_nest_span s0))) (by kernel_rfl) (by kernel_rfl)) ?_
 refine z1 1 ⟨[(0, (.sl (List.map c_nest_span s0))), (1, (.fn 176 [])), (7, (vI (s0.length : Int))), (8, (vI 0))], []⟩ (by kernel_rfl) ?_
 refine sem_block (by kernel_rfl) ?_
 obtain ⟨x54, hx54, h⟩ := bindS h
 refine sem_loopS (fun (s37 : Int) => ⟨[(0, (.sl (List.map c_nest_span s0))), (1, (.fn 176 [])), (7, (vI (s0.length : Int))), (8, (vI s37))], []⟩) (fun (x54 : Unit) => (.exit 0, ⟨[], []⟩)) (slices_IndexFunc_Lnest_span_nest_span__nest_split_1_k_l1 s0) 0 x54 (by kernel_rfl) (here (by kernel_rfl)) (iter_loop hx54) ?_ ?_ ?_
 ·intro s37 r h
  refine z3 1 ⟨[(0, (.sl (List.map c_nest_span s0))), (1, (.fn 176 [])), (7, (vI (s0.length : Int))), (8, (vI s37)), (9, (vB (decide (s37 < (s0.length : Int)))))], []⟩ (by kernel_rfl) ?_
  refine sem_seq (by kernel_rfl) ?_
  refine sem_cond (decide (s37 < (s0.length : Int))) (by kernel_rfl) (by kernel_rfl) (fun hb => ?_) (fun hb => ?_)
  ·replace h := iteT hb h
   refine z4 ⟨[(0, (.sl (List.map c_nest_span s0))), (1, (.fn 176 [])), (7, (vI (s0.length : Int))), (8, (vI s37))], []⟩ (by kernel_rfl) ?_
   refine sem_seq (by kernel_rfl) ?_
   refine sem_block (by kernel_rfl) ?_
   refine z3 2 ⟨[(0, (.sl (List.map c_nest_span s0))), (1, (.fn 176 [])), (5, (vI s37)), (7, (vI (s0.length : Int))), (8, (vI s37))], []⟩ (by kernel_rfl) ?_
   refine z7 (by kernel_rfl) ?_
   refine evs_run 3 (by kernel_rfl) ?_
   obtain ⟨x52, hx52, h⟩ := bindS h
   refine evs_op (st_idx (c := c_nest_span) (l := s0) (i := s37) (kd := .i64) (sz := 2) (by kernel_rfl) hx52 rfl) ?_
   refine evs_run 1 (by kernel_rfl) ?_
   obtain ⟨r53, hr53, h⟩ := bindS h
   refine evs_callP [] (by kernel_rfl) (W.nest_split_1_k_ok hr53) (by kernel_rfl) (.inl rfl) (by kernel_rfl) ?_
   refine evs_endS (by kernel_rfl) (fun τ hτ => ?_)
   refine th_normalS hτ ⟨[(0, (.sl (List.map c_nest_span s0))), (1, (.fn 176 [])), (5, (vI s37)), (7, (vI (s0.length : Int))), (8, (vI s37)), (16, (vB r53))], []⟩ (here (by kernel_rfl)) ?_
   refine sem_cond r53 (by kernel_rfl) (by kernel_rfl) (fun hb => ?_) (fun hb => ?_)
   ·replace h := iteT hb h
    exact nomatch h
   ·replace h := iteF hb h
    refine sem_skipS (by kernel_rfl) (fun τ hτ => ?_)
    refine bl_normal ?_
    refine th_normalS hτ ⟨[(0, (.sl (List.map c_nest_span s0))), (1, (.fn 176 [])), (7, (vI (s0.length : Int))), (8, (vI s37))], []⟩ (here (by kernel_rfl)) ?_
    refine sem_region (by kernel_rfl) ?_
    refine z6 2 (by kernel_rfl) (fun τ hτ => ?_)
    obtain rfl := Option.some.inj h
    exact lk_nextS hτ (here (by kernel_rfl))
  ·replace h := iteF hb h
   refine sem_exitS 0 (by kernel_rfl) rfl (fun τ hτ => ?_)
   refine th_exit ?_
   obtain rfl := Option.some.inj h
   exact lk_outS hτ rfl (here (by kernel_rfl))
 ·intro x
  rfl
 ·intro τ hτ
  refine bl_hit (by kernel_rfl) ?_
  refine th_normalS hτ ⟨[], []⟩ (here (by kernel_rfl)) ?_
  refine z8 1 ⟨[(4, (vI (-1)))], []⟩ (by kernel_rfl) (fun τ hτ => ?_)
  obtain rfl := Option.some.inj h
  exact rk_ret hτ [(4, (vI (-1)))] (here (by kernel_rfl)) (by kernel_rfl)
theorem W.slices_DeleteFunc_Lnest_span_nest_span__nest_split_1_k_ok {s0 : (List nest_span)} {r : (List nest_span)} (h : slices_DeleteFunc_Lnest_span_nest_span__nest_split_1_k s0 = some r) : PC G.P 175 [(.sl (List.map c_nest_span s0)), (.fn 176 [])] [] (.sl (List.map c_nest_span r)) [] := by
 refine pc_of G (fn := Tryz.f175) Tryz.func175 (by kernel_rfl) (by kernel_rfl) (by kernel_rfl) (by kernel_rfl) (by kernel_rfl) ?_
 refine sem_set ⟨[(0, (.sl (List.map c_nest_span s0))), (1, (.fn 176 []))], []⟩ (by kernel_rfl) ?_
 refine z3 1 ⟨[(0, (.sl (List.map c_nest_span s0))), (1, (.fn 176 []))], []⟩ (by kernel_rfl) ?_
 refine z7 (by kernel_rfl) ?_
 refine evs_run 2 (by kernel_rfl) ?_
 obtain ⟨r2, hr2, h⟩ := bindS h
 refine evs_callP [] (by kernel_rfl) (W.slices_IndexFunc_Lnest_span_nest_span__nest_split_1_k_ok hr2) (by kernel_rfl) (.inl rfl) (by kernel_rfl) ?_
 refine z1 1 ⟨[(0, (.sl (List.map c_nest_span s0))), (1, (.fn 176 [])), (5, (vI r2))], []⟩ (by kernel_rfl) ?_
 refine sem_seq (by kernel_rfl) ?_
 refine z3 2 ⟨[(0, (.sl (List.map c_nest_span s0))), (1, (.fn 176 [])), (5, (vI r2)), (12, (vB (r2 == (-1))))], []⟩ (by kernel_rfl) ?_
 refine sem_cond (r2 == (-1)) (by kernel_rfl) (by kernel_rfl) (fun hb => ?_) (fun hb => ?_)
 ·replace h := iteT hb h
  refine z8 2 ⟨[(4, (.sl (List.map c_nest_span s0)))], []⟩ (by kernel_rfl) (fun τ hτ => ?_)
  refine th_ret ?_
  obtain rfl := Option.some.inj h
  exact rk_ret hτ [(4, (.sl (List.map c_nest_span s0)))] (here (by kernel_rfl)) (by kernel_rfl)
 ·replace h := iteF hb h
  exact nomatch h
theorem W.nest_split_k_ok {l : (List nest_span)} {r : (List nest_span)} (h : nest_split_k l = some r) : PC G.P 154 [(.sl (List.map c_nest_span l))] [] (.sl (List.map c_nest_span r)) [] := by
 refine pc_of G (fn := Tryz.f154) Tryz.func154 (by kernel_rfl) (by kernel_rfl) (by kernel_rfl) (by kernel_rfl) (by kernel_rfl) ?_
 refine sem_set ⟨[(0, (.sl (List.map c_nest_span l)))], []⟩ (by kernel_rfl) ?_
 refine z3 1 ⟨[(0, (.sl (List.map c_nest_span l)))], []⟩ (by kernel_rfl) ?_
 refine z7 (by kernel_rfl) ?_
 refine evs_run 1 (by kernel_rfl) ?_
 obtain ⟨r2, hr2, h⟩ := bindS h
 refine evs_callP [] (by kernel_rfl) (W.slices_DeleteFunc_Lnest_span_nest_span__nest_split_1_k_ok hr2) (by kernel_rfl) (.inl rfl) (by kernel_rfl) ?_
 refine z1 1 ⟨[(2, (.sl (List.map c_nest_span r2)))], []⟩ (by kernel_rfl) ?_
 refine sem_retS (by kernel_rfl) (fun τ hτ => ?_)
 obtain rfl := Option.some.inj h
 exact rk_ret hτ [(2, (.sl (List.map c_nest_span r2)))] (here (by kernel_rfl)) (by kernel_rfl)
theorem W.nest_obstacle_spans_k_ok {o : nest_obstacle} {r1 : Rect} {y : Int} {r : (List nest_span)} (h : nest_obstacle_spans_k o r1 y = some r) : PC G.P 133 [(.agg (c_nest_obstacle o)), (.agg (c_Rect r1)), (vI y)] [] (.sl (List.map c_nest_span r)) [] := by
 refine pc_of G (fn := Tryz.f133) Tryz.func133 (by kernel_rfl) (by kernel_rfl) (by kernel_rfl) (by kernel_rfl) (by kernel_rfl) ?_
 refine sem_set ⟨[(0, (.agg (c_nest_obstacle o))), (1, (.agg (c_Rect r1))), (2, (vI y))], []⟩ (by kernel_rfl) ?_
 refine z3 3 ⟨[(2, (vI y)), (3, (.ptr 3 0)), (4, (.ptr 4 0))], [(3, .box (c_nest_obstacle o)), (4, .box (c_Rect r1))]⟩ (by kernel_rfl) ?_
 refine z3 25 ⟨[(2, (vI y)), (3, (.ptr 3 0)), (4, (.ptr 4 0)), (7, (vI (imax (imax 0 (isub (isub (isub o.Rect.Y r1.Y) y) r1.H)) (isub (isub (iadd r1.Y y) o.Rect.Y) o.Rect.H))))], [(3, .box (c_nest_obstacle o)), (4, .box (c_Rect r1))]⟩ (by kernel_rfl) ?_
 refine z3 10 ⟨[(2, (vI y)), (3, (.ptr 3 0)), (4, (.ptr 4 0)), (7, (vI (imax (imax 0 (isub (isub (isub o.Rect.Y r1.Y) y) r1.H)) (isub (isub (iadd r1.Y y) o.Rect.Y) o.Rect.H)))), (8, (vI (isub (isub o.Rect.X r1.X) r1.W)))], [(3, .box (c_nest_obstacle o)), (4, .box (c_Rect r1))]⟩ (by kernel_rfl) ?_
 refine z3 11 ⟨[(2, (vI y)), (3, (.ptr 3 0)), (4, (.ptr 4 0)), (7, (vI (imax (imax 0 (isub (isub (isub o.Rect.Y r1.Y) y) r1.H)) (isub (isub (iadd r1.Y y) o.Rect.Y) o.Rect.H)))), (8, (vI (isub (isub o.Rect.X r1.X) r1.W))), (9, (vI (isub (iadd o.Rect.X o.Rect.W) r1.X)))], [(3, .box (c_nest_obstacle o)), (4, .box (c_Rect r1))]⟩ (by kernel_rfl) ?_
 refine z7 (by kernel_rfl) ?_
 refine evs_run 13 (by kernel_rfl) ?_
 refine evs_split (decide ((iadd r1.Y y) < (iadd o.Rect.Y o.Rect.H))) (fun b0 => ⟨[(2, (vI y)), (3, (.ptr 3 0)), (4, (.ptr 4 0)), (7, (vI (imax (imax 0 (isub (isub (isub o.Rect.Y r1.Y) y) r1.H)) (isub (isub (iadd r1.Y y) o.Rect.Y) o.Rect.H)))), (8, (vI (isub (isub o.Rect.X r1.X) r1.W))), (9, (vI (isub (iadd o.Rect.X o.Rect.W) r1.X))), (66, (vB b0))], [(3, .box (c_nest_obstacle o)), (4, .box (c_Rect r1))]⟩) (by kernel_rfl) (fun hb => ?_) (fun hb => ?_)
 ·replace h := iteT hb h
  refine z1 13 ⟨[(3, (.ptr 3 0)), (7, (vI (imax (imax 0 (isub (isub (isub o.Rect.Y r1.Y) y) r1.H)) (isub (isub (iadd r1.Y y) o.Rect.Y) o.Rect.H)))), (8, (vI (isub (isub o.Rect.X r1.X) r1.W))), (9, (vI (isub (iadd o.Rect.X o.Rect.W) r1.X))), (10, (vB (decide (o.Rect.Y < (iadd (iadd r1.Y y) r1.H)))))], [(3, .box (c_nest_obstacle o))]⟩ (by kernel_rfl) ?_
  refine sem_seq (by kernel_rfl) ?_
  refine sem_block (by kernel_rfl) ?_
  refine z7 (by kernel_rfl) ?_
  refine evs_run 5 (by kernel_rfl) ?_
  refine evs_split (decide ((imax (imax 0 (isub (isub (isub o.Rect.Y r1.Y) y) r1.H)) (isub (isub (iadd r1.Y y) o.Rect.Y) o.Rect.H)) ≥ o.gap)) (fun b0 => ⟨[(3, (.ptr 3 0)), (7, (vI (imax (imax 0 (isub (isub (isub o.Rect.Y r1.Y) y) r1.H)) (isub (isub (iadd r1.Y y) o.Rect.Y) o.Rect.H)))), (8, (vI (isub (isub o.Rect.X r1.X) r1.W))), (9, (vI (isub (iadd o.Rect.X o.Rect.W) r1.X))), (10, (vB (decide (o.Rect.Y < (iadd (iadd r1.Y y) r1.H))))), (84, (vB b0))], [(3, .box (c_nest_obstacle o))]⟩) (by kernel_rfl) (fun hb => ?_) (fun hb => ?_)
  ·replace h := iteT hb h
   exact nomatch h
  ·replace h := iteF hb h
   refine z1 4 ⟨[(3, (.ptr 3 0)), (7, (vI (imax (imax 0 (isub (isub (isub o.Rect.Y r1.Y) y) r1.H)) (isub (isub (iadd r1.Y y) o.Rect.Y) o.Rect.H)))), (8, (vI (isub (isub o.Rect.X r1.X) r1.W))), (9, (vI (isub (iadd o.Rect.X o.Rect.W) r1.X))), (10, (vB (decide (o.Rect.Y < (iadd (iadd r1.Y y) r1.H))))), (79, (vB false))], [(3, .box (c_nest_obstacle o))]⟩ (by kernel_rfl) ?_
   refine sem_condF (by kernel_rfl) (by kernel_rfl) ?_
   refine z7 (by kernel_rfl) ?_
   refine evs_run 3 (by kernel_rfl) ?_
   refine evs_split o.common (fun b0 => ⟨[(3, (.ptr 3 0)), (7, (vI (imax (imax 0 (isub (isub (isub o.Rect.Y r1.Y) y) r1.H)) (isub (isub (iadd r1.Y y) o.Rect.Y) o.Rect.H)))), (8, (vI (isub (isub o.Rect.X r1.X) r1.W))), (9, (vI (isub (iadd o.Rect.X o.Rect.W) r1.X))), (10, (vB (decide (o.Rect.Y < (iadd (iadd r1.Y y) r1.H))))), (91, (vB b0))], [(3, .box [(vI o.Rect.X), (vI o.Rect.Y), (vI o.Rect.W), (vI o.Rect.H), (vI o.gap), (vB b0)])]⟩) (by kernel_rfl) (fun hb => ?_) (fun hb => ?_)
   ·replace h := iteT hb h
    exact nomatch h
   ·replace h := iteF hb h
    refine z1 3 ⟨[(3, (.ptr 3 0)), (7, (vI (imax (imax 0 (isub (isub (isub o.Rect.Y r1.Y) y) r1.H)) (isub (isub (iadd r1.Y y) o.Rect.Y) o.Rect.H)))), (8, (vI (isub (isub o.Rect.X r1.X) r1.W))), (9, (vI (isub (iadd o.Rect.X o.Rect.W) r1.X))), (10, (vB (decide (o.Rect.Y < (iadd (iadd r1.Y y) r1.H))))), (88, (vB false))], [(3, .box [(vI o.Rect.X), (vI o.Rect.Y), (vI o.Rect.W), (vI o.Rect.H), (vI o.gap), (vB false)])]⟩ (by kernel_rfl) ?_
    refine sem_condF (by kernel_rfl) (by kernel_rfl) ?_
    refine z3 7 ⟨[(3, (.ptr 3 0)), (7, (vI (imax (imax 0 (isub (isub (isub o.Rect.Y r1.Y) y) r1.H)) (isub (isub (iadd r1.Y y) o.Rect.Y) o.Rect.H)))), (8, (vI (isub (isub o.Rect.X r1.X) r1.W))), (9, (vI (isub (iadd o.Rect.X o.Rect.W) r1.X))), (10, (vB (decide (o.Rect.Y < (iadd (iadd r1.Y y) r1.H))))), (111, (vB false))], [(3, .box [(vI o.Rect.X), (vI o.Rect.Y), (vI o.Rect.W), (vI o.Rect.H), (vI o.gap), (vB false)])]⟩ (by kernel_rfl) ?_
    refine sem_condF (by kernel_rfl) (by kernel_rfl) ?_
    refine z7 (by kernel_rfl) ?_
    refine evs_run 3 (by kernel_rfl) ?_
    refine evs_split ((imax (imax 0 (isub (isub (isub o.Rect.Y r1.Y) y) r1.H)) (isub (isub (iadd r1.Y y) o.Rect.Y) o.Rect.H)) == 0) (fun b0 => ⟨[(3, (.ptr 3 0)), (8, (vI (isub (isub o.Rect.X r1.X) r1.W))), (9, (vI (isub (iadd o.Rect.X o.Rect.W) r1.X))), (10, (vB (decide (o.Rect.Y < (iadd (iadd r1.Y y) r1.H))))), (135, (vB b0))], [(3, .box [(vI o.Rect.X), (vI o.Rect.Y), (vI o.Rect.W), (vI o.Rect.H), (vI o.gap), (vB false)])]⟩) (by kernel_rfl) (fun hb => ?_) (fun hb => ?_)
    ·replace h := iteT hb h
     refine evs_run 5 (by kernel_rfl) ?_
     refine evs_split (o.gap == 0) (fun b0 => ⟨[(3, (.ptr 3 0)), (8, (vI (isub (isub o.Rect.X r1.X) r1.W))), (9, (vI (isub (iadd o.Rect.X o.Rect.W) r1.X))), (10, (vB (decide (o.Rect.Y < (iadd (iadd r1.Y y) r1.H))))), (140, (vB b0))], [(3, .box [(vI o.Rect.X), (vI o.Rect.Y), (vI o.Rect.W), (vI o.Rect.H), (vI o.gap), (vB false)])]⟩) (by kernel_rfl) (fun hb => ?_) (fun hb => ?_)
     ·replace h := iteT hb h
      exact nomatch h
     ·replace h := iteF hb h
      refine z1 4 ⟨[(3, (.ptr 3 0)), (8, (vI (isub (isub o.Rect.X r1.X) r1.W))), (9, (vI (isub (iadd o.Rect.X o.Rect.W) r1.X))), (132, (vB false))], [(3, .box [(vI o.Rect.X), (vI o.Rect.Y), (vI o.Rect.W), (vI o.Rect.H), (vI o.gap), (vB false)])]⟩ (by kernel_rfl) ?_
      refine sem_condF (by kernel_rfl) (by kernel_rfl) ?_
      refine sem_skipS (by kernel_rfl) (fun τ hτ => ?_)
      refine bl_normal ?_
      refine th_normalS hτ ⟨[(3, (.ptr 3 0)), (8, (vI (isub (isub o.Rect.X r1.X) r1.W))), (9, (vI (isub (iadd o.Rect.X o.Rect.W) r1.X)))], [(3, .box [(vI o.Rect.X), (vI o.Rect.Y), (vI o.Rect.W), (vI o.Rect.H), (vI o.gap), (vB false)])]⟩ (here (by kernel_rfl)) ?_
      refine z7 (by kernel_rfl) ?_
      refine evs_run 10 (by kernel_rfl) ?_
      obtain ⟨r2, hr2, h⟩ := bindS h
      refine evs_callP [] (by kernel_rfl) (W.nest_split_k_ok hr2) (by kernel_rfl) (.inl rfl) (by kernel_rfl) ?_
      refine z1 1 ⟨[(6, (.sl (List.map c_nest_span r2)))], []⟩ (by kernel_rfl) ?_
      refine sem_retS (by kernel_rfl) (fun τ hτ => ?_)
      obtain rfl := Option.some.inj h
      exact rk_ret hτ [(6, (.sl (List.map c_nest_span r2)))] (here (by kernel_rfl)) (by kernel_rfl)
    ·replace h := iteF hb h
     exact nomatch h
 ·replace h := iteF hb h
  exact nomatch h
theorem W.slices_insertionSortCmpFunc_nest_span__nest_byPlace_compare_k_ok {a : Int} {b : Int} {h0 : (List nest_span)} {r : Unit} (h : slices_insertionSortCmpFunc_nest_span__nest_byPlace_compare_k a b h0 = some r) : PC G.P 177 [(.row (.top 1000000) 169), (vI a), (vI b), (.lit (.func (.func 134) #[.agg #[]] #[]))] [(1000000, .row 169 [] (List.map c_nest_span h0))] (.tup []) [(1000000, .row 169 [] (List.map c_nest_span h0))] := by
 refine pc_of G (fn := Tryz.f177) Tryz.func177 (by kernel_rfl) (by kernel_rfl) (by kernel_rfl) (by kernel_rfl) (by kernel_rfl) ?_
 refine sem_set ⟨[(0, (.row (.top 1000000) 169)), (1, (vI a)), (2, (vI b)), (3, (.lit (.func (.func 134) #[.agg #[]] #[])))], [(1000000, .row 169 [] (List.map c_nest_span h0))]⟩ (by kernel_rfl) ?_
 refine z3 3 ⟨[(0, (.row (.top 1000000) 169)), (1, (vI a)), (2, (vI b)), (3, (.lit (.func (.func 134) #[.agg #[]] #[]))), (8, (vI (iadd a 1)))], [(1000000, .row 169 [] (List.map c_nest_span h0))]⟩ (by kernel_rfl) ?_
 refine sem_block (by kernel_rfl) ?_
 obtain ⟨x2, hx2, h⟩ := bindS h
 refine sem_loopS (fun (s1 : Unit) => ⟨[(0, (.row (.top 1000000) 169)), (1, (vI a)), (2, (vI b)), (3, (.lit (.func (.func 134) #[.agg #[]] #[]))), (8, (vI (iadd a 1)))], [(1000000, .row 169 [] (List.map c_nest_span h0))]⟩) (fun (x2 : Unit) => (.exit 0, ⟨[], [(1000000, .row 169 [] (List.map c_nest_span h0))]⟩)) (slices_insertionSortCmpFunc_nest_span__nest_byPlace_compare_k_l1 a b) () x2 (by kernel_rfl) (here (by kernel_rfl)) (iter_loop hx2) ?_ ?_ ?_
 ·intro s1 r h
  refine sem_seq (by kernel_rfl) ?_
  refine z3 3 ⟨[(0, (.row (.top 1000000) 169)), (1, (vI a)), (2, (vI b)), (3, (.lit (.func (.func 134) #[.agg #[]] #[]))), (8, (vI (iadd a 1))), (14, (vB (decide ((iadd a 1) < b))))], [(1000000, .row 169 [] (List.map c_nest_span h0))]⟩ (by kernel_rfl) ?_
  refine sem_cond (decide ((iadd a 1) < b)) (by kernel_rfl) (by kernel_rfl) (fun hb => ?_) (fun hb => ?_)
  ·replace h := iteT hb h
   exact nomatch h
  ·replace h := iteF hb h
   refine sem_exitS 0 (by kernel_rfl) rfl (fun τ hτ => ?_)
   refine th_exit ?_
   obtain rfl := Option.some.inj h
   exact lk_outS hτ rfl (here (by kernel_rfl))
 ·intro x
  rfl
 ·intro τ hτ
  refine bl_hit (by kernel_rfl) ?_
  obtain rfl := Option.some.inj h
  exact rk_normal hτ [] (here (by kernel_rfl)) (by kernel_rfl)
theorem W.slices_pdqsortCmpFunc_nest_span__nest_byPlace_compare_k_ok {a : Int} {b : Int} {limit : Int} {h0 : (List nest_span)} {r : Unit} (h : slices_pdqsortCmpFunc_nest_span__nest_byPlace_compare_k a b limit h0 = some r) : PC G.P 156 [(.row (.top 1000000) 169), (vI a), (vI b), (vI limit), (.lit (.func (.func 134) #[.agg #[]] #[]))] [(1000000, .row 169 [] (List.map c_nest_span h0))] (.tup []) [(1000000, .row 169 [] (List.map c_nest_span h0))] := by
 refine pc_of G (fn := Tryz.f156) Tryz.func156 (by kernel_rfl) (by kernel_rfl) (by kernel_rfl) (by kernel_rfl) (by kernel_rfl) ?_
 refine sem_set ⟨[(0, (.row (.top 1000000) 169)), (1, (vI a)), (2, (vI b)), (3, (vI limit)), (4, (.lit (.func (.func 134) #[.agg #[]] #[])))], [(1000000, .row 169 [] (List.map c_nest_span h0))]⟩ (by kernel_rfl) ?_
 refine z3 1 ⟨[(0, (.row (.top 1000000) 169)), (1, (vI a)), (2, (vI b)), (3, (vI limit)), (4, (.lit (.func (.func 134) #[.agg #[]] #[]))), (10, (vB true))], [(1000000, .row 169 [] (List.map c_nest_span h0))]⟩ (by kernel_rfl) ?_
 refine z3 1 ⟨[(0, (.row (.top 1000000) 169)), (1, (vI a)), (2, (vI b)), (3, (vI limit)), (4, (.lit (.func (.func 134) #[.agg #[]] #[]))), (10, (vB true)), (11, (vB true))], [(1000000, .row 169 [] (List.map c_nest_span h0))]⟩ (by kernel_rfl) ?_
 refine sem_block (by kernel_rfl) ?_
 obtain ⟨x10, hx10, h⟩ := bindS h
 refine sem_loopS (fun (s1 : Unit) => ⟨[(0, (.row (.top 1000000) 169)), (1, (vI a)), (2, (vI b)), (3, (vI limit)), (4, (.lit (.func (.func 134) #[.agg #[]] #[]))), (10, (vB true)), (11, (vB true))], [(1000000, .row 169 [] (List.map c_nest_span h0))]⟩) (fun (x10 : Unit) => (.ret, ⟨[], [(1000000, .row 169 [] (List.map c_nest_span h0))]⟩)) (slices_pdqsortCmpFunc_nest_span__nest_byPlace_compare_k_l1 a b h0) () x10 (by kernel_rfl) (here (by kernel_rfl)) (iter_loop hx10) ?_ ?_ ?_
 ·intro s1 r h
  refine sem_block (by kernel_rfl) ?_
  refine z3 4 ⟨[(0, (.row (.top 1000000) 169)), (1, (vI a)), (2, (vI b)), (3, (vI limit)), (4, (.lit (.func (.func 134) #[.agg #[]] #[]))), (10, (vB true)), (11, (vB true)), (12, (vI (isub b a)))], [(1000000, .row 169 [] (List.map c_nest_span h0))]⟩ (by kernel_rfl) ?_
  refine sem_seq (by kernel_rfl) ?_
  refine z3 2 ⟨[(0, (.row (.top 1000000) 169)), (1, (vI a)), (2, (vI b)), (3, (vI limit)), (4, (.lit (.func (.func 134) #[.agg #[]] #[]))), (10, (vB true)), (11, (vB true)), (12, (vI (isub b a))), (25, (vB (decide ((isub b a) ≤ 12))))], [(1000000, .row 169 [] (List.map c_nest_span h0))]⟩ (by kernel_rfl) ?_
  refine sem_cond (decide ((isub b a) ≤ 12)) (by kernel_rfl) (by kernel_rfl) (fun hb => ?_) (fun hb => ?_)
  ·replace h := iteT hb h
   refine z7 (by kernel_rfl) ?_
   refine evs_run 4 (by kernel_rfl) ?_
   obtain ⟨r9, hr9, h⟩ := bindS h
   refine evs_callS [(1000000, 1000000)] [] [] (by kernel_rfl) (W.slices_insertionSortCmpFunc_nest_span__nest_byPlace_compare_k_ok hr9) (by kernel_rfl) (by kernel_rfl) (.inl rfl) ?_
   refine evs_endS (by kernel_rfl) (fun τ hτ => ?_)
   refine th_normalS hτ ⟨[], [(1000000, .row 169 [] (List.map c_nest_span h0))]⟩ (here (by kernel_rfl)) ?_
   refine sem_retS (by kernel_rfl) (fun τ hτ => ?_)
   refine th_ret ?_
   refine bl_ret ?_
   obtain rfl := Option.some.inj h
   exact lk_outS hτ rfl (here (by kernel_rfl))
  ·replace h := iteF hb h
   exact nomatch h
 ·intro x
  rfl
 ·intro τ hτ
  refine bl_ret ?_
  obtain rfl := Option.some.inj h
  exact rk_ret hτ [] (here (by kernel_rfl)) (by kernel_rfl)
theorem W.slices_SortFunc_Lnest_span_nest_span__nest_byPlace_compare_k_ok {h0 : (List nest_span)} {r : Unit} (h : slices_SortFunc_Lnest_span_nest_span__nest_byPlace_compare_k h0 = some r) : PC G.P 135 [(.row (.top 1000000) 169), (.lit (.func (.func 134) #[.agg #[]] #[]))] [(1000000, .row 169 [] (List.map c_nest_span h0))] (.tup []) [(1000000, .row 169 [] (List.map c_nest_span h0))] := by
 refine pc_of G (fn := Tryz.f135) Tryz.func135 (by kernel_rfl) (by kernel_rfl) (by kernel_rfl) (by kernel_rfl) (by kernel_rfl) ?_
 refine sem_set ⟨[(0, (.row (.top 1000000) 169)), (1, (.lit (.func (.func 134) #[.agg #[]] #[])))], [(1000000, .row 169 [] (List.map c_nest_span h0))]⟩ (by kernel_rfl) ?_
 refine z7 (by kernel_rfl) ?_
 refine evs_run 1 (by kernel_rfl) ?_
 refine evs_op (st_len (c := c_nest_span) (l := h0) (x := (.row (.top 1000000) 169)) (by kernel_rfl) (by kernel_rfl)) ?_
 refine z1 1 ⟨[(0, (.row (.top 1000000) 169)), (1, (.lit (.func (.func 134) #[.agg #[]] #[]))), (4, (vI (h0.length : Int)))], [(1000000, .row 169 [] (List.map c_nest_span h0))]⟩ (by kernel_rfl) ?_
 refine sem_region (by kernel_rfl) ?_
 refine evs_run 4 (by kernel_rfl) ?_
 obtain ⟨r3, hr3, h⟩ := bindS h
 refine evs_callP [] (by kernel_rfl) (W.bits_Len_k_ok hr3) (by kernel_rfl) (.inl rfl) (by kernel_rfl) ?_
 refine evs_run 1 (by kernel_rfl) ?_
 obtain ⟨r4, hr4, h⟩ := bindS h
 refine evs_callS [(1000000, 1000000)] [] [] (by kernel_rfl) (W.slices_pdqsortCmpFunc_nest_span__nest_byPlace_compare_k_ok hr4) (by kernel_rfl) (by kernel_rfl) (.inl rfl) ?_
 refine evs_endS (by kernel_rfl) (fun τ hτ => ?_)
 obtain rfl := Option.some.inj h
 exact rk_normal hτ [] (here (by kernel_rfl)) (by kernel_rfl)
theorem W.nest_search_blocked_k_ok {s0 : nest_search} {y : Int} {r : (List nest_span)} (h : nest_search_blocked_k s0 y = some r) : PC G.P 102 [(.agg (c_nest_search s0)), (vI y)] [] (.row (.top 0) 169) [(0, .row 169 [] (List.map c_nest_span r))] := by
 refine pc_of G (fn := Tryz.f102) Tryz.func102 (by kernel_rfl) (by kernel_rfl) (by kernel_rfl) (by kernel_rfl) (by kernel_rfl) ?_
 refine sem_set ⟨[(0, (.agg (c_nest_search s0))), (1, (vI y))], []⟩ (by kernel_rfl) ?_
 refine z3 2 ⟨[(1, (vI y)), (2, (.ptr 2 0))], [(2, .box (c_nest_search s0))]⟩ (by kernel_rfl) ?_
 refine z3 1 ⟨[(1, (vI y)), (2, (.ptr 2 0)), (5, (.row (.top 5) 169))], [(2, .box (c_nest_search s0)), (5, .row 169 [] (List.map c_nest_span []))]⟩ (by kernel_rfl) ?_
 refine sem_seq (by kernel_rfl) ?_
 refine z7 (by kernel_rfl) ?_
 refine evs_run 2 (by kernel_rfl) ?_
 refine evs_op (st_len (c := c_nest_obstacle) (l := s0.obstacles) (x := (.sl (List.map c_nest_obstacle s0.obstacles))) (by kernel_rfl) (by kernel_rfl)) ?_
 refine z1 1 ⟨[(1, (vI y)), (2, (.ptr 2 0)), (5, (.row (.top 5) 169)), (12, (.sl (List.map c_nest_obstacle s0.obstacles))), (13, (vI (s0.obstacles.length : Int))), (14, (vI 0))], [(2, .box (c_nest_search s0)), (5, .row 169 [] (List.map c_nest_span []))]⟩ (by kernel_rfl) ?_
 refine sem_block (by kernel_rfl) ?_
 obtain ⟨x498, hx498, h⟩ := bindS h
 refine sem_loopS (fun (s333 : Int × (List nest_span)) => ⟨[(1, (vI y)), (2, (.ptr 500000 0)), (5, (.row (.top 500001) 169)), (12, (.sl (List.map c_nest_obstacle s0.obstacles))), (13, (vI (s0.obstacles.length : Int))), (14, (vI s333.1))], [(500000, .box (c_nest_search s0)), (500001, .row 169 [] (List.map c_nest_span s333.2))]⟩) (fun (x498 : (List nest_span)) => (.exit 0, ⟨[(5, (.row (.top 500000) 169))], [(500000, .row 169 [] (List.map c_nest_span x498))]⟩)) (nest_search_blocked_k_l2 s0 y) (0, []) x498 (by kernel_rfl) (subR_prep [] [(2, 500000), (5, 500001)] (by kernel_rfl) rfl rfl (by kernel_rfl)) (iter_loop hx498) ?_ ?_ ?_
 ·intro s333 r h
  refine z3 1 ⟨[(1, (vI y)), (2, (.ptr 500000 0)), (5, (.row (.top 500001) 169)), (12, (.sl (List.map c_nest_obstacle s0.obstacles))), (13, (vI (s0.obstacles.length : Int))), (14, (vI s333.1)), (15, (vB (decide (s333.1 < (s0.obstacles.length : Int)))))], [(500000, .box (c_nest_search s0)), (500001, .row 169 [] (List.map c_nest_span s333.2))]⟩ (by kernel_rfl) ?_
  refine sem_seq (by kernel_rfl) ?_
  refine sem_cond (decide (s333.1 < (s0.obstacles.length : Int))) (by kernel_rfl) (by kernel_rfl) (fun hb => ?_) (fun hb => ?_)
  ·replace h := iteT hb h
   refine z4 ⟨[(1, (vI y)), (2, (.ptr 500000 0)), (5, (.row (.top 500001) 169)), (12, (.sl (List.map c_nest_obstacle s0.obstacles))), (13, (vI (s0.obstacles.length : Int))), (14, (vI s333.1))], [(500000, .box (c_nest_search s0)), (500001, .row 169 [] (List.map c_nest_span s333.2))]⟩ (by kernel_rfl) ?_
   refine sem_seq (by kernel_rfl) ?_
   refine sem_block (by kernel_rfl) ?_
   refine z7 (by kernel_rfl) ?_
   obtain ⟨x458, hx458, h⟩ := bindS h
   refine evs_op (st_idx (c := c_nest_obstacle) (l := s0.obstacles) (i := s333.1) (kd := .i64) (sz := 6) (by kernel_rfl) hx458 rfl) ?_
   refine z1 3 ⟨[(1, (vI y)), (2, (.ptr 500000 0)), (5, (.row (.top 500001) 169)), (7, (.ptr 7 0)), (12, (.sl (List.map c_nest_obstacle s0.obstacles))), (13, (vI (s0.obstacles.length : Int))), (14, (vI s333.1))], [(7, .box (c_nest_obstacle x458)), (500000, .box (c_nest_search s0)), (500001, .row 169 [] (List.map c_nest_span s333.2))]⟩ (by kernel_rfl) ?_
   refine z7 (by kernel_rfl) ?_
   refine evs_run 2 (by kernel_rfl) ?_
   refine evs_op (st_len (c := c_Rect) (l := s0.rects) (x := (.sl (List.map c_Rect s0.rects))) (by kernel_rfl) (by kernel_rfl)) ?_
   refine z1 1 ⟨[(1, (vI y)), (2, (.ptr 500000 0)), (5, (.row (.top 500001) 169)), (7, (.ptr 7 0)), (12, (.sl (List.map c_nest_obstacle s0.obstacles))), (13, (vI (s0.obstacles.length : Int))), (14, (vI s333.1)), (19, (.sl (List.map c_Rect s0.rects))), (20, (vI (s0.rects.length : Int))), (21, (vI 0))], [(7, .box (c_nest_obstacle x458)), (500000, .box (c_nest_search s0)), (500001, .row 169 [] (List.map c_nest_span s333.2))]⟩ (by kernel_rfl) ?_
   refine sem_block (by kernel_rfl) ?_
   obtain ⟨x497, hx497, h⟩ := bindS h
   refine sem_loopS (fun (s472 : Int × (List nest_span)) => ⟨[(1, (vI y)), (2, (.ptr 500000 0)), (5, (.row (.top 500001) 169)), (7, (.ptr 500002 0)), (12, (.sl (List.map c_nest_obstacle s0.obstacles))), (13, (vI (s0.obstacles.length : Int))), (14, (vI s333.1)), (19, (.sl (List.map c_Rect s0.rects))), (20, (vI (s0.rects.length : Int))), (21, (vI s472.1))], [(500000, .box (c_nest_search s0)), (500001, .row 169 [] (List.map c_nest_span s472.2)), (500002, .box (c_nest_obstacle x458))]⟩) (fun (x497 : (List nest_span)) => (.exit 2, ⟨[(1, (vI y)), (2, (.ptr 500000 0)), (5, (.row (.top 500001) 169)), (12, (.sl (List.map c_nest_obstacle s0.obstacles))), (13, (vI (s0.obstacles.length : Int))), (14, (vI s333.1))], [(500000, .box (c_nest_search s0)), (500001, .row 169 [] (List.map c_nest_span x497))]⟩)) (nest_search_blocked_k_l1 s0 y x458) (0, s333.2) x497 (by kernel_rfl) (subR_prep [] [(7, 500002), (500000, 500000), (500001, 500001)] (by kernel_rfl) rfl rfl (by kernel_rfl)) (iter_loop hx497) ?_ ?_ ?_
   ·intro s472 r h
    refine z3 1 ⟨[(1, (vI y)), (2, (.ptr 500000 0)), (5, (.row (.top 500001) 169)), (7, (.ptr 500002 0)), (12, (.sl (List.map c_nest_obstacle s0.obstacles))), (13, (vI (s0.obstacles.length : Int))), (14, (vI s333.1)), (19, (.sl (List.map c_Rect s0.rects))), (20, (vI (s0.rects.length : Int))), (21, (vI s472.1)), (22, (vB (decide (s472.1 < (s0.rects.length : Int)))))], [(500000, .box (c_nest_search s0)), (500001, .row 169 [] (List.map c_nest_span s472.2)), (500002, .box (c_nest_obstacle x458))]⟩ (by kernel_rfl) ?_
    refine sem_seq (by kernel_rfl) ?_
    refine sem_cond (decide (s472.1 < (s0.rects.length : Int))) (by kernel_rfl) (by kernel_rfl) (fun hb => ?_) (fun hb => ?_)
    ·replace h := iteT hb h
     refine z4 ⟨[(1, (vI y)), (2, (.ptr 500000 0)), (5, (.row (.top 500001) 169)), (7, (.ptr 500002 0)), (12, (.sl (List.map c_nest_obstacle s0.obstacles))), (13, (vI (s0.obstacles.length : Int))), (14, (vI s333.1)), (19, (.sl (List.map c_Rect s0.rects))), (20, (vI (s0.rects.length : Int))), (21, (vI s472.1))], [(500000, .box (c_nest_search s0)), (500001, .row 169 [] (List.map c_nest_span s472.2)), (500002, .box (c_nest_obstacle x458))]⟩ (by kernel_rfl) ?_
     refine sem_seq (by kernel_rfl) ?_
     refine sem_block (by kernel_rfl) ?_
     refine z7 (by kernel_rfl) ?_
     obtain ⟨x492, hx492, h⟩ := bindS h
     refine evs_op (st_idx (c := c_Rect) (l := s0.rects) (i := s472.1) (kd := .i64) (sz := 4) (by kernel_rfl) hx492 rfl) ?_
     refine z1 3 ⟨[(1, (vI y)), (2, (.ptr 500000 0)), (5, (.row (.top 500001) 169)), (7, (.ptr 500002 0)), (9, (.ptr 9 0)), (12, (.sl (List.map c_nest_obstacle s0.obstacles))), (13, (vI (s0.obstacles.length : Int))), (14, (vI s333.1)), (19, (.sl (List.map c_Rect s0.rects))), (20, (vI (s0.rects.length : Int))), (21, (vI s472.1))], [(9, .box (c_Rect x492)), (500000, .box (c_nest_search s0)), (500001, .row 169 [] (List.map c_nest_span s472.2)), (500002, .box (c_nest_obstacle x458))]⟩ (by kernel_rfl) ?_
     refine sem_region (by kernel_rfl) ?_
     refine evs_run 4 (by kernel_rfl) ?_
     obtain ⟨r495, hr495, h⟩ := bindS h
     refine evs_callP [] (by kernel_rfl) (W.nest_obstacle_spans_k_ok hr495) (by kernel_rfl) (.inl rfl) (by kernel_rfl) ?_
     obtain ⟨l496, hl496, h⟩ := bindS h
     refine evs_op (st_app (c := c_nest_span) (l := s472.2) (l2 := r495) (x := (.sl (List.map c_nest_span r495))) (g := 500001) (e := 169) (sz := 2) (d := 30) (by kernel_rfl) (by kernel_rfl) (by kernel_rfl) (by kernel_rfl) (fun _ => rfl) rfl hl496) ?_
     refine z6 1 (by kernel_rfl) (fun τ hτ => ?_)
     refine bl_normal ?_
     refine th_normalS hτ ⟨[(1, (vI y)), (2, (.ptr 500000 0)), (5, (.row (.top 500001) 169)), (7, (.ptr 500002 0)), (12, (.sl (List.map c_nest_obstacle s0.obstacles))), (13, (vI (s0.obstacles.length : Int))), (14, (vI s333.1)), (19, (.sl (List.map c_Rect s0.rects))), (20, (vI (s0.rects.length : Int))), (21, (vI s472.1))], [(500000, .box (c_nest_search s0)), (500001, .row 169 [] (List.map c_nest_span l496)), (500002, .box (c_nest_obstacle x458))]⟩ (here (by kernel_rfl)) ?_
     refine sem_region (by kernel_rfl) ?_
     refine z6 2 (by kernel_rfl) (fun τ hτ => ?_)
     obtain rfl := Option.some.inj h
     exact lk_nextS hτ (here (by kernel_rfl))
    ·replace h := iteF hb h
     refine sem_exitS 2 (by kernel_rfl) rfl (fun τ hτ => ?_)
     refine th_exit ?_
     obtain rfl := Option.some.inj h
     exact lk_outS hτ rfl (here (by kernel_rfl))
   ·intro x
    rfl
   ·intro τ hτ
    refine bl_hit (by kernel_rfl) ?_
    refine bl_normal ?_
    refine th_normalS hτ ⟨[(1, (vI y)), (2, (.ptr 500000 0)), (5, (.row (.top 500001) 169)), (12, (.sl (List.map c_nest_obstacle s0.obstacles))), (13, (vI (s0.obstacles.length : Int))), (14, (vI s333.1))], [(500000, .box (c_nest_search s0)), (500001, .row 169 [] (List.map c_nest_span x497))]⟩ (here (by kernel_rfl)) ?_
    refine sem_region (by kernel_rfl) ?_
    refine z6 2 (by kernel_rfl) (fun τ hτ => ?_)
    obtain rfl := Option.some.inj h
    exact lk_nextS hτ (here (by kernel_rfl))
  ·replace h := iteF hb h
   refine sem_exitS 0 (by kernel_rfl) rfl (fun τ hτ => ?_)
   refine th_exit ?_
   obtain rfl := Option.some.inj h
   exact lk_outS hτ rfl (subR_prep [] [(500001, 500000)] (by kernel_rfl) rfl rfl (by kernel_rfl))
 ·intro x
  rfl
 ·intro τ hτ
  refine bl_hit (by kernel_rfl) ?_
  refine th_normalS hτ ⟨[(5, (.row (.top 500000) 169))], [(500000, .row 169 [] (List.map c_nest_span x498))]⟩ (here (by kernel_rfl)) ?_
  refine z7 (by kernel_rfl) ?_
  refine evs_run 1 (by kernel_rfl) ?_
  refine evs_at (at_mkb (f := 134) (by kernel_rfl)) ?_
  refine z1 1 ⟨[(5, (.row (.top 500000) 169)), (10, (.lit (.func (.func 134) #[.agg #[]] #[])))], [(500000, .row 169 [] (List.map c_nest_span x498))]⟩ (by kernel_rfl) ?_
  refine z7 (by kernel_rfl) ?_
  refine evs_run 2 (by kernel_rfl) ?_
  obtain ⟨r500, hr500, h⟩ := bindS h
  refine evs_callS [(1000000, 500000)] [] [] (by kernel_rfl) (W.slices_SortFunc_Lnest_span_nest_span__nest_byPlace_compare_k_ok hr500) (by kernel_rfl) (by kernel_rfl) (.inl rfl) ?_
  refine evs_endS (by kernel_rfl) (fun τ hτ => ?_)
  refine th_normalS hτ ⟨[(5, (.row (.top 500000) 169))], [(500000, .row 169 [] (List.map c_nest_span x498))]⟩ (here (by kernel_rfl)) ?_
  refine z8 2 ⟨[(4, (.row (.top 500000) 169))], [(500000, .row 169 [] (List.map c_nest_span x498))]⟩ (by kernel_rfl) (fun τ hτ => ?_)
  obtain rfl := Option.some.inj h
  exact rk_ret hτ [(4, (.row (.top 0) 169))] (subR_prep [] [(500000, 0)] (by kernel_rfl) rfl rfl (by kernel_rfl)) (by kernel_rfl)
theorem W.nest_first_k_ok {l : (List nest_span)} {lo : Int} {hi : Int} {r : Int × Bool} (h : nest_first_k l lo hi = some r) : PC G.P 101 [(.sl (List.map c_nest_span l)), (vI lo), (vI hi)] [] (.tup [(vI r.1), (vB r.2)]) [] := by
 refine pc_of G (fn := Tryz.f101) Tryz.func101 (by kernel_rfl) (by kernel_rfl) (by kernel_rfl) (by kernel_rfl) (by kernel_rfl) ?_
 refine sem_set ⟨[(0, (.sl (List.map c_nest_span l))), (1, (vI lo)), (2, (vI hi))], []⟩ (by kernel_rfl) ?_
 refine z3 2 ⟨[(0, (.sl (List.map c_nest_span l))), (1, (vI lo)), (2, (vI hi))], []⟩ (by kernel_rfl) ?_
 refine z3 2 ⟨[(0, (.sl (List.map c_nest_span l))), (2, (vI hi)), (8, (vI lo))], []⟩ (by kernel_rfl) ?_
 refine sem_seq (by kernel_rfl) ?_
 refine z3 1 ⟨[(0, (.sl (List.map c_nest_span l))), (2, (vI hi)), (8, (vI lo)), (9, (vB true))], []⟩ (by kernel_rfl) ?_
 refine sem_block (by kernel_rfl) ?_
 obtain ⟨x114, hx114, h⟩ := bindS h
 refine sem_loopS (fun (s77 : Int × Bool) => ⟨[(0, (.sl (List.map c_nest_span l))), (2, (vI hi)), (8, (vI s77.1)), (9, (vB s77.2))], []⟩) (fun (x114 : Int) => (.exit 0, ⟨[(2, (vI hi)), (8, (vI x114))], []⟩)) (nest_first_k_l3 l lo hi) (lo, true) x114 (by kernel_rfl) (here (by kernel_rfl)) (iter_loop hx114) ?_ ?_ ?_
 ·intro s77 r h
  refine sem_seq (by kernel_rfl) ?_
  refine z3 1 ⟨[(0, (.sl (List.map c_nest_span l))), (2, (vI hi)), (8, (vI s77.1)), (13, (vB s77.2))], []⟩ (by kernel_rfl) ?_
  refine sem_cond s77.2 (by kernel_rfl) (by kernel_rfl) (fun hb => ?_) (fun hb => ?_)
  ·replace h := iteT hb h
   refine z4 ⟨[(0, (.sl (List.map c_nest_span l))), (2, (vI hi)), (8, (vI s77.1))], []⟩ (by kernel_rfl) ?_
   refine sem_block (by kernel_rfl) ?_
   refine z3 1 ⟨[(0, (.sl (List.map c_nest_span l))), (2, (vI hi)), (8, (vI s77.1)), (9, (vB false))], []⟩ (by kernel_rfl) ?_
   refine z7 (by kernel_rfl) ?_
   refine evs_run 1 (by kernel_rfl) ?_
   refine evs_op (st_len (c := c_nest_span) (l := l) (x := (.sl (List.map c_nest_span l))) (by kernel_rfl) (by kernel_rfl)) ?_
   refine z1 1 ⟨[(0, (.sl (List.map c_nest_span l))), (2, (vI hi)), (8, (vI s77.1)), (9, (vB false)), (14, (.sl (List.map c_nest_span l))), (15, (vI (l.length : Int))), (16, (vI 0))], []⟩ (by kernel_rfl) ?_
   refine sem_block (by kernel_rfl) ?_
   obtain ⟨x113, hx113, h⟩ := bindS h
   refine sem_loopS (fun (s102 : Int × Bool × Int) => ⟨[(0, (.sl (List.map c_nest_span l))), (2, (vI hi)), (8, (vI s102.1)), (9, (vB s102.2.1)), (14, (.sl (List.map c_nest_span l))), (15, (vI (l.length : Int))), (16, (vI s102.2.2))], []⟩) (fun (x113 : Int × Bool) => (.exit 2, ⟨[(0, (.sl (List.map c_nest_span l))), (2, (vI hi)), (8, (vI x113.1)), (9, (vB x113.2))], []⟩)) (nest_first_k_l2 l lo hi) (s77.1, false, 0) x113 (by kernel_rfl) (here (by kernel_rfl)) (iter_loop hx113) ?_ ?_ ?_
   ·intro s102 r h
    refine z3 1 ⟨[(0, (.sl (List.map c_nest_span l))), (2, (vI hi)), (8, (vI s102.1)), (9, (vB s102.2.1)), (14, (.sl (List.map c_nest_span l))), (15, (vI (l.length : Int))), (16, (vI s102.2.2)), (17, (vB (decide (s102.2.2 < (l.length : Int)))))], []⟩ (by kernel_rfl) ?_
    refine sem_seq (by kernel_rfl) ?_
    refine sem_cond (decide (s102.2.2 < (l.length : Int))) (by kernel_rfl) (by kernel_rfl) (fun hb => ?_) (fun hb => ?_)
    ·replace h := iteT hb h
     refine z4 ⟨[(0, (.sl (List.map c_nest_span l))), (2, (vI hi)), (8, (vI s102.1)), (9, (vB s102.2.1)), (14, (.sl (List.map c_nest_span l))), (15, (vI (l.length : Int))), (16, (vI s102.2.2))], []⟩ (by kernel_rfl) ?_
     refine sem_seqJ (fun (j110 : Int × Bool) => ⟨[(0, (.sl (List.map c_nest_span l))), (2, (vI hi)), (8, (vI j110.1)), (9, (vB j110.2)), (14, (.sl (List.map c_nest_span l))), (15, (vI (l.length : Int))), (16, (vI s102.2.2))], []⟩) (nest_first_k_k1 s102) r (by kernel_rfl) (fun j110 h => ?_) ?_
     ·refine sem_region (by kernel_rfl) ?_
      refine z6 2 (by kernel_rfl) (fun τ hτ => ?_)
      obtain rfl := Option.some.inj h
      exact lk_nextS hτ (here (by kernel_rfl))
     refine sem_block (by kernel_rfl) ?_
     refine z7 (by kernel_rfl) ?_
     obtain ⟨x112, hx112, h⟩ := bindS h
     refine evs_op (st_idx (c := c_nest_span) (l := l) (i := s102.2.2) (kd := .i64) (sz := 2) (by kernel_rfl) hx112 rfl) ?_
     refine z1 3 ⟨[(0, (.sl (List.map c_nest_span l))), (2, (vI hi)), (8, (vI s102.1)), (9, (vB s102.2.1)), (11, (.ptr 11 0)), (14, (.sl (List.map c_nest_span l))), (15, (vI (l.length : Int))), (16, (vI s102.2.2))], [(11, .box [(vI x112.lo), (vI x112.hi)])]⟩ (by kernel_rfl) ?_
     refine z7 (by kernel_rfl) ?_
     refine evs_run 5 (by kernel_rfl) ?_
     refine evs_split (decide (x112.lo < s102.1)) (fun b0 => ⟨[(0, (.sl (List.map c_nest_span l))), (2, (vI hi)), (8, (vI s102.1)), (9, (vB s102.2.1)), (11, (.ptr 11 0)), (14, (.sl (List.map c_nest_span l))), (15, (vI (l.length : Int))), (16, (vI s102.2.2)), (24, (vB b0))], [(11, .box [(vI x112.lo), (vI x112.hi)])]⟩) (by kernel_rfl) (fun hb => ?_) (fun hb => ?_)
     ·replace h := iteT hb h
      refine z1 5 ⟨[(0, (.sl (List.map c_nest_span l))), (2, (vI hi)), (8, (vI s102.1)), (9, (vB s102.2.1)), (11, (.ptr 11 0)), (14, (.sl (List.map c_nest_span l))), (15, (vI (l.length : Int))), (16, (vI s102.2.2)), (29, (vB (decide (s102.1 < x112.hi))))], [(11, .box [(vI x112.lo), (vI x112.hi)])]⟩ (by kernel_rfl) ?_
      refine sem_cond (decide (s102.1 < x112.hi)) (by kernel_rfl) (by kernel_rfl) (fun hb => ?_) (fun hb => ?_)
      ·replace h := iteT hb h
       refine z3 3 ⟨[(0, (.sl (List.map c_nest_span l))), (2, (vI hi)), (8, (vI x112.hi)), (14, (.sl (List.map c_nest_span l))), (15, (vI (l.length : Int))), (16, (vI s102.2.2))], []⟩ (by kernel_rfl) ?_
       refine sem_region (by kernel_rfl) ?_
       refine z6 1 (by kernel_rfl) (fun τ hτ => ?_)
       refine bl_normal ?_
       exact jk_normal (x112.hi, true) h hτ (here (by kernel_rfl))
      ·replace h := iteF hb h
       refine sem_skipS (by kernel_rfl) (fun τ hτ => ?_)
       refine bl_normal ?_
       exact jk_normal (s102.1, s102.2.1) h hτ (here (by kernel_rfl))
     ·replace h := iteF hb h
      exact nomatch h
    ·replace h := iteF hb h
     refine sem_exitS 2 (by kernel_rfl) rfl (fun τ hτ => ?_)
     refine th_exit ?_
     obtain rfl := Option.some.inj h
     exact lk_outS hτ rfl (here (by kernel_rfl))
   ·intro x
    rfl
   ·intro τ hτ
    refine bl_hit (by kernel_rfl) ?_
    refine bl_normal ?_
    obtain rfl := Option.some.inj h
    exact lk_nextS hτ (here (by kernel_rfl))
  ·replace h := iteF hb h
   refine sem_exitS 0 (by kernel_rfl) rfl (fun τ hτ => ?_)
   refine th_exit ?_
   obtain rfl := Option.some.inj h
   exact lk_outS hτ rfl (here (by kernel_rfl))
 ·intro x
  rfl
 ·intro τ hτ
  refine bl_hit (by kernel_rfl) ?_
  refine th_normalS hτ ⟨[(2, (vI hi)), (8, (vI x114))], []⟩ (here (by kernel_rfl)) ?_
  refine z8 6 ⟨[(6, (vI x114)), (7, (vB (decide (x114 ≤ hi))))], []⟩ (by kernel_rfl) (fun τ hτ => ?_)
  obtain rfl := Option.some.inj h
  exact rk_ret hτ [(6, (vI x114)), (7, (vB (decide (x114 ≤ hi))))] (here (by kernel_rfl)) (by kernel_rfl)
theorem W.nest_search_place_k_ok {s0 : nest_search} {r : Int × Int × Bool} (h : nest_search_place_k s0 = some r) : PC G.P 69 [(.agg (c_nest_search s0))] [] (.tup [(vI r.1), (vI r.2.1), (vB r.2.2)]) [] := by
 refine pc_of G (fn := Tryz.f69) Tryz.func69 (by kernel_rfl) (by kernel_rfl) (by kernel_rfl) (by kernel_rfl) (by kernel_rfl) ?_
 refine sem_set ⟨[(0, (.agg (c_nest_search s0)))], []⟩ (by kernel_rfl) ?_
 refine z3 4 ⟨[(1, (.ptr 1 0))], [(1, .box (c_nest_search s0))]⟩ (by kernel_rfl) ?_
 refine sem_seq (by kernel_rfl) ?_
 refine z7 (by kernel_rfl) ?_
 refine evs_run 7 (by kernel_rfl) ?_
 refine evs_split (decide (s0.w > s0.area.W)) (fun b0 => ⟨[(1, (.ptr 1 0)), (15, (vB b0))], [(1, .box (c_nest_search s0))]⟩) (by kernel_rfl) (fun hb => ?_) (fun hb => ?_)
 ·replace h := iteT hb h
  exact nomatch h
 ·replace h := iteF hb h
  refine z1 7 ⟨[(1, (.ptr 1 0)), (22, (vB (decide (s0.h > s0.area.H))))], [(1, .box (c_nest_search s0))]⟩ (by kernel_rfl) ?_
  refine sem_cond (decide (s0.h > s0.area.H)) (by kernel_rfl) (by kernel_rfl) (fun hb => ?_) (fun hb => ?_)
  ·replace h := iteT hb h
   exact nomatch h
  ·replace h := iteF hb h
   refine z4 ⟨[(1, (.ptr 1 0))], [(1, .box (c_nest_search s0))]⟩ (by kernel_rfl) ?_
   refine sem_seq (by kernel_rfl) ?_
   refine z7 (by kernel_rfl) ?_
   refine evs_run 1 (by kernel_rfl) ?_
   obtain ⟨r38, hr38, h⟩ := bindS h
   refine evs_callS [] [(0, 700050)] [] (by kernel_rfl) (W.nest_search_heights_k_ok hr38) (by kernel_rfl) (by kernel_rfl) (.inl rfl) ?_
   refine evs_op (st_len (c := cI) (l := r38) (x := (.row (.top 700050) 3)) (by kernel_rfl) (by kernel_rfl)) ?_
   refine z1 1 ⟨[(1, (.ptr 1 0)), (24, (.row (.top 700050) 3)), (25, (vI (r38.length : Int))), (26, (vI 0))], [(1, .box (c_nest_search s0)), (700050, .row 3 [] (List.map cI r38))]⟩ (by kernel_rfl) ?_
   refine sem_block (by kernel_rfl) ?_
   obtain ⟨x72, hx72, h⟩ := bindS h
   refine sem_loopS (fun (s39 : Unit) => ⟨[(1, (.ptr 500000 0)), (24, (.row (.top 500001) 3)), (25, (vI (r38.length : Int))), (26, (vI 0))], [(500000, .box (c_nest_search s0)), (500001, .row 3 [] (List.map cI r38))]⟩) (fun (x72 : Int × Int) => (.ret, ⟨[(2, (vI x72.1)), (3, (vI x72.2)), (4, (vB true))], []⟩)) (nest_search_place_k_l1 s0 r38) () x72 (by kernel_rfl) (subR_prep [] [(1, 500000), (700050, 500001)] (by kernel_rfl) rfl rfl (by kernel_rfl)) (iter_loop hx72) ?_ ?_ ?_
   ·intro s39 r h
    refine z3 1 ⟨[(1, (.ptr 500000 0)), (24, (.row (.top 500001) 3)), (25, (vI (r38.length : Int))), (26, (vI 0)), (27, (vB (decide (0 < (r38.length : Int)))))], [(500000, .box (c_nest_search s0)), (500001, .row 3 [] (List.map cI r38))]⟩ (by kernel_rfl) ?_
    refine sem_seq (by kernel_rfl) ?_
    refine sem_cond (decide (0 < (r38.length : Int))) (by kernel_rfl) (by kernel_rfl) (fun hb => ?_) (fun hb => ?_)
    ·replace h := iteT hb h
     refine z4 ⟨[(1, (.ptr 500000 0)), (24, (.row (.top 500001) 3)), (25, (vI (r38.length : Int))), (26, (vI 0))], [(500000, .box (c_nest_search s0)), (500001, .row 3 [] (List.map cI r38))]⟩ (by kernel_rfl) ?_
     refine sem_seq (by kernel_rfl) ?_
     refine sem_block (by kernel_rfl) ?_
     refine z7 (by kernel_rfl) ?_
     obtain ⟨x65, hx65, h⟩ := bindS h
     refine evs_op (st_idxO (c := cI) (l := r38) (i := 0) (kd := .i64) (kk := (.top 500001)) (e := 3) (sz := 1) (by kernel_rfl) (by kernel_rfl) hx65 rfl) ?_
     refine evs_op (st_ldO (c := cI) (l := r38) (i := (Int.toNat 0)) (v := (vI x65)) (agg := false) (sz := 1) (kk := (.top 500001)) (e := 3) (off := 0) (J := []) (by kernel_rfl) (by kernel_rfl) (by kernel_rfl) ((idxS hx65).2) (by kernel_rfl)) ?_
     refine z1 1 ⟨[(1, (.ptr 500000 0)), (6, (vI x65)), (24, (.row (.top 500001) 3)), (25, (vI (r38.length : Int))), (26, (vI 0))], [(500000, .box (c_nest_search s0)), (500001, .row 3 [] (List.map cI r38))]⟩ (by kernel_rfl) ?_
     refine sem_seq (by kernel_rfl) ?_
     refine sem_draw [(2, [700100])] [(2, [700100])] [(16, [700100])] [(3, [700100]), (4, [700100]), (5, [700100]), (6, [700100]), (7, [700100]), (8, [700100]), (9, [700100]), (10, [700100]), (11, [700100]), (12, [700100]), (13, [700100]), (14, [700100]), (15, [700100])] [(0, [700100]), (1, [700100]), (3, [700100]), (4, [700100]), (5, [700100]), (6, [700100]), (7, [700100]), (8, [700100]), (9, [700100]), (10, [700100]), (11, [700100]), (12, [700100]), (13, [700100]), (14, [700100]), (15, [700100])] 21 (by kernel_rfl) (by kernel_rfl) [700100] (by kernel_rfl) (by kernel_rfl) ?_
     refine evd_run 2 (by kernel_rfl) ?_
     obtain ⟨r70, hr70, h⟩ := bindS h
     refine evd_callS [(0, 700100)] [] (by kernel_rfl) (by kernel_rfl) (W.nest_search_blocked_k_ok hr70) (by kernel_rfl) (.inl rfl) (by kernel_rfl) (by kernel_rfl) ?_
     refine evd_run 13 (by kernel_rfl) ?_
     obtain ⟨r71, hr71, h⟩ := bindS h
     refine evd_callS [] [700100] (by kernel_rfl) (by kernel_rfl) (W.nest_first_k_ok hr71) (by kernel_rfl) (.inr ⟨rfl, fun _ _ => ind_nil⟩) (by kernel_rfl) (by kernel_rfl) ?_
     refine evd_run 4 (by kernel_rfl) ?_
     refine evd_end (by kernel_rfl) ?_
     refine evo_run 1 (by kernel_rfl) ?_
     refine evo_endS (by kernel_rfl) (fun τ hτ => ?_)
     refine th_normalS hτ ⟨[(1, (.ptr 500000 0)), (6, (vI x65)), (7, (vI r71.1)), (8, (vB r71.2)), (24, (.row (.top 500001) 3)), (25, (vI (r38.length : Int))), (26, (vI 0))], [(500000, .box (c_nest_search s0)), (500001, .row 3 [] (List.map cI r38))]⟩ (here (by kernel_rfl)) ?_
     refine z3 1 ⟨[(1, (.ptr 500000 0)), (6, (vI x65)), (7, (vI r71.1)), (24, (.row (.top 500001) 3)), (25, (vI (r38.length : Int))), (26, (vI 0)), (50, (vB r71.2))], [(500000, .box (c_nest_search s0)), (500001, .row 3 [] (List.map cI r38))]⟩ (by kernel_rfl) ?_
     refine sem_cond r71.2 (by kernel_rfl) (by kernel_rfl) (fun hb => ?_) (fun hb => ?_)
     ·replace h := iteT hb h
      refine z8 5 ⟨[(2, (vI r71.1)), (3, (vI x65)), (4, (vB true))], []⟩ (by kernel_rfl) (fun τ hτ => ?_)
      refine bl_ret ?_
      refine th_ret ?_
      obtain rfl := Option.some.inj h
      exact lk_outS hτ rfl (here (by kernel_rfl))
     ·replace h := iteF hb h
      exact nomatch h
    ·replace h := iteF hb h
     exact nomatch h
   ·intro x
    rfl
   ·intro τ hτ
    refine bl_ret ?_
    refine th_ret ?_
    obtain rfl := Option.some.inj h
    exact rk_ret hτ [(2, (vI x72.1)), (3, (vI x72.2)), (4, (vB true))] (here (by kernel_rfl)) (by kernel_rfl)
end Go.Proofs.YtonmponhpfpokaaGreatR
