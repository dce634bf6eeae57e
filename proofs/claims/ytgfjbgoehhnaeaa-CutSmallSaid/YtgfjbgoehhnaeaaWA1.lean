/- Each Go function does what its model says; written by a program out of the translation. -/
import Derived.Test.YtgfjbgoehhnaeaaWA
import Derived.Test.YtgfjbgoehhnaeaaCaMA
set_option linter.unusedVariables false
set_option linter.unusedSimpArgs false
set_option linter.unusedSectionVars false
namespace Go.Proofs.Ytgfjbgoehhnaeaa
open Go Go.VI Go.SM Go.Proofs
set_option maxRecDepth 100000
set_option maxHeartbeats 4000000
theorem W.cut_Validate_k_ok {l : LayoutT} {r : Int} (h : cut_Validate_k l = some r) : PC G.P 33 [(.agg [(vS l.Sheet.Name), (vS l.Sheet.Material), (vI l.Sheet.Gauge), (vI l.Sheet.Grain), (vI l.Sheet.Width), (vI l.Sheet.Height), (.sl (List.map c_Rect l.Sheet.Clamps)), (.sl (List.map c_Rect l.Sheet.Used)), (.sl (List.map c_Piece l.Pieces))])] [] (vI r) [] := by
 refine pc_of G (fn := Try.f33) Try.func33 (by kernel_rfl) (by kernel_rfl) (by kernel_rfl) (by kernel_rfl) (by kernel_rfl) ?_
 refine sem_set ⟨[(0, (.agg [(vS l.Sheet.Name), (vS l.Sheet.Material), (vI l.Sheet.Gauge), (vI l.Sheet.Grain), (vI l.Sheet.Width), (vI l.Sheet.Height), (.sl (List.map c_Rect l.Sheet.Clamps)), (.sl (List.map c_Rect l.Sheet.Used)), (.sl (List.map c_Piece l.Pieces))]))], []⟩ (by kernel_rfl) ?_
 refine z3 2 ⟨[(1, (.ptr 1 0))], [(1, .box [(vS l.Sheet.Name), (vS l.Sheet.Material), (vI l.Sheet.Gauge), (vI l.Sheet.Grain), (vI l.Sheet.Width), (vI l.Sheet.Height), (.sl (List.map c_Rect l.Sheet.Clamps)), (.sl (List.map c_Rect l.Sheet.Used)), (.sl (List.map c_Piece l.Pieces))])]⟩ (by kernel_rfl) ?_
 refine sem_seq (by kernel_rfl) ?_
 refine z7 (by kernel_rfl) ?_
 refine evs_run 2 (by kernel_rfl) ?_
 obtain ⟨r4, hr4, h⟩ := bindS h
 refine evs_callP [] (by kernel_rfl) (W.nest_ValidateSheet_k_ok hr4) (by kernel_rfl) (.inl rfl) (by kernel_rfl) ?_
 refine z1 1 ⟨[(1, (.ptr 1 0)), (3, (vI r4))], [(1, .box [(vS l.Sheet.Name), (vS l.Sheet.Material), (vI l.Sheet.Gauge), (vI l.Sheet.Grain), (vI l.Sheet.Width), (vI l.Sheet.Height), (.sl (List.map c_Rect l.Sheet.Clamps)), (.sl (List.map c_Rect l.Sheet.Used)), (.sl (List.map c_Piece l.Pieces))])]⟩ (by kernel_rfl) ?_
 refine z3 2 ⟨[(1, (.ptr 1 0)), (3, (vI r4)), (22, (vB (r4 != 0)))], [(1, .box [(vS l.Sheet.Name), (vS l.Sheet.Material), (vI l.Sheet.Gauge), (vI l.Sheet.Grain), (vI l.Sheet.Width), (vI l.Sheet.Height), (.sl (List.map c_Rect l.Sheet.Clamps)), (.sl (List.map c_Rect l.Sheet.Used)), (.sl (List.map c_Piece l.Pieces))])]⟩ (by kernel_rfl) ?_
 refine sem_cond (r4 != 0) (by kernel_rfl) (by kernel_rfl) (fun hb => ?_) (fun hb => ?_)
 ·replace h := iteT hb h
  exact nomatch h
 ·replace h := iteF hb h
  refine z4 ⟨[(1, (.ptr 1 0))], [(1, .box [(vS l.Sheet.Name), (vS l.Sheet.Material), (vI l.Sheet.Gauge), (vI l.Sheet.Grain), (vI l.Sheet.Width), (vI l.Sheet.Height), (.sl (List.map c_Rect l.Sheet.Clamps)), (.sl (List.map c_Rect l.Sheet.Used)), (.sl (List.map c_Piece l.Pieces))])]⟩ (by kernel_rfl) ?_
  refine sem_seq (by kernel_rfl) ?_
  refine z7 (by kernel_rfl) ?_
  refine evs_run 2 (by kernel_rfl) ?_
  refine evs_op (st_len (c := c_Piece) (l := l.Pieces) (x := (.sl (List.map c_Piece l.Pieces))) (by kernel_rfl) (by kernel_rfl)) ?_
  refine z1 1 ⟨[(1, (.ptr 1 0)), (27, (vB (decide ((l.Pieces.length : Int) > 8))))], [(1, .box [(vS l.Sheet.Name), (vS l.Sheet.Material), (vI l.Sheet.Gauge), (vI l.Sheet.Grain), (vI l.Sheet.Width), (vI l.Sheet.Height), (.sl (List.map c_Rect l.Sheet.Clamps)), (.sl (List.map c_Rect l.Sheet.Used)), (.sl (List.map c_Piece l.Pieces))])]⟩ (by kernel_rfl) ?_
  refine sem_cond (decide ((l.Pieces.length : Int) > 8)) (by kernel_rfl) (by kernel_rfl) (fun hb => ?_) (fun hb => ?_)
  ·replace h := iteT hb h
   exact nomatch h
  ·replace h := iteF hb h
   refine z4 ⟨[(1, (.ptr 1 0))], [(1, .box [(vS l.Sheet.Name), (vS l.Sheet.Material), (vI l.Sheet.Gauge), (vI l.Sheet.Grain), (vI l.Sheet.Width), (vI l.Sheet.Height), (.sl (List.map c_Rect l.Sheet.Clamps)), (.sl (List.map c_Rect l.Sheet.Used)), (.sl (List.map c_Piece l.Pieces))])]⟩ (by kernel_rfl) ?_
   refine sem_seq (by kernel_rfl) ?_
   refine z7 (by kernel_rfl) ?_
   refine evs_run 2 (by kernel_rfl) ?_
   refine evs_op (st_len (c := c_Piece) (l := l.Pieces) (x := (.sl (List.map c_Piece l.Pieces))) (by kernel_rfl) (by kernel_rfl)) ?_
   refine z1 1 ⟨[(1, (.ptr 1 0)), (29, (.sl (List.map c_Piece l.Pieces))), (30, (vI (l.Pieces.length : Int))), (31, (vI 0))], [(1, .box [(vS l.Sheet.Name), (vS l.Sheet.Material), (vI l.Sheet.Gauge), (vI l.Sheet.Grain), (vI l.Sheet.Width), (vI l.Sheet.Height), (.sl (List.map c_Rect l.Sheet.Clamps)), (.sl (List.map c_Rect l.Sheet.Used)), (.sl (List.map c_Piece l.Pieces))])]⟩ (by kernel_rfl) ?_
   refine sem_block (by kernel_rfl) ?_
   obtain ⟨x58, hx58, h⟩ := bindS h
   refine sem_loopS (fun (s41 : Int) => ⟨[(1, (.ptr 500000 0)), (29, (.sl (List.map c_Piece l.Pieces))), (30, (vI (l.Pieces.length : Int))), (31, (vI s41))], [(500000, .box [(vS l.Sheet.Name), (vS l.Sheet.Material), (vI l.Sheet.Gauge), (vI l.Sheet.Grain), (vI l.Sheet.Width), (vI l.Sheet.Height), (.sl (List.map c_Rect l.Sheet.Clamps)), (.sl (List.map c_Rect l.Sheet.Used)), (.sl (List.map c_Piece l.Pieces))])]⟩) (fun (x58 : Unit) => (.exit 0, ⟨[(1, (.ptr 500000 0))], [(500000, .box [(vS l.Sheet.Name), (vS l.Sheet.Material), (vI l.Sheet.Gauge), (vI l.Sheet.Grain), (vI l.Sheet.Width), (vI l.Sheet.Height), (.sl (List.map c_Rect l.Sheet.Clamps)), (.sl (List.map c_Rect l.Sheet.Used)), (.sl (List.map c_Piece l.Pieces))])]⟩)) (cut_Validate_k_l1 l) 0 x58 (by kernel_rfl) (subR_prep [] [(1, 500000)] (by kernel_rfl) rfl rfl (by kernel_rfl)) (iter_loop hx58) ?_ ?_ ?_
   ·intro s41 r h
    refine z3 1 ⟨[(1, (.ptr 500000 0)), (29, (.sl (List.map c_Piece l.Pieces))), (30, (vI (l.Pieces.length : Int))), (31, (vI s41)), (32, (vB (decide (s41 < (l.Pieces.length : Int)))))], [(500000, .box [(vS l.Sheet.Name), (vS l.Sheet.Material), (vI l.Sheet.Gauge), (vI l.Sheet.Grain), (vI l.Sheet.Width), (vI l.Sheet.Height), (.sl (List.map c_Rect l.Sheet.Clamps)), (.sl (List.map c_Rect l.Sheet.Used)), (.sl (List.map c_Piece l.Pieces))])]⟩ (by kernel_rfl) ?_
    refine sem_seq (by kernel_rfl) ?_
    refine sem_cond (decide (s41 < (l.Pieces.length : Int))) (by kernel_rfl) (by kernel_rfl) (fun hb => ?_) (fun hb => ?_)
    ·replace h := iteT hb h
     refine z4 ⟨[(1, (.ptr 500000 0)), (29, (.sl (List.map c_Piece l.Pieces))), (30, (vI (l.Pieces.length : Int))), (31, (vI s41))], [(500000, .box [(vS l.Sheet.Name), (vS l.Sheet.Material), (vI l.Sheet.Gauge), (vI l.Sheet.Grain), (vI l.Sheet.Width), (vI l.Sheet.Height), (.sl (List.map c_Rect l.Sheet.Clamps)), (.sl (List.map c_Rect l.Sheet.Used)), (.sl (List.map c_Piece l.Pieces))])]⟩ (by kernel_rfl) ?_
     refine sem_seq (by kernel_rfl) ?_
     refine sem_block (by kernel_rfl) ?_
     refine z7 (by kernel_rfl) ?_
     obtain ⟨x55, hx55, h⟩ := bindS h
     refine evs_op (st_idx (c := c_Piece) (l := l.Pieces) (i := s41) (kd := .i64) (sz := 7) (by kernel_rfl) hx55 rfl) ?_
     refine z1 3 ⟨[(1, (.ptr 500000 0)), (5, (.ptr 5 0)), (29, (.sl (List.map c_Piece l.Pieces))), (30, (vI (l.Pieces.length : Int))), (31, (vI s41))], [(5, .box [(vS x55.Name), (vS x55.Material), (vI x55.Gauge), (vI x55.Grain), (.sl (List.map c_Rect x55.Rects)), (.sl (List.map c_Rect x55.Cuts)), (.sl (List.map c_Rect x55.Forms))]), (500000, .box [(vS l.Sheet.Name), (vS l.Sheet.Material), (vI l.Sheet.Gauge), (vI l.Sheet.Grain), (vI l.Sheet.Width), (vI l.Sheet.Height), (.sl (List.map c_Rect l.Sheet.Clamps)), (.sl (List.map c_Rect l.Sheet.Used)), (.sl (List.map c_Piece l.Pieces))])]⟩ (by kernel_rfl) ?_
     refine z7 (by kernel_rfl) ?_
     refine evs_run 1 (by kernel_rfl) ?_
     obtain ⟨r57, hr57, h⟩ := bindS h
     refine evs_callP [] (by kernel_rfl) (W.cut_pieceError_k_ok hr57) (by kernel_rfl) (.inl rfl) (by kernel_rfl) ?_
     refine z1 1 ⟨[(1, (.ptr 500000 0)), (6, (vI r57)), (29, (.sl (List.map c_Piece l.Pieces))), (30, (vI (l.Pieces.length : Int))), (31, (vI s41))], [(500000, .box [(vS l.Sheet.Name), (vS l.Sheet.Material), (vI l.Sheet.Gauge), (vI l.Sheet.Grain), (vI l.Sheet.Width), (vI l.Sheet.Height), (.sl (List.map c_Rect l.Sheet.Clamps)), (.sl (List.map c_Rect l.Sheet.Used)), (.sl (List.map c_Piece l.Pieces))])]⟩ (by kernel_rfl) ?_
     refine z3 2 ⟨[(1, (.ptr 500000 0)), (6, (vI r57)), (29, (.sl (List.map c_Piece l.Pieces))), (30, (vI (l.Pieces.length : Int))), (31, (vI s41)), (38, (vB (r57 != 0)))], [(500000, .box [(vS l.Sheet.Name), (vS l.Sheet.Material), (vI l.Sheet.Gauge), (vI l.Sheet.Grain), (vI l.Sheet.Width), (vI l.Sheet.Height), (.sl (List.map c_Rect l.Sheet.Clamps)), (.sl (List.map c_Rect l.Sheet.Used)), (.sl (List.map c_Piece l.Pieces))])]⟩ (by kernel_rfl) ?_
     refine sem_cond (r57 != 0) (by kernel_rfl) (by kernel_rfl) (fun hb => ?_) (fun hb => ?_)
     ·replace h := iteT hb h
      exact nomatch h
     ·replace h := iteF hb h
      refine sem_skipS (by kernel_rfl) (fun τ hτ => ?_)
      refine bl_normal ?_
      refine th_normalS hτ ⟨[(1, (.ptr 500000 0)), (29, (.sl (List.map c_Piece l.Pieces))), (30, (vI (l.Pieces.length : Int))), (31, (vI s41))], [(500000, .box [(vS l.Sheet.Name), (vS l.Sheet.Material), (vI l.Sheet.Gauge), (vI l.Sheet.Grain), (vI l.Sheet.Width), (vI l.Sheet.Height), (.sl (List.map c_Rect l.Sheet.Clamps)), (.sl (List.map c_Rect l.Sheet.Used)), (.sl (List.map c_Piece l.Pieces))])]⟩ (here (by kernel_rfl)) ?_
      refine sem_region (by kernel_rfl) ?_
      refine z6 2 (by kernel_rfl) (fun τ hτ => ?_)
      obtain rfl := Option.some.inj h
      exact lk_nextS hτ (here (by kernel_rfl))
    ·replace h := iteF hb h
     refine sem_exitS 0 (by kernel_rfl) rfl (fun τ hτ => ?_)
     refine th_exit ?_
     obtain rfl := Option.some.inj h
     exact lk_outS hτ rfl (here (by kernel_rfl))
   ·intro x
    rfl
   ·intro τ hτ
    refine bl_hit (by kernel_rfl) ?_
    refine th_normalS hτ ⟨[(1, (.ptr 500000 0))], [(500000, .box [(vS l.Sheet.Name), (vS l.Sheet.Material), (vI l.Sheet.Gauge), (vI l.Sheet.Grain), (vI l.Sheet.Width), (vI l.Sheet.Height), (.sl (List.map c_Rect l.Sheet.Clamps)), (.sl (List.map c_Rect l.Sheet.Used)), (.sl (List.map c_Piece l.Pieces))])]⟩ (here (by kernel_rfl)) ?_
    refine z3 9 ⟨[(1, (.ptr 500000 0)), (7, (.ptr 7 0))], [(7, .box [(vI 0), (vI 0), (vI l.Sheet.Width), (vI l.Sheet.Height)]), (500000, .box [(vS l.Sheet.Name), (vS l.Sheet.Material), (vI l.Sheet.Gauge), (vI l.Sheet.Grain), (vI l.Sheet.Width), (vI l.Sheet.Height), (.sl (List.map c_Rect l.Sheet.Clamps)), (.sl (List.map c_Rect l.Sheet.Used)), (.sl (List.map c_Piece l.Pieces))])]⟩ (by kernel_rfl) ?_
    refine sem_seq (by kernel_rfl) ?_
    refine z7 (by kernel_rfl) ?_
    refine evs_run 2 (by kernel_rfl) ?_
    refine evs_op (st_len (c := c_Piece) (l := l.Pieces) (x := (.sl (List.map c_Piece l.Pieces))) (by kernel_rfl) (by kernel_rfl)) ?_
    refine z1 1 ⟨[(1, (.ptr 500000 0)), (7, (.ptr 7 0)), (49, (.sl (List.map c_Piece l.Pieces))), (50, (vI (l.Pieces.length : Int))), (51, (vI 0))], [(7, .box [(vI 0), (vI 0), (vI l.Sheet.Width), (vI l.Sheet.Height)]), (500000, .box [(vS l.Sheet.Name), (vS l.Sheet.Material), (vI l.Sheet.Gauge), (vI l.Sheet.Grain), (vI l.Sheet.Width), (vI l.Sheet.Height), (.sl (List.map c_Rect l.Sheet.Clamps)), (.sl (List.map c_Rect l.Sheet.Used)), (.sl (List.map c_Piece l.Pieces))])]⟩ (by kernel_rfl) ?_
    refine sem_block (by kernel_rfl) ?_
    obtain ⟨x700, hx700, h⟩ := bindS h
    refine sem_loopS (fun (s487 : Int) => ⟨[(1, (.ptr 500000 0)), (7, (.ptr 500001 0)), (49, (.sl (List.map c_Piece l.Pieces))), (50, (vI (l.Pieces.length : Int))), (51, (vI s487))], [(500000, .box [(vS l.Sheet.Name), (vS l.Sheet.Material), (vI l.Sheet.Gauge), (vI l.Sheet.Grain), (vI l.Sheet.Width), (vI l.Sheet.Height), (.sl (List.map c_Rect l.Sheet.Clamps)), (.sl (List.map c_Rect l.Sheet.Used)), (.sl (List.map c_Piece l.Pieces))]), (500001, .box [(vI 0), (vI 0), (vI l.Sheet.Width), (vI l.Sheet.Height)])]⟩) (fun (x700 : Unit) => (.exit 2, ⟨[(1, (.ptr 500000 0))], [(500000, .box [(vS l.Sheet.Name), (vS l.Sheet.Material), (vI l.Sheet.Gauge), (vI l.Sheet.Grain), (vI l.Sheet.Width), (vI l.Sheet.Height), (.sl (List.map c_Rect l.Sheet.Clamps)), (.sl (List.map c_Rect l.Sheet.Used)), (.sl (List.map c_Piece l.Pieces))])]⟩)) (cut_Validate_k_l3 l) 0 x700 (by kernel_rfl) (subR_prep [] [(7, 500001), (500000, 500000)] (by kernel_rfl) rfl rfl (by kernel_rfl)) (iter_loop hx700) ?_ ?_ ?_
    ·intro s487 r h
     refine z3 1 ⟨[(1, (.ptr 500000 0)), (7, (.ptr 500001 0)), (49, (.sl (List.map c_Piece l.Pieces))), (50, (vI (l.Pieces.length : Int))), (51, (vI s487)), (52, (vB (decide (s487 < (l.Pieces.length : Int)))))], [(500000, .box [(vS l.Sheet.Name), (vS l.Sheet.Material), (vI l.Sheet.Gauge), (vI l.Sheet.Grain), (vI l.Sheet.Width), (vI l.Sheet.Height), (.sl (List.map c_Rect l.Sheet.Clamps)), (.sl (List.map c_Rect l.Sheet.Used)), (.sl (List.map c_Piece l.Pieces))]), (500001, .box [(vI 0), (vI 0), (vI l.Sheet.Width), (vI l.Sheet.Height)])]⟩ (by kernel_rfl) ?_
     refine sem_seq (by kernel_rfl) ?_
     refine sem_cond (decide (s487 < (l.Pieces.length : Int))) (by kernel_rfl) (by kernel_rfl) (fun hb => ?_) (fun hb => ?_)
     ·replace h := iteT hb h
      refine z4 ⟨[(1, (.ptr 500000 0)), (7, (.ptr 500001 0)), (49, (.sl (List.map c_Piece l.Pieces))), (50, (vI (l.Pieces.length : Int))), (51, (vI s487))], [(500000, .box [(vS l.Sheet.Name), (vS l.Sheet.Material), (vI l.Sheet.Gauge), (vI l.Sheet.Grain), (vI l.Sheet.Width), (vI l.Sheet.Height), (.sl (List.map c_Rect l.Sheet.Clamps)), (.sl (List.map c_Rect l.Sheet.Used)), (.sl (List.map c_Piece l.Pieces))]), (500001, .box [(vI 0), (vI 0), (vI l.Sheet.Width), (vI l.Sheet.Height)])]⟩ (by kernel_rfl) ?_
      refine sem_seq (by kernel_rfl) ?_
      refine sem_block (by kernel_rfl) ?_
      refine z7 (by kernel_rfl) ?_
      obtain ⟨x648, hx648, h⟩ := bindS h
      refine evs_op (st_idx (c := c_Piece) (l := l.Pieces) (i := s487) (kd := .i64) (sz := 7) (by kernel_rfl) hx648 rfl) ?_
      refine z1 3 ⟨[(1, (.ptr 500000 0)), (7, (.ptr 500001 0)), (9, (.ptr 9 0)), (49, (.sl (List.map c_Piece l.Pieces))), (50, (vI (l.Pieces.length : Int))), (51, (vI s487))], [(9, .box [(vS x648.Name), (vS x648.Material), (vI x648.Gauge), (vI x648.Grain), (.sl (List.map c_Rect x648.Rects)), (.sl (List.map c_Rect x648.Cuts)), (.sl (List.map c_Rect x648.Forms))]), (500000, .box [(vS l.Sheet.Name), (vS l.Sheet.Material), (vI l.Sheet.Gauge), (vI l.Sheet.Grain), (vI l.Sheet.Width), (vI l.Sheet.Height), (.sl (List.map c_Rect l.Sheet.Clamps)), (.sl (List.map c_Rect l.Sheet.Used)), (.sl (List.map c_Piece l.Pieces))]), (500001, .box [(vI 0), (vI 0), (vI l.Sheet.Width), (vI l.Sheet.Height)])]⟩ (by kernel_rfl) ?_
      refine z7 (by kernel_rfl) ?_
      refine evs_run 2 (by kernel_rfl) ?_
      refine evs_op (st_len (c := c_Rect) (l := x648.Rects) (x := (.sl (List.map c_Rect x648.Rects))) (by kernel_rfl) (by kernel_rfl)) ?_
      refine z1 1 ⟨[(1, (.ptr 500000 0)), (7, (.ptr 500001 0)), (49, (.sl (List.map c_Piece l.Pieces))), (50, (vI (l.Pieces.length : Int))), (51, (vI s487)), (56, (.sl (List.map c_Rect x648.Rects))), (57, (vI (x648.Rects.length : Int))), (58, (vI 0))], [(500000, .box [(vS l.Sheet.Name), (vS l.Sheet.Material), (vI l.Sheet.Gauge), (vI l.Sheet.Grain), (vI l.Sheet.Width), (vI l.Sheet.Height), (.sl (List.map c_Rect l.Sheet.Clamps)), (.sl (List.map c_Rect l.Sheet.Used)), (.sl (List.map c_Piece l.Pieces))]), (500001, .box [(vI 0), (vI 0), (vI l.Sheet.Width), (vI l.Sheet.Height)])]⟩ (by kernel_rfl) ?_
      refine sem_block (by kernel_rfl) ?_
      obtain ⟨x699, hx699, h⟩ := bindS h
      refine sem_loopS (fun (s666 : Int) => ⟨[(1, (.ptr 500000 0)), (7, (.ptr 500001 0)), (49, (.sl (List.map c_Piece l.Pieces))), (50, (vI (l.Pieces.length : Int))), (51, (vI s487)), (56, (.sl (List.map c_Rect x648.Rects))), (57, (vI (x648.Rects.length : Int))), (58, (vI s666))], [(500000, .box [(vS l.Sheet.Name), (vS l.Sheet.Material), (vI l.Sheet.Gauge), (vI l.Sheet.Grain), (vI l.Sheet.Width), (vI l.Sheet.Height), (.sl (List.map c_Rect l.Sheet.Clamps)), (.sl (List.map c_Rect l.Sheet.Used)), (.sl (List.map c_Piece l.Pieces))]), (500001, .box [(vI 0), (vI 0), (vI l.Sheet.Width), (vI l.Sheet.Height)])]⟩) (fun (x699 : Unit) => (.exit 4, ⟨[(1, (.ptr 500000 0)), (7, (.ptr 500001 0)), (49, (.sl (List.map c_Piece l.Pieces))), (50, (vI (l.Pieces.length : Int))), (51, (vI s487))], [(500000, .box [(vS l.Sheet.Name), (vS l.Sheet.Material), (vI l.Sheet.Gauge), (vI l.Sheet.Grain), (vI l.Sheet.Width), (vI l.Sheet.Height), (.sl (List.map c_Rect l.Sheet.Clamps)), (.sl (List.map c_Rect l.Sheet.Used)), (.sl (List.map c_Piece l.Pieces))]), (500001, .box [(vI 0), (vI 0), (vI l.Sheet.Width), (vI l.Sheet.Height)])]⟩)) (cut_Validate_k_l2 l x648) 0 x699 (by kernel_rfl) (here (by kernel_rfl)) (iter_loop hx699) ?_ ?_ ?_
      ·intro s666 r h
       refine z3 1 ⟨[(1, (.ptr 500000 0)), (7, (.ptr 500001 0)), (49, (.sl (List.map c_Piece l.Pieces))), (50, (vI (l.Pieces.length : Int))), (51, (vI s487)), (56, (.sl (List.map c_Rect x648.Rects))), (57, (vI (x648.Rects.length : Int))), (58, (vI s666)), (59, (vB (decide (s666 < (x648.Rects.length : Int)))))], [(500000, .box [(vS l.Sheet.Name), (vS l.Sheet.Material), (vI l.Sheet.Gauge), (vI l.Sheet.Grain), (vI l.Sheet.Width), (vI l.Sheet.Height), (.sl (List.map c_Rect l.Sheet.Clamps)), (.sl (List.map c_Rect l.Sheet.Used)), (.sl (List.map c_Piece l.Pieces))]), (500001, .box [(vI 0), (vI 0), (vI l.Sheet.Width), (vI l.Sheet.Height)])]⟩ (by kernel_rfl) ?_
       refine sem_seq (by kernel_rfl) ?_
       refine sem_cond (decide (s666 < (x648.Rects.length : Int))) (by kernel_rfl) (by kernel_rfl) (fun hb => ?_) (fun hb => ?_)
       ·replace h := iteT hb h
        refine z4 ⟨[(1, (.ptr 500000 0)), (7, (.ptr 500001 0)), (49, (.sl (List.map c_Piece l.Pieces))), (50, (vI (l.Pieces.length : Int))), (51, (vI s487)), (56, (.sl (List.map c_Rect x648.Rects))), (57, (vI (x648.Rects.length : Int))), (58, (vI s666))], [(500000, .box [(vS l.Sheet.Name), (vS l.Sheet.Material), (vI l.Sheet.Gauge), (vI l.Sheet.Grain), (vI l.Sheet.Width), (vI l.Sheet.Height), (.sl (List.map c_Rect l.Sheet.Clamps)), (.sl (List.map c_Rect l.Sheet.Used)), (.sl (List.map c_Piece l.Pieces))]), (500001, .box [(vI 0), (vI 0), (vI l.Sheet.Width), (vI l.Sheet.Height)])]⟩ (by kernel_rfl) ?_
        refine sem_seq (by kernel_rfl) ?_
        refine sem_block (by kernel_rfl) ?_
        refine z7 (by kernel_rfl) ?_
        obtain ⟨x692, hx692, h⟩ := bindS h
        refine evs_op (st_idx (c := c_Rect) (l := x648.Rects) (i := s666) (kd := .i64) (sz := 4) (by kernel_rfl) hx692 rfl) ?_
        refine z1 3 ⟨[(1, (.ptr 500000 0)), (7, (.ptr 500001 0)), (11, (.ptr 11 0)), (49, (.sl (List.map c_Piece l.Pieces))), (50, (vI (l.Pieces.length : Int))), (51, (vI s487)), (56, (.sl (List.map c_Rect x648.Rects))), (57, (vI (x648.Rects.length : Int))), (58, (vI s666))], [(11, .box [(vI x692.X), (vI x692.Y), (vI x692.W), (vI x692.H)]), (500000, .box [(vS l.Sheet.Name), (vS l.Sheet.Material), (vI l.Sheet.Gauge), (vI l.Sheet.Grain), (vI l.Sheet.Width), (vI l.Sheet.Height), (.sl (List.map c_Rect l.Sheet.Clamps)), (.sl (List.map c_Rect l.Sheet.Used)), (.sl (List.map c_Piece l.Pieces))]), (500001, .box [(vI 0), (vI 0), (vI l.Sheet.Width), (vI l.Sheet.Height)])]⟩ (by kernel_rfl) ?_
        refine z7 (by kernel_rfl) ?_
        refine evs_run 2 (by kernel_rfl) ?_
        obtain ⟨r696, hr696, h⟩ := bindS h
        refine evs_callP [] (by kernel_rfl) (W.geom_Inside_k_ok hr696) (by kernel_rfl) (.inl rfl) (by kernel_rfl) ?_
        refine evs_run 2 (by kernel_rfl) ?_
        refine evs_split r696 (fun b0 => ⟨[(1, (.ptr 500000 0)), (7, (.ptr 500001 0)), (11, (.ptr 11 0)), (49, (.sl (List.map c_Piece l.Pieces))), (50, (vI (l.Pieces.length : Int))), (51, (vI s487)), (56, (.sl (List.map c_Rect x648.Rects))), (57, (vI (x648.Rects.length : Int))), (58, (vI s666)), (66, (vB (!b0)))], [(11, .box [(vI x692.X), (vI x692.Y), (vI x692.W), (vI x692.H)]), (500000, .box [(vS l.Sheet.Name), (vS l.Sheet.Material), (vI l.Sheet.Gauge), (vI l.Sheet.Grain), (vI l.Sheet.Width), (vI l.Sheet.Height), (.sl (List.map c_Rect l.Sheet.Clamps)), (.sl (List.map c_Rect l.Sheet.Used)), (.sl (List.map c_Piece l.Pieces))]), (500001, .box [(vI 0), (vI 0), (vI l.Sheet.Width), (vI l.Sheet.Height)])]⟩) (by kernel_rfl) (fun hb => ?_) (fun hb => ?_)
        ·replace h := iteT hb h
         refine evs_run 4 (by kernel_rfl) ?_
         obtain ⟨r697, hr697, h⟩ := bindS h
         refine evs_callP [] (by kernel_rfl) (W.cut_meets_k_ok hr697) (by kernel_rfl) (.inl rfl) (by kernel_rfl) ?_
         refine evs_run 2 (by kernel_rfl) ?_
         refine evs_split r697 (fun b0 => ⟨[(1, (.ptr 500000 0)), (7, (.ptr 500001 0)), (11, (.ptr 11 0)), (49, (.sl (List.map c_Piece l.Pieces))), (50, (vI (l.Pieces.length : Int))), (51, (vI s487)), (56, (.sl (List.map c_Rect x648.Rects))), (57, (vI (x648.Rects.length : Int))), (58, (vI s666)), (67, (.agg [(vI x692.X), (vI x692.Y), (vI x692.W), (vI x692.H)])), (68, (.ptr 500000 0)), (69, (.ptr 500000 6)), (70, (.sl (List.map c_Rect l.Sheet.Clamps))), (71, (vB b0)), (73, (vB b0))], [(11, .box [(vI x692.X), (vI x692.Y), (vI x692.W), (vI x692.H)]), (500000, .box [(vS l.Sheet.Name), (vS l.Sheet.Material), (vI l.Sheet.Gauge), (vI l.Sheet.Grain), (vI l.Sheet.Width), (vI l.Sheet.Height), (.sl (List.map c_Rect l.Sheet.Clamps)), (.sl (List.map c_Rect l.Sheet.Used)), (.sl (List.map c_Piece l.Pieces))]), (500001, .box [(vI 0), (vI 0), (vI l.Sheet.Width), (vI l.Sheet.Height)])]⟩) (by kernel_rfl) (fun hb => ?_) (fun hb => ?_)
         ·replace h := iteT hb h
          exact nomatch h
         ·replace h := iteF hb h
          refine evs_run 4 (by kernel_rfl) ?_
          obtain ⟨r698, hr698, h⟩ := bindS h
          refine evs_callP [] (by kernel_rfl) (W.cut_meets_k_ok hr698) (by kernel_rfl) (.inl rfl) (by kernel_rfl) ?_
          refine z1 1 ⟨[(1, (.ptr 500000 0)), (7, (.ptr 500001 0)), (49, (.sl (List.map c_Piece l.Pieces))), (50, (vI (l.Pieces.length : Int))), (51, (vI s487)), (56, (.sl (List.map c_Rect x648.Rects))), (57, (vI (x648.Rects.length : Int))), (58, (vI s666)), (67, (.agg [(vI x692.X), (vI x692.Y), (vI x692.W), (vI x692.H)])), (68, (.ptr 500000 0)), (69, (.ptr 500000 6)), (70, (.sl (List.map c_Rect l.Sheet.Clamps))), (71, (vB false)), (74, (.agg [(vI x692.X), (vI x692.Y), (vI x692.W), (vI x692.H)])), (75, (.ptr 500000 0)), (76, (.ptr 500000 7)), (77, (.sl (List.map c_Rect l.Sheet.Used))), (78, (vB r698)), (79, (vB r698))], [(500000, .box [(vS l.Sheet.Name), (vS l.Sheet.Material), (vI l.Sheet.Gauge), (vI l.Sheet.Grain), (vI l.Sheet.Width), (vI l.Sheet.Height), (.sl (List.map c_Rect l.Sheet.Clamps)), (.sl (List.map c_Rect l.Sheet.Used)), (.sl (List.map c_Piece l.Pieces))]), (500001, .box [(vI 0), (vI 0), (vI l.Sheet.Width), (vI l.Sheet.Height)])]⟩ (by kernel_rfl) ?_
          refine sem_cond r698 (by kernel_rfl) (by kernel_rfl) (fun hb => ?_) (fun hb => ?_)
          ·replace h := iteT hb h
           exact nomatch h
          ·replace h := iteF hb h
           refine sem_skipS (by kernel_rfl) (fun τ hτ => ?_)
           refine bl_normal ?_
           refine th_normalS hτ ⟨[(1, (.ptr 500000 0)), (7, (.ptr 500001 0)), (49, (.sl (List.map c_Piece l.Pieces))), (50, (vI (l.Pieces.length : Int))), (51, (vI s487)), (56, (.sl (List.map c_Rect x648.Rects))), (57, (vI (x648.Rects.length : Int))), (58, (vI s666)), (67, (.agg [(vI x692.X), (vI x692.Y), (vI x692.W), (vI x692.H)])), (68, (.ptr 500000 0)), (69, (.ptr 500000 6)), (70, (.sl (List.map c_Rect l.Sheet.Clamps))), (71, (vB false)), (74, (.agg [(vI x692.X), (vI x692.Y), (vI x692.W), (vI x692.H)])), (75, (.ptr 500000 0)), (76, (.ptr 500000 7)), (77, (.sl (List.map c_Rect l.Sheet.Used))), (78, (vB r698))], [(500000, .box [(vS l.Sheet.Name), (vS l.Sheet.Material), (vI l.Sheet.Gauge), (vI l.Sheet.Grain), (vI l.Sheet.Width), (vI l.Sheet.Height), (.sl (List.map c_Rect l.Sheet.Clamps)), (.sl (List.map c_Rect l.Sheet.Used)), (.sl (List.map c_Piece l.Pieces))]), (500001, .box [(vI 0), (vI 0), (vI l.Sheet.Width), (vI l.Sheet.Height)])]⟩ (here (by kernel_rfl)) ?_
           refine sem_region (by kernel_rfl) ?_
           refine z6 2 (by kernel_rfl) (fun τ hτ => ?_)
           obtain rfl := Option.some.inj h
           exact lk_nextS hτ (here (by kernel_rfl))
        ·replace h := iteF hb h
         exact nomatch h
       ·replace h := iteF hb h
        refine sem_exitS 4 (by kernel_rfl) rfl (fun τ hτ => ?_)
        refine th_exit ?_
        obtain rfl := Option.some.inj h
        exact lk_outS hτ rfl (here (by kernel_rfl))
      ·intro x
       rfl
      ·intro τ hτ
       refine bl_hit (by kernel_rfl) ?_
       refine bl_normal ?_
       refine th_normalS hτ ⟨[(1, (.ptr 500000 0)), (7, (.ptr 500001 0)), (49, (.sl (List.map c_Piece l.Pieces))), (50, (vI (l.Pieces.length : Int))), (51, (vI s487))], [(500000, .box [(vS l.Sheet.Name), (vS l.Sheet.Material), (vI l.Sheet.Gauge), (vI l.Sheet.Grain), (vI l.Sheet.Width), (vI l.Sheet.Height), (.sl (List.map c_Rect l.Sheet.Clamps)), (.sl (List.map c_Rect l.Sheet.Used)), (.sl (List.map c_Piece l.Pieces))]), (500001, .box [(vI 0), (vI 0), (vI l.Sheet.Width), (vI l.Sheet.Height)])]⟩ (here (by kernel_rfl)) ?_
       refine sem_region (by kernel_rfl) ?_
       refine z6 2 (by kernel_rfl) (fun τ hτ => ?_)
       obtain rfl := Option.some.inj h
       exact lk_nextS hτ (here (by kernel_rfl))
     ·replace h := iteF hb h
      refine sem_exitS 2 (by kernel_rfl) rfl (fun τ hτ => ?_)
      refine th_exit ?_
      obtain rfl := Option.some.inj h
      exact lk_outS hτ rfl (here (by kernel_rfl))
    ·intro x
     rfl
    ·intro τ hτ
     refine bl_hit (by kernel_rfl) ?_
     refine th_normalS hτ ⟨[(1, (.ptr 500000 0))], [(500000, .box [(vS l.Sheet.Name), (vS l.Sheet.Material), (vI l.Sheet.Gauge), (vI l.Sheet.Grain), (vI l.Sheet.Width), (vI l.Sheet.Height), (.sl (List.map c_Rect l.Sheet.Clamps)), (.sl (List.map c_Rect l.Sheet.Used)), (.sl (List.map c_Piece l.Pieces))])]⟩ (here (by kernel_rfl)) ?_
     refine sem_seq (by kernel_rfl) ?_
     refine z7 (by kernel_rfl) ?_
     refine evs_run 2 (by kernel_rfl) ?_
     refine evs_op (st_len (c := c_Piece) (l := l.Pieces) (x := (.sl (List.map c_Piece l.Pieces))) (by kernel_rfl) (by kernel_rfl)) ?_
     refine z1 1 ⟨[(1, (.ptr 500000 0)), (83, (.sl (List.map c_Piece l.Pieces))), (84, (vI (l.Pieces.length : Int))), (85, (vI 0))], [(500000, .box [(vS l.Sheet.Name), (vS l.Sheet.Material), (vI l.Sheet.Gauge), (vI l.Sheet.Grain), (vI l.Sheet.Width), (vI l.Sheet.Height), (.sl (List.map c_Rect l.Sheet.Clamps)), (.sl (List.map c_Rect l.Sheet.Used)), (.sl (List.map c_Piece l.Pieces))])]⟩ (by kernel_rfl) ?_
     refine sem_block (by kernel_rfl) ?_
     obtain ⟨x2878, hx2878, h⟩ := bindS h
     refine sem_loopS (fun (s2153 : Int) => ⟨[(1, (.ptr 500000 0)), (83, (.sl (List.map c_Piece l.Pieces))), (84, (vI (l.Pieces.length : Int))), (85, (vI s2153))], [(500000, .box [(vS l.Sheet.Name), (vS l.Sheet.Material), (vI l.Sheet.Gauge), (vI l.Sheet.Grain), (vI l.Sheet.Width), (vI l.Sheet.Height), (.sl (List.map c_Rect l.Sheet.Clamps)), (.sl (List.map c_Rect l.Sheet.Used)), (.sl (List.map c_Piece l.Pieces))])]⟩) (fun (x2878 : Unit) => (.exit 6, ⟨[], []⟩)) (cut_Validate_k_l6 l) 0 x2878 (by kernel_rfl) (here (by kernel_rfl)) (iter_loop hx2878) ?_ ?_ ?_
     ·intro s2153 r h
      refine z3 1 ⟨[(1, (.ptr 500000 0)), (83, (.sl (List.map c_Piece l.Pieces))), (84, (vI (l.Pieces.length : Int))), (85, (vI s2153)), (86, (vB (decide (s2153 < (l.Pieces.length : Int)))))], [(500000, .box [(vS l.Sheet.Name), (vS l.Sheet.Material), (vI l.Sheet.Gauge), (vI l.Sheet.Grain), (vI l.Sheet.Width), (vI l.Sheet.Height), (.sl (List.map c_Rect l.Sheet.Clamps)), (.sl (List.map c_Rect l.Sheet.Used)), (.sl (List.map c_Piece l.Pieces))])]⟩ (by kernel_rfl) ?_
      refine sem_seq (by kernel_rfl) ?_
      refine sem_cond (decide (s2153 < (l.Pieces.length : Int))) (by kernel_rfl) (by kernel_rfl) (fun hb => ?_) (fun hb => ?_)
      ·replace h := iteT hb h
       refine z4 ⟨[(1, (.ptr 500000 0)), (83, (.sl (List.map c_Piece l.Pieces))), (84, (vI (l.Pieces.length : Int))), (85, (vI s2153))], [(500000, .box [(vS l.Sheet.Name), (vS l.Sheet.Material), (vI l.Sheet.Gauge), (vI l.Sheet.Grain), (vI l.Sheet.Width), (vI l.Sheet.Height), (.sl (List.map c_Rect l.Sheet.Clamps)), (.sl (List.map c_Rect l.Sheet.Used)), (.sl (List.map c_Piece l.Pieces))])]⟩ (by kernel_rfl) ?_
       refine sem_seq (by kernel_rfl) ?_
       refine sem_block (by kernel_rfl) ?_
       refine z7 (by kernel_rfl) ?_
       refine evs_run 1 (by kernel_rfl) ?_
       obtain ⟨x2698, hx2698, h⟩ := bindS h
       refine evs_op (st_idx (c := c_Piece) (l := l.Pieces) (i := s2153) (kd := .i64) (sz := 7) (by kernel_rfl) hx2698 rfl) ?_
       refine z1 4 ⟨[(1, (.ptr 500000 0)), (12, (vI s2153)), (13, (.ptr 13 0)), (83, (.sl (List.map c_Piece l.Pieces))), (84, (vI (l.Pieces.length : Int))), (85, (vI s2153))], [(13, .box [(vS x2698.Name), (vS x2698.Material), (vI x2698.Gauge), (vI x2698.Grain), (.sl (List.map c_Rect x2698.Rects)), (.sl (List.map c_Rect x2698.Cuts)), (.sl (List.map c_Rect x2698.Forms))]), (500000, .box [(vS l.Sheet.Name), (vS l.Sheet.Material), (vI l.Sheet.Gauge), (vI l.Sheet.Grain), (vI l.Sheet.Width), (vI l.Sheet.Height), (.sl (List.map c_Rect l.Sheet.Clamps)), (.sl (List.map c_Rect l.Sheet.Used)), (.sl (List.map c_Piece l.Pieces))])]⟩ (by kernel_rfl) ?_
       refine z7 (by kernel_rfl) ?_
       refine evs_run 3 (by kernel_rfl) ?_
       obtain ⟨l2700, hl2700, h⟩ := bindS h
       refine evs_op (st_slH (c := c_Piece) (l := l.Pieces) (sz := 7) (hi := s2153) (k2 := .i64) (by kernel_rfl) hl2700) ?_
       refine evs_op (st_len (c := c_Piece) (l := l2700) (x := (.sl (List.map c_Piece l2700))) (by kernel_rfl) (by kernel_rfl)) ?_
       refine z1 1 ⟨[(1, (.ptr 500000 0)), (13, (.ptr 13 0)), (83, (.sl (List.map c_Piece l.Pieces))), (84, (vI (l.Pieces.length : Int))), (85, (vI s2153)), (93, (.sl (List.map c_Piece l2700))), (94, (vI (l2700.length : Int))), (95, (vI 0))], [(13, .box [(vS x2698.Name), (vS x2698.Material), (vI x2698.Gauge), (vI x2698.Grain), (.sl (List.map c_Rect x2698.Rects)), (.sl (List.map c_Rect x2698.Cuts)), (.sl (List.map c_Rect x2698.Forms))]), (500000, .box [(vS l.Sheet.Name), (vS l.Sheet.Material), (vI l.Sheet.Gauge), (vI l.Sheet.Grain), (vI l.Sheet.Width), (vI l.Sheet.Height), (.sl (List.map c_Rect l.Sheet.Clamps)), (.sl (List.map c_Rect l.Sheet.Used)), (.sl (List.map c_Piece l.Pieces))])]⟩ (by kernel_rfl) ?_
       refine sem_block (by kernel_rfl) ?_
       obtain ⟨x2877, hx2877, h⟩ := bindS h
       refine sem_loopS (fun (s2760 : Int) => ⟨[(1, (.ptr 500000 0)), (13, (.ptr 500001 0)), (83, (.sl (List.map c_Piece l.Pieces))), (84, (vI (l.Pieces.length : Int))), (85, (vI s2153)), (93, (.sl (List.map c_Piece l2700))), (94, (vI (l2700.length : Int))), (95, (vI s2760))], [(500000, .box [(vS l.Sheet.Name), (vS l.Sheet.Material), (vI l.Sheet.Gauge), (vI l.Sheet.Grain), (vI l.Sheet.Width), (vI l.Sheet.Height), (.sl (List.map c_Rect l.Sheet.Clamps)), (.sl (List.map c_Rect l.Sheet.Used)), (.sl (List.map c_Piece l.Pieces))]), (500001, .box [(vS x2698.Name), (vS x2698.Material), (vI x2698.Gauge), (vI x2698.Grain), (.sl (List.map c_Rect x2698.Rects)), (.sl (List.map c_Rect x2698.Cuts)), (.sl (List.map c_Rect x2698.Forms))])]⟩) (fun (x2877 : Unit) => (.exit 8, ⟨[(1, (.ptr 500000 0)), (83, (.sl (List.map c_Piece l.Pieces))), (84, (vI (l.Pieces.length : Int))), (85, (vI s2153))], [(500000, .box [(vS l.Sheet.Name), (vS l.Sheet.Material), (vI l.Sheet.Gauge), (vI l.Sheet.Grain), (vI l.Sheet.Width), (vI l.Sheet.Height), (.sl (List.map c_Rect l.Sheet.Clamps)), (.sl (List.map c_Rect l.Sheet.Used)), (.sl (List.map c_Piece l.Pieces))])]⟩)) (cut_Validate_k_l5 x2698 l2700) 0 x2877 (by kernel_rfl) (subR_prep [] [(13, 500001), (500000, 500000)] (by kernel_rfl) rfl rfl (by kernel_rfl)) (iter_loop hx2877) ?_ ?_ ?_
       ·intro s2760 r h
        refine z3 1 ⟨[(1, (.ptr 500000 0)), (13, (.ptr 500001 0)), (83, (.sl (List.map c_Piece l.Pieces))), (84, (vI (l.Pieces.length : Int))), (85, (vI s2153)), (93, (.sl (List.map c_Piece l2700))), (94, (vI (l2700.length : Int))), (95, (vI s2760)), (96, (vB (decide (s2760 < (l2700.length : Int)))))], [(500000, .box [(vS l.Sheet.Name), (vS l.Sheet.Material), (vI l.Sheet.Gauge), (vI l.Sheet.Grain), (vI l.Sheet.Width), (vI l.Sheet.Height), (.sl (List.map c_Rect l.Sheet.Clamps)), (.sl (List.map c_Rect l.Sheet.Used)), (.sl (List.map c_Piece l.Pieces))]), (500001, .box [(vS x2698.Name), (vS x2698.Material), (vI x2698.Gauge), (vI x2698.Grain), (.sl (List.map c_Rect x2698.Rects)), (.sl (List.map c_Rect x2698.Cuts)), (.sl (List.map c_Rect x2698.Forms))])]⟩ (by kernel_rfl) ?_
        refine sem_seq (by kernel_rfl) ?_
        refine sem_cond (decide (s2760 < (l2700.length : Int))) (by kernel_rfl) (by kernel_rfl) (fun hb => ?_) (fun hb => ?_)
        ·replace h := iteT hb h
         refine z4 ⟨[(1, (.ptr 500000 0)), (13, (.ptr 500001 0)), (83, (.sl (List.map c_Piece l.Pieces))), (84, (vI (l.Pieces.length : Int))), (85, (vI s2153)), (93, (.sl (List.map c_Piece l2700))), (94, (vI (l2700.length : Int))), (95, (vI s2760))], [(500000, .box [(vS l.Sheet.Name), (vS l.Sheet.Material), (vI l.Sheet.Gauge), (vI l.Sheet.Grain), (vI l.Sheet.Width), (vI l.Sheet.Height), (.sl (List.map c_Rect l.Sheet.Clamps)), (.sl (List.map c_Rect l.Sheet.Used)), (.sl (List.map c_Piece l.Pieces))]), (500001, .box [(vS x2698.Name), (vS x2698.Material), (vI x2698.Gauge), (vI x2698.Grain), (.sl (List.map c_Rect x2698.Rects)), (.sl (List.map c_Rect x2698.Cuts)), (.sl (List.map c_Rect x2698.Forms))])]⟩ (by kernel_rfl) ?_
         refine sem_seq (by kernel_rfl) ?_
         refine sem_block (by kernel_rfl) ?_
         refine z7 (by kernel_rfl) ?_
         obtain ⟨x2849, hx2849, h⟩ := bindS h
         refine evs_op (st_idx (c := c_Piece) (l := l2700) (i := s2760) (kd := .i64) (sz := 7) (by kernel_rfl) hx2849 rfl) ?_
         refine z1 3 ⟨[(1, (.ptr 500000 0)), (13, (.ptr 500001 0)), (15, (.ptr 15 0)), (83, (.sl (List.map c_Piece l.Pieces))), (84, (vI (l.Pieces.length : Int))), (85, (vI s2153)), (93, (.sl (List.map c_Piece l2700))), (94, (vI (l2700.length : Int))), (95, (vI s2760))], [(15, .box [(vS x2849.Name), (vS x2849.Material), (vI x2849.Gauge), (vI x2849.Grain), (.sl (List.map c_Rect x2849.Rects)), (.sl (List.map c_Rect x2849.Cuts)), (.sl (List.map c_Rect x2849.Forms))]), (500000, .box [(vS l.Sheet.Name), (vS l.Sheet.Material), (vI l.Sheet.Gauge), (vI l.Sheet.Grain), (vI l.Sheet.Width), (vI l.Sheet.Height), (.sl (List.map c_Rect l.Sheet.Clamps)), (.sl (List.map c_Rect l.Sheet.Used)), (.sl (List.map c_Piece l.Pieces))]), (500001, .box [(vS x2698.Name), (vS x2698.Material), (vI x2698.Gauge), (vI x2698.Grain), (.sl (List.map c_Rect x2698.Rects)), (.sl (List.map c_Rect x2698.Cuts)), (.sl (List.map c_Rect x2698.Forms))])]⟩ (by kernel_rfl) ?_
         refine z7 (by kernel_rfl) ?_
         refine evs_run 2 (by kernel_rfl) ?_
         refine evs_op (st_len (c := c_Rect) (l := x2698.Rects) (x := (.sl (List.map c_Rect x2698.Rects))) (by kernel_rfl) (by kernel_rfl)) ?_
         refine z1 1 ⟨[(1, (.ptr 500000 0)), (13, (.ptr 500001 0)), (15, (.ptr 15 0)), (83, (.sl (List.map c_Piece l.Pieces))), (84, (vI (l.Pieces.length : Int))), (85, (vI s2153)), (93, (.sl (List.map c_Piece l2700))), (94, (vI (l2700.length : Int))), (95, (vI s2760)), (100, (.sl (List.map c_Rect x2698.Rects))), (101, (vI (x2698.Rects.length : Int))), (102, (vI 0))], [(15, .box [(vS x2849.Name), (vS x2849.Material), (vI x2849.Gauge), (vI x2849.Grain), (.sl (List.map c_Rect x2849.Rects)), (.sl (List.map c_Rect x2849.Cuts)), (.sl (List.map c_Rect x2849.Forms))]), (500000, .box [(vS l.Sheet.Name), (vS l.Sheet.Material), (vI l.Sheet.Gauge), (vI l.Sheet.Grain), (vI l.Sheet.Width), (vI l.Sheet.Height), (.sl (List.map c_Rect l.Sheet.Clamps)), (.sl (List.map c_Rect l.Sheet.Used)), (.sl (List.map c_Piece l.Pieces))]), (500001, .box [(vS x2698.Name), (vS x2698.Material), (vI x2698.Gauge), (vI x2698.Grain), (.sl (List.map c_Rect x2698.Rects)), (.sl (List.map c_Rect x2698.Cuts)), (.sl (List.map c_Rect x2698.Forms))])]⟩ (by kernel_rfl) ?_
         refine sem_block (by kernel_rfl) ?_
         obtain ⟨x2876, hx2876, h⟩ := bindS h
         refine sem_loopS (fun (s2859 : Int) => ⟨[(1, (.ptr 500000 0)), (13, (.ptr 500001 0)), (15, (.ptr 500002 0)), (83, (.sl (List.map c_Piece l.Pieces))), (84, (vI (l.Pieces.length : Int))), (85, (vI s2153)), (93, (.sl (List.map c_Piece l2700))), (94, (vI (l2700.length : Int))), (95, (vI s2760)), (100, (.sl (List.map c_Rect x2698.Rects))), (101, (vI (x2698.Rects.length : Int))), (102, (vI s2859))], [(500000, .box [(vS l.Sheet.Name), (vS l.Sheet.Material), (vI l.Sheet.Gauge), (vI l.Sheet.Grain), (vI l.Sheet.Width), (vI l.Sheet.Height), (.sl (List.map c_Rect l.Sheet.Clamps)), (.sl (List.map c_Rect l.Sheet.Used)), (.sl (List.map c_Piece l.Pieces))]), (500001, .box [(vS x2698.Name), (vS x2698.Material), (vI x2698.Gauge), (vI x2698.Grain), (.sl (List.map c_Rect x2698.Rects)), (.sl (List.map c_Rect x2698.Cuts)), (.sl (List.map c_Rect x2698.Forms))]), (500002, .box [(vS x2849.Name), (vS x2849.Material), (vI x2849.Gauge), (vI x2849.Grain), (.sl (List.map c_Rect x2849.Rects)), (.sl (List.map c_Rect x2849.Cuts)), (.sl (List.map c_Rect x2849.Forms))])]⟩) (fun (x2876 : Unit) => (.exit 10, ⟨[(1, (.ptr 500000 0)), (13, (.ptr 500001 0)), (83, (.sl (List.map c_Piece l.Pieces))), (84, (vI (l.Pieces.length : Int))), (85, (vI s2153)), (93, (.sl (List.map c_Piece l2700))), (94, (vI (l2700.length : Int))), (95, (vI s2760))], [(500000, .box [(vS l.Sheet.Name), (vS l.Sheet.Material), (vI l.Sheet.Gauge), (vI l.Sheet.Grain), (vI l.Sheet.Width), (vI l.Sheet.Height), (.sl (List.map c_Rect l.Sheet.Clamps)), (.sl (List.map c_Rect l.Sheet.Used)), (.sl (List.map c_Piece l.Pieces))]), (500001, .box [(vS x2698.Name), (vS x2698.Material), (vI x2698.Gauge), (vI x2698.Grain), (.sl (List.map c_Rect x2698.Rects)), (.sl (List.map c_Rect x2698.Cuts)), (.sl (List.map c_Rect x2698.Forms))])]⟩)) (cut_Validate_k_l4 x2698 x2849) 0 x2876 (by kernel_rfl) (subR_prep [] [(15, 500002), (500000, 500000), (500001, 500001)] (by kernel_rfl) rfl rfl (by kernel_rfl)) (iter_loop hx2876) ?_ ?_ ?_
         ·intro s2859 r h
          refine z3 1 ⟨[(1, (.ptr 500000 0)), (13, (.ptr 500001 0)), (15, (.ptr 500002 0)), (83, (.sl (List.map c_Piece l.Pieces))), (84, (vI (l.Pieces.length : Int))), (85, (vI s2153)), (93, (.sl (List.map c_Piece l2700))), (94, (vI (l2700.length : Int))), (95, (vI s2760)), (100, (.sl (List.map c_Rect x2698.Rects))), (101, (vI (x2698.Rects.length : Int))), (102, (vI s2859)), (103, (vB (decide (s2859 < (x2698.Rects.length : Int)))))], [(500000, .box [(vS l.Sheet.Name), (vS l.Sheet.Material), (vI l.Sheet.Gauge), (vI l.Sheet.Grain), (vI l.Sheet.Width), (vI l.Sheet.Height), (.sl (List.map c_Rect l.Sheet.Clamps)), (.sl (List.map c_Rect l.Sheet.Used)), (.sl (List.map c_Piece l.Pieces))]), (500001, .box [(vS x2698.Name), (vS x2698.Material), (vI x2698.Gauge), (vI x2698.Grain), (.sl (List.map c_Rect x2698.Rects)), (.sl (List.map c_Rect x2698.Cuts)), (.sl (List.map c_Rect x2698.Forms))]), (500002, .box [(vS x2849.Name), (vS x2849.Material), (vI x2849.Gauge), (vI x2849.Grain), (.sl (List.map c_Rect x2849.Rects)), (.sl (List.map c_Rect x2849.Cuts)), (.sl (List.map c_Rect x2849.Forms))])]⟩ (by kernel_rfl) ?_
          refine sem_seq (by kernel_rfl) ?_
          refine sem_cond (decide (s2859 < (x2698.Rects.length : Int))) (by kernel_rfl) (by kernel_rfl) (fun hb => ?_) (fun hb => ?_)
          ·replace h := iteT hb h
           refine z4 ⟨[(1, (.ptr 500000 0)), (13, (.ptr 500001 0)), (15, (.ptr 500002 0)), (83, (.sl (List.map c_Piece l.Pieces))), (84, (vI (l.Pieces.length : Int))), (85, (vI s2153)), (93, (.sl (List.map c_Piece l2700))), (94, (vI (l2700.length : Int))), (95, (vI s2760)), (100, (.sl (List.map c_Rect x2698.Rects))), (101, (vI (x2698.Rects.length : Int))), (102, (vI s2859))], [(500000, .box [(vS l.Sheet.Name), (vS l.Sheet.Material), (vI l.Sheet.Gauge), (vI l.Sheet.Grain), (vI l.Sheet.Width), (vI l.Sheet.Height), (.sl (List.map c_Rect l.Sheet.Clamps)), (.sl (List.map c_Rect l.Sheet.Used)), (.sl (List.map c_Piece l.Pieces))]), (500001, .box [(vS x2698.Name), (vS x2698.Material), (vI x2698.Gauge), (vI x2698.Grain), (.sl (List.map c_Rect x2698.Rects)), (.sl (List.map c_Rect x2698.Cuts)), (.sl (List.map c_Rect x2698.Forms))]), (500002, .box [(vS x2849.Name), (vS x2849.Material), (vI x2849.Gauge), (vI x2849.Grain), (.sl (List.map c_Rect x2849.Rects)), (.sl (List.map c_Rect x2849.Cuts)), (.sl (List.map c_Rect x2849.Forms))])]⟩ (by kernel_rfl) ?_
           refine sem_seq (by kernel_rfl) ?_
           refine sem_block (by kernel_rfl) ?_
           refine z7 (by kernel_rfl) ?_
           obtain ⟨x2873, hx2873, h⟩ := bindS h
           refine evs_op (st_idx (c := c_Rect) (l := x2698.Rects) (i := s2859) (kd := .i64) (sz := 4) (by kernel_rfl) hx2873 rfl) ?_
           refine z1 3 ⟨[(1, (.ptr 500000 0)), (13, (.ptr 500001 0)), (15, (.ptr 500002 0)), (17, (.ptr 17 0)), (83, (.sl (List.map c_Piece l.Pieces))), (84, (vI (l.Pieces.length : Int))), (85, (vI s2153)), (93, (.sl (List.map c_Piece l2700))), (94, (vI (l2700.length : Int))), (95, (vI s2760)), (100, (.sl (List.map c_Rect x2698.Rects))), (101, (vI (x2698.Rects.length : Int))), (102, (vI s2859))], [(17, .box [(vI x2873.X), (vI x2873.Y), (vI x2873.W), (vI x2873.H)]), (500000, .box [(vS l.Sheet.Name), (vS l.Sheet.Material), (vI l.Sheet.Gauge), (vI l.Sheet.Grain), (vI l.Sheet.Width), (vI l.Sheet.Height), (.sl (List.map c_Rect l.Sheet.Clamps)), (.sl (List.map c_Rect l.Sheet.Used)), (.sl (List.map c_Piece l.Pieces))]), (500001, .box [(vS x2698.Name), (vS x2698.Material), (vI x2698.Gauge), (vI x2698.Grain), (.sl (List.map c_Rect x2698.Rects)), (.sl (List.map c_Rect x2698.Cuts)), (.sl (List.map c_Rect x2698.Forms))]), (500002, .box [(vS x2849.Name), (vS x2849.Material), (vI x2849.Gauge), (vI x2849.Grain), (.sl (List.map c_Rect x2849.Rects)), (.sl (List.map c_Rect x2849.Cuts)), (.sl (List.map c_Rect x2849.Forms))])]⟩ (by kernel_rfl) ?_
           refine z7 (by kernel_rfl) ?_
           refine evs_run 3 (by kernel_rfl) ?_
           obtain ⟨r2875, hr2875, h⟩ := bindS h
           refine evs_callP [] (by kernel_rfl) (W.cut_meets_k_ok hr2875) (by kernel_rfl) (.inl rfl) (by kernel_rfl) ?_
           refine evs_endS (by kernel_rfl) (fun τ hτ => ?_)
           refine th_normalS hτ ⟨[(1, (.ptr 500000 0)), (13, (.ptr 500001 0)), (15, (.ptr 500002 0)), (83, (.sl (List.map c_Piece l.Pieces))), (84, (vI (l.Pieces.length : Int))), (85, (vI s2153)), (93, (.sl (List.map c_Piece l2700))), (94, (vI (l2700.length : Int))), (95, (vI s2760)), (100, (.sl (List.map c_Rect x2698.Rects))), (101, (vI (x2698.Rects.length : Int))), (102, (vI s2859)), (109, (vB r2875))], [(500000, .box [(vS l.Sheet.Name), (vS l.Sheet.Material), (vI l.Sheet.Gauge), (vI l.Sheet.Grain), (vI l.Sheet.Width), (vI l.Sheet.Height), (.sl (List.map c_Rect l.Sheet.Clamps)), (.sl (List.map c_Rect l.Sheet.Used)), (.sl (List.map c_Piece l.Pieces))]), (500001, .box [(vS x2698.Name), (vS x2698.Material), (vI x2698.Gauge), (vI x2698.Grain), (.sl (List.map c_Rect x2698.Rects)), (.sl (List.map c_Rect x2698.Cuts)), (.sl (List.map c_Rect x2698.Forms))]), (500002, .box [(vS x2849.Name), (vS x2849.Material), (vI x2849.Gauge), (vI x2849.Grain), (.sl (List.map c_Rect x2849.Rects)), (.sl (List.map c_Rect x2849.Cuts)), (.sl (List.map c_Rect x2849.Forms))])]⟩ (here (by kernel_rfl)) ?_
           refine sem_cond r2875 (by kernel_rfl) (by kernel_rfl) (fun hb => ?_) (fun hb => ?_)
           ·replace h := iteT hb h
            exact nomatch h
           ·replace h := iteF hb h
            refine sem_skipS (by kernel_rfl) (fun τ hτ => ?_)
            refine bl_normal ?_
            refine th_normalS hτ ⟨[(1, (.ptr 500000 0)), (13, (.ptr 500001 0)), (15, (.ptr 500002 0)), (83, (.sl (List.map c_Piece l.Pieces))), (84, (vI (l.Pieces.length : Int))), (85, (vI s2153)), (93, (.sl (List.map c_Piece l2700))), (94, (vI (l2700.length : Int))), (95, (vI s2760)), (100, (.sl (List.map c_Rect x2698.Rects))), (101, (vI (x2698.Rects.length : Int))), (102, (vI s2859))], [(500000, .box [(vS l.Sheet.Name), (vS l.Sheet.Material), (vI l.Sheet.Gauge), (vI l.Sheet.Grain), (vI l.Sheet.Width), (vI l.Sheet.Height), (.sl (List.map c_Rect l.Sheet.Clamps)), (.sl (List.map c_Rect l.Sheet.Used)), (.sl (List.map c_Piece l.Pieces))]), (500001, .box [(vS x2698.Name), (vS x2698.Material), (vI x2698.Gauge), (vI x2698.Grain), (.sl (List.map c_Rect x2698.Rects)), (.sl (List.map c_Rect x2698.Cuts)), (.sl (List.map c_Rect x2698.Forms))]), (500002, .box [(vS x2849.Name), (vS x2849.Material), (vI x2849.Gauge), (vI x2849.Grain), (.sl (List.map c_Rect x2849.Rects)), (.sl (List.map c_Rect x2849.Cuts)), (.sl (List.map c_Rect x2849.Forms))])]⟩ (here (by kernel_rfl)) ?_
            refine sem_region (by kernel_rfl) ?_
            refine z6 2 (by kernel_rfl) (fun τ hτ => ?_)
            obtain rfl := Option.some.inj h
            exact lk_nextS hτ (here (by kernel_rfl))
          ·replace h := iteF hb h
           refine sem_exitS 10 (by kernel_rfl) rfl (fun τ hτ => ?_)
           refine th_exit ?_
           obtain rfl := Option.some.inj h
           exact lk_outS hτ rfl (here (by kernel_rfl))
         ·intro x
          rfl
         ·intro τ hτ
          refine bl_hit (by kernel_rfl) ?_
          refine bl_normal ?_
          refine th_normalS hτ ⟨[(1, (.ptr 500000 0)), (13, (.ptr 500001 0)), (83, (.sl (List.map c_Piece l.Pieces))), (84, (vI (l.Pieces.length : Int))), (85, (vI s2153)), (93, (.sl (List.map c_Piece l2700))), (94, (vI (l2700.length : Int))), (95, (vI s2760))], [(500000, .box [(vS l.Sheet.Name), (vS l.Sheet.Material), (vI l.Sheet.Gauge), (vI l.Sheet.Grain), (vI l.Sheet.Width), (vI l.Sheet.Height), (.sl (List.map c_Rect l.Sheet.Clamps)), (.sl (List.map c_Rect l.Sheet.Used)), (.sl (List.map c_Piece l.Pieces))]), (500001, .box [(vS x2698.Name), (vS x2698.Material), (vI x2698.Gauge), (vI x2698.Grain), (.sl (List.map c_Rect x2698.Rects)), (.sl (List.map c_Rect x2698.Cuts)), (.sl (List.map c_Rect x2698.Forms))])]⟩ (here (by kernel_rfl)) ?_
          refine sem_region (by kernel_rfl) ?_
          refine z6 2 (by kernel_rfl) (fun τ hτ => ?_)
          obtain rfl := Option.some.inj h
          exact lk_nextS hτ (here (by kernel_rfl))
        ·replace h := iteF hb h
         refine sem_exitS 8 (by kernel_rfl) rfl (fun τ hτ => ?_)
         refine th_exit ?_
         obtain rfl := Option.some.inj h
         exact lk_outS hτ rfl (here (by kernel_rfl))
       ·intro x
        rfl
       ·intro τ hτ
        refine bl_hit (by kernel_rfl) ?_
        refine bl_normal ?_
        refine th_normalS hτ ⟨[(1, (.ptr 500000 0)), (83, (.sl (List.map c_Piece l.Pieces))), (84, (vI (l.Pieces.length : Int))), (85, (vI s2153))], [(500000, .box [(vS l.Sheet.Name), (vS l.Sheet.Material), (vI l.Sheet.Gauge), (vI l.Sheet.Grain), (vI l.Sheet.Width), (vI l.Sheet.Height), (.sl (List.map c_Rect l.Sheet.Clamps)), (.sl (List.map c_Rect l.Sheet.Used)), (.sl (List.map c_Piece l.Pieces))])]⟩ (here (by kernel_rfl)) ?_
        refine sem_region (by kernel_rfl) ?_
        refine z6 2 (by kernel_rfl) (fun τ hτ => ?_)
        obtain rfl := Option.some.inj h
        exact lk_nextS hτ (here (by kernel_rfl))
      ·replace h := iteF hb h
       refine sem_exitS 6 (by kernel_rfl) rfl (fun τ hτ => ?_)
       refine th_exit ?_
       obtain rfl := Option.some.inj h
       exact lk_outS hτ rfl (here (by kernel_rfl))
     ·intro x
      rfl
     ·intro τ hτ
      refine bl_hit (by kernel_rfl) ?_
      refine th_normalS hτ ⟨[], []⟩ (here (by kernel_rfl)) ?_
      refine z8 1 ⟨[(2, (vI 0))], []⟩ (by kernel_rfl) (fun τ hτ => ?_)
      obtain rfl := Option.some.inj h
      exact rk_ret hτ [(2, (vI 0))] (here (by kernel_rfl)) (by kernel_rfl)
theorem W.bits_Len64_k_ok {x0 : Int} {r : Int} (h : bits_Len64_k x0 = some r) : PC G.P 95 [(vK .u64 x0)] [] (vI r) [] := by
 refine pc_of G (fn := Try.f95) Try.func95 (by kernel_rfl) (by kernel_rfl) (by kernel_rfl) (by kernel_rfl) (by kernel_rfl) ?_
 refine sem_set ⟨[(0, (vK .u64 x0))], []⟩ (by kernel_rfl) ?_
 refine z3 1 ⟨[(0, (vK .u64 x0)), (2, (vI 0))], []⟩ (by kernel_rfl) ?_
 refine sem_seq (by kernel_rfl) ?_
 refine z3 2 ⟨[(0, (vK .u64 x0)), (2, (vI 0)), (4, (vB (decide (x0 ≥ 4294967296))))], []⟩ (by kernel_rfl) ?_
 refine sem_cond (decide (x0 ≥ 4294967296)) (by kernel_rfl) (by kernel_rfl) (fun hb => ?_) (fun hb => ?_)
 ·replace h := iteT hb h
  exact nomatch h
 ·replace h := iteF hb h
  refine z4 ⟨[(0, (vK .u64 x0)), (2, (vI 0))], []⟩ (by kernel_rfl) ?_
  refine sem_seq (by kernel_rfl) ?_
  refine z3 2 ⟨[(0, (vK .u64 x0)), (2, (vI 0)), (8, (vB (decide (x0 ≥ 65536))))], []⟩ (by kernel_rfl) ?_
  refine sem_cond (decide (x0 ≥ 65536)) (by kernel_rfl) (by kernel_rfl) (fun hb => ?_) (fun hb => ?_)
  ·replace h := iteT hb h
   exact nomatch h
  ·replace h := iteF hb h
   refine z4 ⟨[(0, (vK .u64 x0)), (2, (vI 0))], []⟩ (by kernel_rfl) ?_
   refine sem_seq (by kernel_rfl) ?_
   refine z3 2 ⟨[(0, (vK .u64 x0)), (2, (vI 0)), (14, (vB (decide (x0 ≥ 256))))], []⟩ (by kernel_rfl) ?_
   refine sem_cond (decide (x0 ≥ 256)) (by kernel_rfl) (by kernel_rfl) (fun hb => ?_) (fun hb => ?_)
   ·replace h := iteT hb h
    exact nomatch h
   ·replace h := iteF hb h
    refine z4 ⟨[(0, (vK .u64 x0)), (2, (vI 0))], []⟩ (by kernel_rfl) ?_
    refine z7 (by kernel_rfl) ?_
    refine evs_run 3 (by kernel_rfl) ?_
    obtain ⟨x2, hx2, h⟩ := bindS h
    refine evs_at (at_sidx (s := (ByteArray.mk #[0, 1, 2, 2, 3, 3, 3, 3, 4, 4, 4, 4, 4, 4, 4, 4, 5, 5, 5, 5, 5, 5, 5, 5, 5, 5, 5, 5, 5, 5, 5, 5, 6, 6, 6, 6, 6, 6, 6, 6, 6, 6, 6, 6, 6, 6, 6, 6, 6, 6, 6, 6, 6, 6, 6, 6, 6, 6, 6, 6, 6, 6, 6, 6, 7, 7, 7, 7, 7, 7, 7, 7, 7, 7, 7, 7, 7, 7, 7, 7, 7, 7, 7, 7, 7, 7, 7, 7, 7, 7, 7, 7, 7, 7, 7, 7, 7, 7, 7, 7, 7, 7, 7, 7, 7, 7, 7, 7, 7, 7, 7, 7, 7, 7, 7, 7, 7, 7, 7, 7, 7, 7, 7, 7, 7, 7, 7, 7, 8, 8, 8, 8, 8, 8, 8, 8, 8, 8, 8, 8, 8, 8, 8, 8, 8, 8, 8, 8, 8, 8, 8, 8, 8, 8, 8, 8, 8, 8, 8, 8, 8, 8, 8, 8, 8, 8, 8, 8, 8, 8, 8, 8, 8, 8, 8, 8, 8, 8, 8, 8, 8, 8, 8, 8, 8, 8, 8, 8, 8, 8, 8, 8, 8, 8, 8, 8, 8, 8, 8, 8, 8, 8, 8, 8, 8, 8, 8, 8, 8, 8, 8, 8, 8, 8, 8, 8, 8, 8, 8, 8, 8, 8, 8, 8, 8, 8, 8, 8, 8, 8, 8, 8, 8, 8, 8, 8, 8, 8, 8, 8, 8, 8, 8, 8, 8, 8, 8, 8, 8, 8, 8, 8, 8, 8, 8, 8])) (i := (IntKind.wrap .u8 x0)) (kd := .u8) (by kernel_rfl) hx2) ?_
    refine z1 3 ⟨[(2, (vI (iadd 0 (IntKind.wrap .i64 x2))))], []⟩ (by kernel_rfl) ?_
    refine sem_retS (by kernel_rfl) (fun τ hτ => ?_)
    obtain rfl := Option.some.inj h
    exact rk_ret hτ [(2, (vI (iadd 0 (IntKind.wrap .i64 x2))))] (here (by kernel_rfl)) (by kernel_rfl)
theorem W.bits_Len_k_ok {x0 : Int} {r : Int} (h : bits_Len_k x0 = some r) : PC G.P 80 [(vK .u64 x0)] [] (vI r) [] := by
 refine pc_of G (fn := Try.f80) Try.func80 (by kernel_rfl) (by kernel_rfl) (by kernel_rfl) (by kernel_rfl) (by kernel_rfl) ?_
 refine sem_set ⟨[(0, (vK .u64 x0))], []⟩ (by kernel_rfl) ?_
 refine z3 1 ⟨[(0, (vK .u64 x0))], []⟩ (by kernel_rfl) ?_
 refine sem_seq (by kernel_rfl) ?_
 refine sem_condF (by kernel_rfl) (by kernel_rfl) ?_
 refine z4 ⟨[(0, (vK .u64 x0))], []⟩ (by kernel_rfl) ?_
 refine z7 (by kernel_rfl) ?_
 refine evs_run 1 (by kernel_rfl) ?_
 obtain ⟨r2, hr2, h⟩ := bindS h
 refine evs_callP [] (by kernel_rfl) (W.bits_Len64_k_ok hr2) (by kernel_rfl) (.inl rfl) (by kernel_rfl) ?_
 refine z1 1 ⟨[(2, (vI r2))], []⟩ (by kernel_rfl) ?_
 refine sem_retS (by kernel_rfl) (fun τ hτ => ?_)
 obtain rfl := Option.some.inj h
 exact rk_ret hτ [(2, (vI r2))] (here (by kernel_rfl)) (by kernel_rfl)
theorem W.cmp_isNaN_int_k_ok {x0 : Int} {r : Bool} (h : cmp_isNaN_int_k x0 = some r) : PC G.P 81 [(vI x0)] [] (vB r) [] := by
 refine pc_of G (fn := Try.f81) Try.func81 (by kernel_rfl) (by kernel_rfl) (by kernel_rfl) (by kernel_rfl) (by kernel_rfl) ?_
 refine sem_set ⟨[(0, (vI x0))], []⟩ (by kernel_rfl) ?_
 refine z3 1 ⟨[(0, (vI x0))], []⟩ (by kernel_rfl) ?_
 refine z8 4 ⟨[(2, (vB (x0 != x0)))], []⟩ (by kernel_rfl) (fun τ hτ => ?_)
 obtain rfl := Option.some.inj h
 exact rk_ret hτ [(2, (vB (x0 != x0)))] (here (by kernel_rfl)) (by kernel_rfl)
theorem W.cmp_Compare_int_k_ok {x0 : Int} {y : Int} {r : Int} (h : cmp_Compare_int_k x0 y = some r) : PC G.P 71 [(vI x0), (vI y)] [] (vI r) [] := by
 refine pc_of G (fn := Try.f71) Try.func71 (by kernel_rfl) (by kernel_rfl) (by kernel_rfl) (by kernel_rfl) (by kernel_rfl) ?_
 refine sem_set ⟨[(0, (vI x0)), (1, (vI y))], []⟩ (by kernel_rfl) ?_
 refine z3 1 ⟨[(0, (vI x0)), (1, (vI y))], []⟩ (by kernel_rfl) ?_
 refine z7 (by kernel_rfl) ?_
 refine evs_run 1 (by kernel_rfl) ?_
 obtain ⟨r2, hr2, h⟩ := bindS h
 refine evs_callP [] (by kernel_rfl) (W.cmp_isNaN_int_k_ok hr2) (by kernel_rfl) (.inl rfl) (by kernel_rfl) ?_
 refine z1 1 ⟨[(0, (vI x0)), (1, (vI y)), (5, (vB r2))], []⟩ (by kernel_rfl) ?_
 refine z7 (by kernel_rfl) ?_
 refine evs_run 1 (by kernel_rfl) ?_
 obtain ⟨r4, hr4, h⟩ := bindS h
 refine evs_callP [] (by kernel_rfl) (W.cmp_isNaN_int_k_ok hr4) (by kernel_rfl) (.inl rfl) (by kernel_rfl) ?_
 refine z1 1 ⟨[(0, (vI x0)), (1, (vI y)), (5, (vB r2)), (6, (vB r4))], []⟩ (by kernel_rfl) ?_
 refine sem_seq (by kernel_rfl) ?_
 refine z3 1 ⟨[(0, (vI x0)), (1, (vI y)), (6, (vB r4)), (11, (vB r2))], []⟩ (by kernel_rfl) ?_
 refine sem_cond r2 (by kernel_rfl) (by kernel_rfl) (fun hb => ?_) (fun hb => ?_)
 ·replace h := iteT hb h
  exact nomatch h
 ·replace h := iteF hb h
  refine z4 ⟨[(0, (vI x0)), (1, (vI y)), (6, (vB r4))], []⟩ (by kernel_rfl) ?_
  refine sem_seq (by kernel_rfl) ?_
  refine z3 1 ⟨[(0, (vI x0)), (1, (vI y)), (13, (vB r4))], []⟩ (by kernel_rfl) ?_
  refine sem_cond r4 (by kernel_rfl) (by kernel_rfl) (fun hb => ?_) (fun hb => ?_)
  ·replace h := iteT hb h
   exact nomatch h
  ·replace h := iteF hb h
   refine z4 ⟨[(0, (vI x0)), (1, (vI y))], []⟩ (by kernel_rfl) ?_
   refine sem_seq (by kernel_rfl) ?_
   refine z3 3 ⟨[(0, (vI x0)), (1, (vI y)), (16, (vB (decide (x0 < y))))], []⟩ (by kernel_rfl) ?_
   refine sem_cond (decide (x0 < y)) (by kernel_rfl) (by kernel_rfl) (fun hb => ?_) (fun hb => ?_)
   ·replace h := iteT hb h
    refine z8 1 ⟨[(4, (vI (-1)))], []⟩ (by kernel_rfl) (fun τ hτ => ?_)
    refine th_ret ?_
    obtain rfl := Option.some.inj h
    exact rk_ret hτ [(4, (vI (-1)))] (here (by kernel_rfl)) (by kernel_rfl)
   ·replace h := iteF hb h
    refine z4 ⟨[(0, (vI x0)), (1, (vI y))], []⟩ (by kernel_rfl) ?_
    refine sem_seq (by kernel_rfl) ?_
    refine z3 3 ⟨[(19, (vB (decide (x0 > y))))], []⟩ (by kernel_rfl) ?_
    refine sem_cond (decide (x0 > y)) (by kernel_rfl) (by kernel_rfl) (fun hb => ?_) (fun hb => ?_)
    ·replace h := iteT hb h
     refine z8 1 ⟨[(4, (vI 1))], []⟩ (by kernel_rfl) (fun τ hτ => ?_)
     refine th_ret ?_
     obtain rfl := Option.some.inj h
     exact rk_ret hτ [(4, (vI 1))] (here (by kernel_rfl)) (by kernel_rfl)
    ·replace h := iteF hb h
     refine z4 ⟨[], []⟩ (by kernel_rfl) ?_
     refine z8 1 ⟨[(4, (vI 0))], []⟩ (by kernel_rfl) (fun τ hτ => ?_)
     obtain rfl := Option.some.inj h
     exact rk_ret hτ [(4, (vI 0))] (here (by kernel_rfl)) (by kernel_rfl)
theorem W.slices_insertionSortCmpFunc_int__cmp_Compare_int_k_ok {a : Int} {b : Int} {h0 : (List Int)} {r : (List Int)} (h : slices_insertionSortCmpFunc_int__cmp_Compare_int_k a b h0 = some r) : PC G.P 86 [(.row (.top 1000000) 3), (vI a), (vI b), (.fn 71 [])] [(1000000, .row 3 [] (List.map cI h0))] (.tup []) [(1000000, .row 3 [] (List.map cI r))] := by
 refine pc_of G (fn := Try.f86) Try.func86 (by kernel_rfl) (by kernel_rfl) (by kernel_rfl) (by kernel_rfl) (by kernel_rfl) ?_
 refine sem_set ⟨[(0, (.row (.top 1000000) 3)), (1, (vI a)), (2, (vI b)), (3, (.fn 71 []))], [(1000000, .row 3 [] (List.map cI h0))]⟩ (by kernel_rfl) ?_
 refine z3 3 ⟨[(0, (.row (.top 1000000) 3)), (1, (vI a)), (2, (vI b)), (3, (.fn 71 [])), (8, (vI (iadd a 1)))], [(1000000, .row 3 [] (List.map cI h0))]⟩ (by kernel_rfl) ?_
 refine sem_block (by kernel_rfl) ?_
 obtain ⟨x777, hx777, h⟩ := bindS h
 refine sem_loopS (fun (s260 : Int × (List Int)) => ⟨[(0, (.row (.top 1000000) 3)), (1, (vI a)), (2, (vI b)), (3, (.fn 71 [])), (8, (vI s260.1))], [(1000000, .row 3 [] (List.map cI s260.2))]⟩) (fun (x777 : (List Int)) => (.exit 0, ⟨[], [(1000000, .row 3 [] (List.map cI x777))]⟩)) (slices_insertionSortCmpFunc_int__cmp_Compare_int_k_l2 a b) ((iadd a 1), h0) x777 (by kernel_rfl) (here (by kernel_rfl)) (iter_loop hx777) ?_ ?_ ?_
 ·intro s260 r h
  refine sem_seq (by kernel_rfl) ?_
  refine z3 3 ⟨[(0, (.row (.top 1000000) 3)), (1, (vI a)), (2, (vI b)), (3, (.fn 71 [])), (8, (vI s260.1)), (14, (vB (decide (s260.1 < b))))], [(1000000, .row 3 [] (List.map cI s260.2))]⟩ (by kernel_rfl) ?_
  refine sem_cond (decide (s260.1 < b)) (by kernel_rfl) (by kernel_rfl) (fun hb => ?_) (fun hb => ?_)
  ·replace h := iteT hb h
   refine z4 ⟨[(0, (.row (.top 1000000) 3)), (1, (vI a)), (2, (vI b)), (3, (.fn 71 [])), (8, (vI s260.1))], [(1000000, .row 3 [] (List.map cI s260.2))]⟩ (by kernel_rfl) ?_
   refine sem_seq (by kernel_rfl) ?_
   refine sem_block (by kernel_rfl) ?_
   refine z3 2 ⟨[(0, (.row (.top 1000000) 3)), (1, (vI a)), (2, (vI b)), (3, (.fn 71 [])), (8, (vI s260.1)), (9, (vI s260.1))], [(1000000, .row 3 [] (List.map cI s260.2))]⟩ (by kernel_rfl) ?_
   refine sem_block (by kernel_rfl) ?_
   obtain ⟨x776, hx776, h⟩ := bindS h
   refine sem_loopS (fun (s691 : Int × (List Int)) => ⟨[(0, (.row (.top 1000000) 3)), (1, (vI a)), (2, (vI b)), (3, (.fn 71 [])), (8, (vI s260.1)), (9, (vI s691.1))], [(1000000, .row 3 [] (List.map cI s691.2))]⟩) (fun (x776 : Int × Int × Int × Int × Int × Int × Bool × (List Int)) => (.exit 2, ⟨[(0, (.row (.top 1000000) 3)), (1, (vI a)), (2, (vI b)), (3, (.fn 71 [])), (8, (vI s260.1)), (22, (.fn 71 [])), (23, (.row (.top 1000000) 3)), (24, (vI x776.1)), (26, (vI x776.2.1)), (27, (.row (.top 1000000) 3)), (28, (vI x776.2.2.1)), (29, (vI x776.2.2.2.1)), (31, (vI x776.2.2.2.2.1)), (32, (vI x776.2.2.2.2.2.1)), (33, (vB x776.2.2.2.2.2.2.1))], [(1000000, .row 3 [] (List.map cI x776.2.2.2.2.2.2.2))]⟩)) (slices_insertionSortCmpFunc_int__cmp_Compare_int_k_l1 a) (s260.1, s260.2) x776 (by kernel_rfl) (here (by kernel_rfl)) (iter_loop hx776) ?_ ?_ ?_
   ·intro s691 r h
    refine sem_seq (by kernel_rfl) ?_
    refine sem_seq (by kernel_rfl) ?_
    refine sem_drawN [] [] [] [] [] 14 (by kernel_rfl) (by kernel_rfl) (by kernel_rfl) ?_
    refine evd_run 4 (by kernel_rfl) ?_
    refine evd_split (decide (s691.1 > a)) (fun b0 => ⟨[(21, (vB b0)), (20, (vB b0)), (19, (vI a)), (18, (vI s691.1)), (0, (.row (.top 1000000) 3)), (1, (vI a)), (2, (vI b)), (3, (.fn 71 [])), (8, (vI s260.1)), (9, (vI s691.1))], [(1000000, .row 3 [] (List.map cI s691.2))]⟩) (by kernel_rfl) (fun hb => ?_) (fun hb => ?_)
    ·replace h := iteT hb h
     refine evd_run 3 (by kernel_rfl) ?_
     obtain ⟨x749, hx749, h⟩ := bindS h
     refine evd_val (by kernel_rfl) (st_idxO (c := cI) (l := s691.2) (i := s691.1) (kd := .i64) (kk := (.top 1000000)) (e := 3) (sz := 1) (by kernel_rfl) (by kernel_rfl) hx749 rfl) (by kernel_rfl) (by kernel_rfl) ?_
     refine evd_val (by kernel_rfl) (st_ldO (c := cI) (l := s691.2) (i := (Int.toNat s691.1)) (v := (vI x749)) (agg := false) (sz := 1) (kk := (.top 1000000)) (e := 3) (off := 0) (J := []) (by kernel_rfl) (by kernel_rfl) (by kernel_rfl) ((idxS hx749).2) (by kernel_rfl)) (by kernel_rfl) (by kernel_rfl) ?_
     refine evd_run 3 (by kernel_rfl) ?_
     obtain ⟨x750, hx750, h⟩ := bindS h
     refine evd_val (by kernel_rfl) (st_idxO (c := cI) (l := s691.2) (i := (isub s691.1 1)) (kd := .i64) (kk := (.top 1000000)) (e := 3) (sz := 1) (by kernel_rfl) (by kernel_rfl) hx750 rfl) (by kernel_rfl) (by kernel_rfl) ?_
     refine evd_val (by kernel_rfl) (st_ldO (c := cI) (l := s691.2) (i := (Int.toNat (isub s691.1 1))) (v := (vI x750)) (agg := false) (sz := 1) (kk := (.top 1000000)) (e := 3) (off := 0) (J := []) (by kernel_rfl) (by kernel_rfl) (by kernel_rfl) ((idxS hx750).2) (by kernel_rfl)) (by kernel_rfl) (by kernel_rfl) ?_
     refine evd_end (by kernel_rfl) ?_
     obtain ⟨r751, hr751, h⟩ := bindS h
     refine evo_callP [] (by kernel_rfl) (W.cmp_Compare_int_k_ok hr751) (by kernel_rfl) (.inl rfl) (by kernel_rfl) ?_
     refine evo_run 2 (by kernel_rfl) ?_
     refine evo_endS (by kernel_rfl) (fun τ hτ => ?_)
     refine th_normalS hτ ⟨[(0, (.row (.top 1000000) 3)), (1, (vI a)), (2, (vI b)), (3, (.fn 71 [])), (8, (vI s260.1)), (9, (vI s691.1)), (22, (.fn 71 [])), (23, (.row (.top 1000000) 3)), (24, (vI s691.1)), (25, (.rptr (.top 1000000) 3 (Int.toNat s691.1) 0)), (26, (vI x749)), (27, (.row (.top 1000000) 3)), (28, (vI s691.1)), (29, (vI (isub s691.1 1))), (30, (.rptr (.top 1000000) 3 (Int.toNat (isub s691.1 1)) 0)), (31, (vI x750)), (32, (vI r751)), (33, (vB (decide (r751 < 0)))), (34, (vB (decide (r751 < 0))))], [(1000000, .row 3 [] (List.map cI s691.2))]⟩ (here (by kernel_rfl)) ?_
     refine sem_cond (decide (r751 < 0)) (by kernel_rfl) (by kernel_rfl) (fun hb => ?_) (fun hb => ?_)
     ·replace h := iteT hb h
      refine z4 ⟨[(0, (.row (.top 1000000) 3)), (1, (vI a)), (2, (vI b)), (3, (.fn 71 [])), (8, (vI s260.1)), (9, (vI s691.1)), (22, (.fn 71 [])), (23, (.row (.top 1000000) 3)), (24, (vI s691.1)), (25, (.rptr (.top 1000000) 3 (Int.toNat s691.1) 0)), (26, (vI x749)), (27, (.row (.top 1000000) 3)), (28, (vI s691.1)), (29, (vI (isub s691.1 1))), (30, (.rptr (.top 1000000) 3 (Int.toNat (isub s691.1 1)) 0)), (31, (vI x750)), (32, (vI r751)), (33, (vB (decide (r751 < 0))))], [(1000000, .row 3 [] (List.map cI s691.2))]⟩ (by kernel_rfl) ?_
      refine sem_seq (by kernel_rfl) ?_
      refine sem_block (by kernel_rfl) ?_
      refine sem_drawN [(15, [1000000])] [] [] [(2, [1000000]), (3, [1000000]), (4, [1000000])] [] 16 (by kernel_rfl) (by kernel_rfl) (by kernel_rfl) ?_
      refine evd_run 8 (by kernel_rfl) ?_
      obtain ⟨x772, hx772, h⟩ := bindS h
      refine evd_val (by kernel_rfl) (st_idxO (c := cI) (l := s691.2) (i := (isub s691.1 1)) (kd := .i64) (kk := (.top 1000000)) (e := 3) (sz := 1) (by kernel_rfl) (by kernel_rfl) hx772 rfl) (by kernel_rfl) (by kernel_rfl) ?_
      refine evd_val (by kernel_rfl) (st_ldO (c := cI) (l := s691.2) (i := (Int.toNat (isub s691.1 1))) (v := (vI x772)) (agg := false) (sz := 1) (kk := (.top 1000000)) (e := 3) (off := 0) (J := []) (by kernel_rfl) (by kernel_rfl) (by kernel_rfl) ((idxS hx772).2) (by kernel_rfl)) (by kernel_rfl) (by kernel_rfl) ?_
      refine evd_run 2 (by kernel_rfl) ?_
      obtain ⟨x773, hx773, h⟩ := bindS h
      refine evd_val (by kernel_rfl) (st_idxO (c := cI) (l := s691.2) (i := s691.1) (kd := .i64) (kk := (.top 1000000)) (e := 3) (sz := 1) (by kernel_rfl) (by kernel_rfl) hx773 rfl) (by kernel_rfl) (by kernel_rfl) ?_
      refine evd_val (by kernel_rfl) (st_ldO (c := cI) (l := s691.2) (i := (Int.toNat s691.1)) (v := (vI x773)) (agg := false) (sz := 1) (kk := (.top 1000000)) (e := 3) (off := 0) (J := []) (by kernel_rfl) (by kernel_rfl) (by kernel_rfl) ((idxS hx773).2) (by kernel_rfl)) (by kernel_rfl) (by kernel_rfl) ?_
      obtain ⟨x774, hx774, h⟩ := bindS h
      refine evd_val (by kernel_rfl) (st_idxO (c := cI) (l := s691.2) (i := s691.1) (kd := .i64) (kk := (.top 1000000)) (e := 3) (sz := 1) (by kernel_rfl) (by kernel_rfl) hx774 rfl) (by kernel_rfl) (by kernel_rfl) ?_
      refine evd_set (by kernel_rfl) (st_stO (c := cI) (l := s691.2) (i := (Int.toNat s691.1)) (x := x774) (x' := x772) (v := (vI x772)) (agg := false) (sz := 1) (kk := (.top 1000000)) (e := 3) (off := 0) (J := []) (o := .row 3 [] (List.map cI (List.set s691.2 (Int.toNat s691.1) x772))) (by kernel_rfl) (by kernel_rfl) (by kernel_rfl) ((idxS hx774).2) (by kernel_rfl) (by kernel_rfl) (by kernel_rfl)) (by kernel_rfl) (by kernel_rfl) (by kernel_rfl) ?_
      refine evd_end (by kernel_rfl) ?_
      obtain ⟨x775, hx775, h⟩ := bindS h
      refine evo_op (st_idxO (c := cI) (l := (List.set s691.2 (Int.toNat s691.1) x772)) (i := (isub s691.1 1)) (kd := .i64) (kk := (.top 1000000)) (e := 3) (sz := 1) (by kernel_rfl) (by kernel_rfl) hx775 rfl) ?_
      refine evo_op (st_stO (c := cI) (l := (List.set s691.2 (Int.toNat s691.1) x772)) (i := (Int.toNat (isub s691.1 1))) (x := x775) (x' := x773) (v := (vI x773)) (agg := false) (sz := 1) (kk := (.top 1000000)) (e := 3) (off := 0) (J := []) (o := .row 3 [] (List.map cI (List.set (List.set s691.2 (Int.toNat s691.1) x772) (Int.toNat (isub s691.1 1)) x773))) (by kernel_rfl) (by kernel_rfl) (by kernel_rfl) ((idxS hx775).2) (by kernel_rfl) (by kernel_rfl) (by kernel_rfl)) ?_
      refine evo_endS (by kernel_rfl) (fun τ hτ => ?_)
      refine bl_normal ?_
      refine th_normalS hτ ⟨[(0, (.row (.top 1000000) 3)), (1, (vI a)), (2, (vI b)), (3, (.fn 71 [])), (8, (vI s260.1)), (9, (vI s691.1)), (22, (.fn 71 [])), (23, (.row (.top 1000000) 3)), (24, (vI s691.1)), (25, (.rptr (.top 1000000) 3 (Int.toNat s691.1) 0)), (26, (vI x749)), (27, (.row (.top 1000000) 3)), (28, (vI s691.1)), (29, (vI (isub s691.1 1))), (30, (.rptr (.top 1000000) 3 (Int.toNat (isub s691.1 1)) 0)), (31, (vI x750)), (32, (vI r751)), (33, (vB (decide (r751 < 0))))], [(1000000, .row 3 [] (List.map cI (List.set (List.set s691.2 (Int.toNat s691.1) x772) (Int.toNat (isub s691.1 1)) x773)))]⟩ (here (by kernel_rfl)) ?_
      refine sem_region (by kernel_rfl) ?_
      refine z6 3 (by kernel_rfl) (fun τ hτ => ?_)
      obtain rfl := Option.some.inj h
      exact lk_nextS hτ (here (by kernel_rfl))
     ·replace h := iteF hb h
      refine sem_exitS 2 (by kernel_rfl) rfl (fun τ hτ => ?_)
      refine th_exit ?_
      obtain rfl := Option.some.inj h
      exact lk_outS hτ rfl (here (by kernel_rfl))
    ·replace h := iteF hb h
     exact nomatch h
   ·intro x
    rfl
   ·intro τ hτ
    refine bl_hit (by kernel_rfl) ?_
    refine bl_normal ?_
    refine th_normalS hτ ⟨[(0, (.row (.top 1000000) 3)), (1, (vI a)), (2, (vI b)), (3, (.fn 71 [])), (8, (vI s260.1)), (22, (.fn 71 [])), (23, (.row (.top 1000000) 3)), (24, (vI x776.1)), (26, (vI x776.2.1)), (27, (.row (.top 1000000) 3)), (28, (vI x776.2.2.1)), (29, (vI x776.2.2.2.1)), (31, (vI x776.2.2.2.2.1)), (32, (vI x776.2.2.2.2.2.1)), (33, (vB x776.2.2.2.2.2.2.1))], [(1000000, .row 3 [] (List.map cI x776.2.2.2.2.2.2.2))]⟩ (here (by kernel_rfl)) ?_
    refine sem_region (by kernel_rfl) ?_
    refine z6 3 (by kernel_rfl) (fun τ hτ => ?_)
    obtain rfl := Option.some.inj h
    exact lk_nextS hτ (here (by kernel_rfl))
  ·replace h := iteF hb h
   refine sem_exitS 0 (by kernel_rfl) rfl (fun τ hτ => ?_)
   refine th_exit ?_
   obtain rfl := Option.some.inj h
   exact lk_outS hτ rfl (here (by kernel_rfl))
 ·intro x
  rfl
 ·intro τ hτ
  refine bl_hit (by kernel_rfl) ?_
  obtain rfl := Option.some.inj h
  exact rk_normal hτ [] (here (by kernel_rfl)) (by kernel_rfl)
theorem W.slices_pdqsortCmpFunc_int__cmp_Compare_int_k_ok {a : Int} {b : Int} {limit : Int} {h0 : (List Int)} {r : (List Int)} (h : slices_pdqsortCmpFunc_int__cmp_Compare_int_k a b limit h0 = some r) : PC G.P 79 [(.row (.top 1000000) 3), (vI a), (vI b), (vI limit), (.fn 71 [])] [(1000000, .row 3 [] (List.map cI h0))] (.tup []) [(1000000, .row 3 [] (List.map cI r))] := by
 refine pc_of G (fn := Try.f79) Try.func79 (by kernel_rfl) (by kernel_rfl) (by kernel_rfl) (by kernel_rfl) (by kernel_rfl) ?_
 refine sem_set ⟨[(0, (.row (.top 1000000) 3)), (1, (vI a)), (2, (vI b)), (3, (vI limit)), (4, (.fn 71 []))], [(1000000, .row 3 [] (List.map cI h0))]⟩ (by kernel_rfl) ?_
 refine z3 1 ⟨[(0, (.row (.top 1000000) 3)), (1, (vI a)), (2, (vI b)), (3, (vI limit)), (4, (.fn 71 [])), (10, (vB true))], [(1000000, .row 3 [] (List.map cI h0))]⟩ (by kernel_rfl) ?_
 refine z3 1 ⟨[(0, (.row (.top 1000000) 3)), (1, (vI a)), (2, (vI b)), (3, (vI limit)), (4, (.fn 71 [])), (10, (vB true)), (11, (vB true))], [(1000000, .row 3 [] (List.map cI h0))]⟩ (by kernel_rfl) ?_
 refine sem_block (by kernel_rfl) ?_
 obtain ⟨x10, hx10, h⟩ := bindS h
 refine sem_loopS (fun (s1 : Unit) => ⟨[(0, (.row (.top 1000000) 3)), (1, (vI a)), (2, (vI b)), (3, (vI limit)), (4, (.fn 71 [])), (10, (vB true)), (11, (vB true))], [(1000000, .row 3 [] (List.map cI h0))]⟩) (fun (x10 : (List Int)) => (.ret, ⟨[], [(1000000, .row 3 [] (List.map cI x10))]⟩)) (slices_pdqsortCmpFunc_int__cmp_Compare_int_k_l1 a b h0) () x10 (by kernel_rfl) (here (by kernel_rfl)) (iter_loop hx10) ?_ ?_ ?_
 ·intro s1 r h
  refine sem_block (by kernel_rfl) ?_
  refine z3 4 ⟨[(0, (.row (.top 1000000) 3)), (1, (vI a)), (2, (vI b)), (3, (vI limit)), (4, (.fn 71 [])), (10, (vB true)), (11, (vB true)), (12, (vI (isub b a)))], [(1000000, .row 3 [] (List.map cI h0))]⟩ (by kernel_rfl) ?_
  refine sem_seq (by kernel_rfl) ?_
  refine z3 2 ⟨[(0, (.row (.top 1000000) 3)), (1, (vI a)), (2, (vI b)), (3, (vI limit)), (4, (.fn 71 [])), (10, (vB true)), (11, (vB true)), (12, (vI (isub b a))), (25, (vB (decide ((isub b a) ≤ 12))))], [(1000000, .row 3 [] (List.map cI h0))]⟩ (by kernel_rfl) ?_
  refine sem_cond (decide ((isub b a) ≤ 12)) (by kernel_rfl) (by kernel_rfl) (fun hb => ?_) (fun hb => ?_)
  ·replace h := iteT hb h
   refine z7 (by kernel_rfl) ?_
   refine evs_run 4 (by kernel_rfl) ?_
   obtain ⟨r9, hr9, h⟩ := bindS h
   refine evs_callS [(1000000, 1000000)] [] [] (by kernel_rfl) (W.slices_insertionSortCmpFunc_int__cmp_Compare_int_k_ok hr9) (by kernel_rfl) (by kernel_rfl) (.inl rfl) ?_
   refine evs_endS (by kernel_rfl) (fun τ hτ => ?_)
   refine th_normalS hτ ⟨[], [(1000000, .row 3 [] (List.map cI r9))]⟩ (here (by kernel_rfl)) ?_
   refine sem_retS (by kernel_rfl) (fun τ hτ => ?_)
   refine th_ret ?_
   refine bl_ret ?_
   obtain rfl := Option.some.inj h
   exact lk_outS hτ rfl (here (by kernel_rfl))
  ·replace h := iteF hb h
   exact nomatch h
 ·intro x
  rfl
 ·intro τ hτ
  refine bl_ret ?_
  obtain rfl := Option.some.inj h
  exact rk_ret hτ [] (here (by kernel_rfl)) (by kernel_rfl)
theorem W.slices_SortFunc_Lint_int__cmp_Compare_int_k_ok {h0 : (List Int)} {r : (List Int)} (h : slices_SortFunc_Lint_int__cmp_Compare_int_k h0 = some r) : PC G.P 70 [(.row (.top 1000000) 3), (.fn 71 [])] [(1000000, .row 3 [] (List.map cI h0))] (.tup []) [(1000000, .row 3 [] (List.map cI r))] := by
 refine pc_of G (fn := Try.f70) Try.func70 (by kernel_rfl) (by kernel_rfl) (by kernel_rfl) (by kernel_rfl) (by kernel_rfl) ?_
 refine sem_set ⟨[(0, (.row (.top 1000000) 3)), (1, (.fn 71 []))], [(1000000, .row 3 [] (List.map cI h0))]⟩ (by kernel_rfl) ?_
 refine z7 (by kernel_rfl) ?_
 refine evs_run 1 (by kernel_rfl) ?_
 refine evs_op (st_len (c := cI) (l := h0) (x := (.row (.top 1000000) 3)) (by kernel_rfl) (by kernel_rfl)) ?_
 refine z1 1 ⟨[(0, (.row (.top 1000000) 3)), (1, (.fn 71 [])), (4, (vI (h0.length : Int)))], [(1000000, .row 3 [] (List.map cI h0))]⟩ (by kernel_rfl) ?_
 refine sem_region (by kernel_rfl) ?_
 refine evs_run 4 (by kernel_rfl) ?_
 obtain ⟨r3, hr3, h⟩ := bindS h
 refine evs_callP [] (by kernel_rfl) (W.bits_Len_k_ok hr3) (by kernel_rfl) (.inl rfl) (by kernel_rfl) ?_
 refine evs_run 1 (by kernel_rfl) ?_
 obtain ⟨r4, hr4, h⟩ := bindS h
 refine evs_callS [(1000000, 1000000)] [] [] (by kernel_rfl) (W.slices_pdqsortCmpFunc_int__cmp_Compare_int_k_ok hr4) (by kernel_rfl) (by kernel_rfl) (.inl rfl) ?_
 refine evs_endS (by kernel_rfl) (fun τ hτ => ?_)
 obtain rfl := Option.some.inj h
 exact rk_normal hτ [] (here (by kernel_rfl)) (by kernel_rfl)
theorem W.slices_Compact_Lint_int_k_ok {h0 : (List Int)} {r : (List Int)} (h : slices_Compact_Lint_int_k h0 = some r) : PC G.P 72 [(.row (.top 300000) 3)] [(300000, .row 3 [] (List.map cI h0))] (.row (.top 0) 3) [(0, .row 3 [] (List.map cI r))] := by
 refine pc_of G (fn := Try.f72) Try.func72 (by kernel_rfl) (by kernel_rfl) (by kernel_rfl) (by kernel_rfl) (by kernel_rfl) ?_
 refine sem_set ⟨[(0, (.row (.top 300000) 3))], [(300000, .row 3 [] (List.map cI h0))]⟩ (by kernel_rfl) ?_
 refine z3 1 ⟨[(0, (.row (.top 300000) 3))], [(300000, .row 3 [] (List.map cI h0))]⟩ (by kernel_rfl) ?_
 refine sem_seq (by kernel_rfl) ?_
 refine z7 (by kernel_rfl) ?_
 refine evs_run 1 (by kernel_rfl) ?_
 refine evs_op (st_len (c := cI) (l := h0) (x := (.row (.top 300000) 3)) (by kernel_rfl) (by kernel_rfl)) ?_
 refine z1 1 ⟨[(0, (.row (.top 300000) 3)), (8, (vB (decide ((h0.length : Int) < 2))))], [(300000, .row 3 [] (List.map cI h0))]⟩ (by kernel_rfl) ?_
 refine sem_cond (decide ((h0.length : Int) < 2)) (by kernel_rfl) (by kernel_rfl) (fun hb => ?_) (fun hb => ?_)
 ·replace h := iteT hb h
  exact nomatch h
 ·replace h := iteF hb h
  refine z4 ⟨[(0, (.row (.top 300000) 3))], [(300000, .row 3 [] (List.map cI h0))]⟩ (by kernel_rfl) ?_
  refine sem_seq (by kernel_rfl) ?_
  refine z3 1 ⟨[(0, (.row (.top 300000) 3)), (3, (vI 1))], [(300000, .row 3 [] (List.map cI h0))]⟩ (by kernel_rfl) ?_
  refine sem_block (by kernel_rfl) ?_
  obtain ⟨x1686, hx1686, h⟩ := bindS h
  refine sem_loopS (fun (s1125 : Int) => ⟨[(0, (.row (.top 500000) 3)), (3, (vI s1125))], [(500000, .row 3 [] (List.map cI h0))]⟩) (fun (x1686 : (List Int)) => (.ret, ⟨[(2, (.row (.top 500000) 3))], [(500000, .row 3 [] (List.map cI x1686))]⟩)) (slices_Compact_Lint_int_k_l3 h0) 1 x1686 (by kernel_rfl) (subR_prep [] [(300000, 500000)] (by kernel_rfl) rfl rfl (by kernel_rfl)) (iter_loop hx1686) ?_ ?_ ?_
  ·intro s1125 r h
   refine sem_seq (by kernel_rfl) ?_
   refine z7 (by kernel_rfl) ?_
   refine evs_run 2 (by kernel_rfl) ?_
   refine evs_op (st_len (c := cI) (l := h0) (x := (.row (.top 500000) 3)) (by kernel_rfl) (by kernel_rfl)) ?_
   refine z1 1 ⟨[(0, (.row (.top 500000) 3)), (3, (vI s1125)), (13, (vB (decide (s1125 < (h0.length : Int)))))], [(500000, .row 3 [] (List.map cI h0))]⟩ (by kernel_rfl) ?_
   refine sem_cond (decide (s1125 < (h0.length : Int))) (by kernel_rfl) (by kernel_rfl) (fun hb => ?_) (fun hb => ?_)
   ·replace h := iteT hb h
    refine z4 ⟨[(0, (.row (.top 500000) 3)), (3, (vI s1125))], [(500000, .row 3 [] (List.map cI h0))]⟩ (by kernel_rfl) ?_
    refine sem_seq (by kernel_rfl) ?_
    refine sem_block (by kernel_rfl) ?_
    refine sem_seq (by kernel_rfl) ?_
    refine sem_drawN [] [] [] [] [] 9 (by kernel_rfl) (by kernel_rfl) (by kernel_rfl) ?_
    refine evd_run 2 (by kernel_rfl) ?_
    obtain ⟨x1550, hx1550, h⟩ := bindS h
    refine evd_val (by kernel_rfl) (st_idxO (c := cI) (l := h0) (i := s1125) (kd := .i64) (kk := (.top 500000)) (e := 3) (sz := 1) (by kernel_rfl) (by kernel_rfl) hx1550 rfl) (by kernel_rfl) (by kernel_rfl) ?_
    refine evd_val (by kernel_rfl) (st_ldO (c := cI) (l := h0) (i := (Int.toNat s1125)) (v := (vI x1550)) (agg := false) (sz := 1) (kk := (.top 500000)) (e := 3) (off := 0) (J := []) (by kernel_rfl) (by kernel_rfl) (by kernel_rfl) ((idxS hx1550).2) (by kernel_rfl)) (by kernel_rfl) (by kernel_rfl) ?_
    refine evd_run 3 (by kernel_rfl) ?_
    obtain ⟨x1551, hx1551, h⟩ := bindS h
    refine evd_val (by kernel_rfl) (st_idxO (c := cI) (l := h0) (i := (isub s1125 1)) (kd := .i64) (kk := (.top 500000)) (e := 3) (sz := 1) (by kernel_rfl) (by kernel_rfl) hx1551 rfl) (by kernel_rfl) (by kernel_rfl) ?_
    refine evd_val (by kernel_rfl) (st_ldO (c := cI) (l := h0) (i := (Int.toNat (isub s1125 1))) (v := (vI x1551)) (agg := false) (sz := 1) (kk := (.top 500000)) (e := 3) (off := 0) (J := []) (by kernel_rfl) (by kernel_rfl) (by kernel_rfl) ((idxS hx1551).2) (by kernel_rfl)) (by kernel_rfl) (by kernel_rfl) ?_
    refine evd_end (by kernel_rfl) ?_
    refine evo_run 1 (by kernel_rfl) ?_
    refine evo_endS (by kernel_rfl) (fun τ hτ => ?_)
    refine th_normalS hτ ⟨[(0, (.row (.top 500000) 3)), (3, (vI s1125)), (25, (vB (x1550 == x1551)))], [(500000, .row 3 [] (List.map cI h0))]⟩ (here (by kernel_rfl)) ?_
    refine sem_cond (x1550 == x1551) (by kernel_rfl) (by kernel_rfl) (fun hb => ?_) (fun hb => ?_)
    ·replace h := iteT hb h
     refine z7 (by kernel_rfl) ?_
     refine evs_run 2 (by kernel_rfl) ?_
     obtain ⟨hp2, h⟩ := iteN h
     refine evs_op (st_slPL (c := cI) (l := h0) (kk := (.top 500000)) (e := 3) (sz := 1) (lo := s1125) (k1 := .i64) (by kernel_rfl) (by kernel_rfl) (fun _ => rfl) hp2) ?_
     refine z1 1 ⟨[(0, (.row (.top 500000) 3)), (3, (vI s1125)), (4, (.part (.top 500000) 3 (Int.toNat s1125) (Int.toNat (h0.length : Int) - Int.toNat s1125)))], [(500000, .row 3 [] (List.map cI h0))]⟩ (by kernel_rfl) ?_
     refine sem_seq (by kernel_rfl) ?_
     refine z3 1 ⟨[(0, (.row (.top 500000) 3)), (3, (vI s1125)), (4, (.part (.top 500000) 3 (Int.toNat s1125) (Int.toNat (h0.length : Int) - Int.toNat s1125))), (5, (vI 1))], [(500000, .row 3 [] (List.map cI h0))]⟩ (by kernel_rfl) ?_
     refine sem_block (by kernel_rfl) ?_
     obtain ⟨x1683, hx1683, h⟩ := bindS h
     refine sem_loopS (fun (s1640 : Int × Int × (List Int)) => ⟨[(0, (.row (.top 500000) 3)), (3, (vI s1640.1)), (4, (.part (.top 500000) 3 (Int.toNat s1125) (Int.toNat (h0.length : Int) - Int.toNat s1125))), (5, (vI s1640.2.1))], [(500000, .row 3 [] (List.map cI s1640.2.2))]⟩) (fun (x1683 : Int × (List Int)) => (.exit 2, ⟨[(0, (.row (.top 500000) 3)), (3, (vI x1683.1))], [(500000, .row 3 [] (List.map cI x1683.2))]⟩)) (slices_Compact_Lint_int_k_l2 h0 s1125) (s1125, 1, h0) x1683 (by kernel_rfl) (here (by kernel_rfl)) (iter_loop hx1683) ?_ ?_ ?_
     ·intro s1640 r h
      refine sem_seq (by kernel_rfl) ?_
      refine z7 (by kernel_rfl) ?_
      refine evs_run 2 (by kernel_rfl) ?_
      refine evs_op (st_lenP (kk := (.top 500000)) (e := 3) (lo := (Int.toNat s1125)) (n := (Int.toNat (h0.length : Int) - Int.toNat s1125)) (by kernel_rfl)) ?_
      refine z1 1 ⟨[(0, (.row (.top 500000) 3)), (3, (vI s1640.1)), (4, (.part (.top 500000) 3 (Int.toNat s1125) (Int.toNat (h0.length : Int) - Int.toNat s1125))), (5, (vI s1640.2.1)), (32, (vB (decide (s1640.2.1 < ((Int.toNat (h0.length : Int) - Int.toNat s1125 : Nat) : Int)))))], [(500000, .row 3 [] (List.map cI s1640.2.2))]⟩ (by kernel_rfl) ?_
      refine sem_cond (decide (s1640.2.1 < ((Int.toNat (h0.length : Int) - Int.toNat s1125 : Nat) : Int))) (by kernel_rfl) (by kernel_rfl) (fun hb => ?_) (fun hb => ?_)
      ·replace h := iteT hb h
       refine z4 ⟨[(0, (.row (.top 500000) 3)), (3, (vI s1640.1)), (4, (.part (.top 500000) 3 (Int.toNat s1125) (Int.toNat (h0.length : Int) - Int.toNat s1125))), (5, (vI s1640.2.1))], [(500000, .row 3 [] (List.map cI s1640.2.2))]⟩ (by kernel_rfl) ?_
       refine sem_seqJ (fun (j1672 : Int × (List Int)) => ⟨[(0, (.row (.top 500000) 3)), (3, (vI j1672.1)), (4, (.part (.top 500000) 3 (Int.toNat s1125) (Int.toNat (h0.length : Int) - Int.toNat s1125))), (5, (vI s1640.2.1))], [(500000, .row 3 [] (List.map cI j1672.2))]⟩) (slices_Compact_Lint_int_k_k1 s1640) r (by kernel_rfl) (fun j1672 h => ?_) ?_
       ·refine sem_region (by kernel_rfl) ?_
        refine z6 3 (by kernel_rfl) (fun τ hτ => ?_)
        obtain rfl := Option.some.inj h
        exact lk_nextS hτ (here (by kernel_rfl))
       refine sem_block (by kernel_rfl) ?_
       refine sem_seq (by kernel_rfl) ?_
       refine sem_drawN [] [] [] [] [] 9 (by kernel_rfl) (by kernel_rfl) (by kernel_rfl) ?_
       refine evd_run 2 (by kernel_rfl) ?_
       obtain ⟨x1677, hx1677, h⟩ := bindS h
       refine evd_val (by kernel_rfl) (st_idxP (c := cI) (l := s1640.2.2) (i := s1640.2.1) (kd := .i64) (kk := (.top 500000)) (e := 3) (sz := 1) (lo := (Int.toNat s1125)) (n := (Int.toNat (h0.length : Int) - Int.toNat s1125)) (by kernel_rfl) (by kernel_rfl) hx1677 rfl) (by kernel_rfl) (by kernel_rfl) ?_
       refine evd_val (by kernel_rfl) (st_ldO (c := cI) (l := s1640.2.2) (i := ((Int.toNat s1125) + Int.toNat s1640.2.1)) (v := (vI x1677)) (agg := false) (sz := 1) (kk := (.top 500000)) (e := 3) (off := 0) (J := []) (by kernel_rfl) (by kernel_rfl) (by kernel_rfl) (idx_part hx1677) (by kernel_rfl)) (by kernel_rfl) (by kernel_rfl) ?_
       refine evd_run 3 (by kernel_rfl) ?_
       obtain ⟨x1678, hx1678, h⟩ := bindS h
       refine evd_val (by kernel_rfl) (st_idxP (c := cI) (l := s1640.2.2) (i := (isub s1640.2.1 1)) (kd := .i64) (kk := (.top 500000)) (e := 3) (sz := 1) (lo := (Int.toNat s1125)) (n := (Int.toNat (h0.length : Int) - Int.toNat s1125)) (by kernel_rfl) (by kernel_rfl) hx1678 rfl) (by kernel_rfl) (by kernel_rfl) ?_
       refine evd_val (by kernel_rfl) (st_ldO (c := cI) (l := s1640.2.2) (i := ((Int.toNat s1125) + Int.toNat (isub s1640.2.1 1))) (v := (vI x1678)) (agg := false) (sz := 1) (kk := (.top 500000)) (e := 3) (off := 0) (J := []) (by kernel_rfl) (by kernel_rfl) (by kernel_rfl) (idx_part hx1678) (by kernel_rfl)) (by kernel_rfl) (by kernel_rfl) ?_
       refine evd_end (by kernel_rfl) ?_
       refine evo_run 1 (by kernel_rfl) ?_
       refine evo_endS (by kernel_rfl) (fun τ hτ => ?_)
       refine th_normalS hτ ⟨[(0, (.row (.top 500000) 3)), (3, (vI s1640.1)), (4, (.part (.top 500000) 3 (Int.toNat s1125) (Int.toNat (h0.length : Int) - Int.toNat s1125))), (5, (vI s1640.2.1)), (44, (vB (x1677 != x1678)))], [(500000, .row 3 [] (List.map cI s1640.2.2))]⟩ (here (by kernel_rfl)) ?_
       refine sem_cond (x1677 != x1678) (by kernel_rfl) (by kernel_rfl) (fun hb => ?_) (fun hb => ?_)
       ·replace h := iteT hb h
        refine z7 (by kernel_rfl) ?_
        refine evs_run 4 (by kernel_rfl) ?_
        obtain ⟨x1681, hx1681, h⟩ := bindS h
        refine evs_op (st_idxP (c := cI) (l := s1640.2.2) (i := s1640.2.1) (kd := .i64) (kk := (.top 500000)) (e := 3) (sz := 1) (lo := (Int.toNat s1125)) (n := (Int.toNat (h0.length : Int) - Int.toNat s1125)) (by kernel_rfl) (by kernel_rfl) hx1681 rfl) ?_
        refine evs_op (st_ldO (c := cI) (l := s1640.2.2) (i := ((Int.toNat s1125) + Int.toNat s1640.2.1)) (v := (vI x1681)) (agg := false) (sz := 1) (kk := (.top 500000)) (e := 3) (off := 0) (J := []) (by kernel_rfl) (by kernel_rfl) (by kernel_rfl) (idx_part hx1681) (by kernel_rfl)) ?_
        obtain ⟨x1682, hx1682, h⟩ := bindS h
        refine evs_op (st_idxO (c := cI) (l := s1640.2.2) (i := s1640.1) (kd := .i64) (kk := (.top 500000)) (e := 3) (sz := 1) (by kernel_rfl) (by kernel_rfl) hx1682 rfl) ?_
        refine evs_op (st_stO (c := cI) (l := s1640.2.2) (i := (Int.toNat s1640.1)) (x := x1682) (x' := x1681) (v := (vI x1681)) (agg := false) (sz := 1) (kk := (.top 500000)) (e := 3) (off := 0) (J := []) (o := .row 3 [] (List.map cI (List.set s1640.2.2 (Int.toNat s1640.1) x1681))) (by kernel_rfl) (by kernel_rfl) (by kernel_rfl) ((idxS hx1682).2) (by kernel_rfl) (by kernel_rfl) (by kernel_rfl)) ?_
        refine evs_endS (by kernel_rfl) (fun τ hτ => ?_)
        refine th_normalS hτ ⟨[(0, (.row (.top 500000) 3)), (3, (vI s1640.1)), (4, (.part (.top 500000) 3 (Int.toNat s1125) (Int.toNat (h0.length : Int) - Int.toNat s1125))), (5, (vI s1640.2.1))], [(500000, .row 3 [] (List.map cI (List.set s1640.2.2 (Int.toNat s1640.1) x1681)))]⟩ (here (by kernel_rfl)) ?_
        refine sem_region (by kernel_rfl) ?_
        refine z6 3 (by kernel_rfl) (fun τ hτ => ?_)
        refine bl_normal ?_
        exact jk_normal ((iadd s1640.1 1), (List.set s1640.2.2 (Int.toNat s1640.1) x1681)) h hτ (here (by kernel_rfl))
       ·replace h := iteF hb h
        refine sem_skipS (by kernel_rfl) (fun τ hτ => ?_)
        refine bl_normal ?_
        exact jk_normal (s1640.1, s1640.2.2) h hτ (here (by kernel_rfl))
      ·replace h := iteF hb h
       refine sem_exitS 2 (by kernel_rfl) rfl (fun τ hτ => ?_)
       refine th_exit ?_
       obtain rfl := Option.some.inj h
       exact lk_outS hτ rfl (here (by kernel_rfl))
     ·intro x
      rfl
     ·intro τ hτ
      refine bl_hit (by kernel_rfl) ?_
      refine th_normalS hτ ⟨[(0, (.row (.top 500000) 3)), (3, (vI x1683.1))], [(500000, .row 3 [] (List.map cI x1683.2))]⟩ (here (by kernel_rfl)) ?_
      refine z7 (by kernel_rfl) ?_
      refine evs_run 2 (by kernel_rfl) ?_
      obtain ⟨hp2, h⟩ := iteN h
      refine evs_op (st_slPL (c := cI) (l := x1683.2) (kk := (.top 500000)) (e := 3) (sz := 1) (lo := x1683.1) (k1 := .i64) (by kernel_rfl) (by kernel_rfl) (fun _ => rfl) hp2) ?_
      refine evs_at (at_clear (c := cI) (l := x1683.2) (z := 0) (d := (.part (.top 500000) 3 (Int.toNat x1683.1) (Int.toNat (x1683.2.length : Int) - Int.toNat x1683.1))) (e := 3) (g := 500000) (lo := (Int.toNat x1683.1)) (n := (Int.toNat (x1683.2.length : Int) - Int.toNat x1683.1)) (zs := [(vI 0)]) (by kernel_rfl) (by kernel_rfl) (by kernel_rfl) (part_fit hp2) rfl) ?_
      refine evs_endS (by kernel_rfl) (fun τ hτ => ?_)
      refine th_normalS hτ ⟨[(0, (.row (.top 500000) 3)), (3, (vI x1683.1))], [(500000, .row 3 [] (List.map cI (cpy x1683.2 (Int.toNat x1683.1) (List.replicate (Int.toNat (x1683.2.length : Int) - Int.toNat x1683.1) 0))))]⟩ (here (by kernel_rfl)) ?_
      refine z7 (by kernel_rfl) ?_
      refine evs_run 2 (by kernel_rfl) ?_
      obtain ⟨l1685, hl1685, h⟩ := bindS h
      refine evs_at (at_cut (J := []) (c := cI) (l := (cpy x1683.2 (Int.toNat x1683.1) (List.replicate (Int.toNat (x1683.2.length : Int) - Int.toNat x1683.1) 0))) (e := 3) (g := 500000) (hi := x1683.1) (k2 := .i64) (by kernel_rfl) (by kernel_rfl) rfl hl1685) ?_
      refine z1 1 ⟨[(2, (.row (.top 500000) 3))], [(500000, .row 3 [] (List.map cI l1685))]⟩ (by kernel_rfl) ?_
      refine sem_retS (by kernel_rfl) (fun τ hτ => ?_)
      refine bl_ret ?_
      refine th_ret ?_
      obtain rfl := Option.some.inj h
      exact lk_outS hτ rfl (here (by kernel_rfl))
    ·replace h := iteF hb h
     refine sem_skipS (by kernel_rfl) (fun τ hτ => ?_)
     refine bl_normal ?_
     refine th_normalS hτ ⟨[(0, (.row (.top 500000) 3)), (3, (vI s1125))], [(500000, .row 3 [] (List.map cI h0))]⟩ (here (by kernel_rfl)) ?_
     refine sem_region (by kernel_rfl) ?_
     refine z6 3 (by kernel_rfl) (fun τ hτ => ?_)
     obtain rfl := Option.some.inj h
     exact lk_nextS hτ (here (by kernel_rfl))
   ·replace h := iteF hb h
    exact nomatch h
  ·intro x
   rfl
  ·intro τ hτ
   refine bl_ret ?_
   refine th_ret ?_
   obtain rfl := Option.some.inj h
   exact rk_ret hτ [(2, (.row (.top 0) 3))] (subR_prep [] [(500000, 0)] (by kernel_rfl) rfl rfl (by kernel_rfl)) (by kernel_rfl)
theorem W.cut_set_k_ok {h0 : (List Int)} {r : (List Int)} (h : cut_set_k h0 = some r) : PC G.P 51 [(.row (.top 300000) 3)] [(300000, .row 3 [] (List.map cI h0))] (.row (.top 0) 3) [(0, .row 3 [] (List.map cI r))] := by
 refine pc_of G (fn := Try.f51) Try.func51 (by kernel_rfl) (by kernel_rfl) (by kernel_rfl) (by kernel_rfl) (by kernel_rfl) ?_
 refine sem_set ⟨[(0, (.row (.top 300000) 3))], [(300000, .row 3 [] (List.map cI h0))]⟩ (by kernel_rfl) ?_
 refine z3 1 ⟨[(0, (.row (.top 300000) 3))], [(300000, .row 3 [] (List.map cI h0))]⟩ (by kernel_rfl) ?_
 refine z7 (by kernel_rfl) ?_
 refine evs_run 1 (by kernel_rfl) ?_
 obtain ⟨r2, hr2, h⟩ := bindS h
 refine evs_callS [(1000000, 300000)] [] [] (by kernel_rfl) (W.slices_SortFunc_Lint_int__cmp_Compare_int_k_ok hr2) (by kernel_rfl) (by kernel_rfl) (.inl rfl) ?_
 refine evs_endS (by kernel_rfl) (fun τ hτ => ?_)
 refine th_normalS hτ ⟨[(0, (.row (.top 300000) 3))], [(300000, .row 3 [] (List.map cI r2))]⟩ (here (by kernel_rfl)) ?_
 refine z7 (by kernel_rfl) ?_
 refine evs_run 1 (by kernel_rfl) ?_
 obtain ⟨r4, hr4, h⟩ := bindS h
 refine evs_callS [(300000, 300000)] [(0, 700050)] [] (by kernel_rfl) (W.slices_Compact_Lint_int_k_ok hr4) (by kernel_rfl) (by kernel_rfl) (.inl rfl) ?_
 refine z1 1 ⟨[(2, (.row (.top 700050) 3))], [(700050, .row 3 [] (List.map cI r4))]⟩ (by kernel_rfl) ?_
 refine sem_retS (by kernel_rfl) (fun τ hτ => ?_)
 obtain rfl := Option.some.inj h
 exact rk_ret hτ [(2, (.row (.top 0) 3))] (subR_prep [] [(700050, 0)] (by kernel_rfl) rfl rfl (by kernel_rfl)) (by kernel_rfl)
theorem W.cut_at_k_ok {l : LayoutT} {x1 : Int} {y : Int} {r : (Option Int)} (h : cut_at_k l x1 y = some r) : PC G.P 54 [(.agg [(vS l.Sheet.Name), (vS l.Sheet.Material), (vI l.Sheet.Gauge), (vI l.Sheet.Grain), (vI l.Sheet.Width), (vI l.Sheet.Height), (.sl (List.map c_Rect l.Sheet.Clamps)), (.sl (List.map c_Rect l.Sheet.Used)), (.sl (List.map c_Piece l.Pieces))]), (vI x1), (vI y)] [] (vF 116 112 r) [] := by
 refine pc_of G (fn := Try.f54) Try.func54 (by kernel_rfl) (by kernel_rfl) (by kernel_rfl) (by kernel_rfl) (by kernel_rfl) ?_
 refine sem_set ⟨[(0, (.agg [(vS l.Sheet.Name), (vS l.Sheet.Material), (vI l.Sheet.Gauge), (vI l.Sheet.Grain), (vI l.Sheet.Width), (vI l.Sheet.Height), (.sl (List.map c_Rect l.Sheet.Clamps)), (.sl (List.map c_Rect l.Sheet.Used)), (.sl (List.map c_Piece l.Pieces))])), (1, (vI x1)), (2, (vI y))], []⟩ (by kernel_rfl) ?_
 refine z3 2 ⟨[(1, (vI x1)), (2, (vI y)), (3, (.ptr 3 0))], [(3, .box [(vS l.Sheet.Name), (vS l.Sheet.Material), (vI l.Sheet.Gauge), (vI l.Sheet.Grain), (vI l.Sheet.Width), (vI l.Sheet.Height), (.sl (List.map c_Rect l.Sheet.Clamps)), (.sl (List.map c_Rect l.Sheet.Used)), (.sl (List.map c_Piece l.Pieces))])]⟩ (by kernel_rfl) ?_
 refine sem_seq (by kernel_rfl) ?_
 refine z7 (by kernel_rfl) ?_
 refine evs_run 2 (by kernel_rfl) ?_
 refine evs_op (st_len (c := c_Piece) (l := l.Pieces) (x := (.sl (List.map c_Piece l.Pieces))) (by kernel_rfl) (by kernel_rfl)) ?_
 refine z1 1 ⟨[(1, (vI x1)), (2, (vI y)), (12, (.sl (List.map c_Piece l.Pieces))), (13, (vI (l.Pieces.length : Int))), (14, (vI 0))], []⟩ (by kernel_rfl) ?_
 refine sem_block (by kernel_rfl) ?_
 obtain ⟨x308, hx308, h⟩ := bindS h
 refine sem_loopS (fun (s207 : Int) => ⟨[(1, (vI x1)), (2, (vI y)), (12, (.sl (List.map c_Piece l.Pieces))), (13, (vI (l.Pieces.length : Int))), (14, (vI s207))], []⟩) (fun (x308 : (Option Int) ⊕ Unit) => match x308 with | .inl j309 => (.ret, ⟨[(6, (vF 116 112 j309))], []⟩) | .inr j310 => (.exit 0, ⟨[], []⟩)) (cut_at_k_l2 l x1 y) 0 x308 (by kernel_rfl) (here (by kernel_rfl)) (iter_loop hx308) ?_ ?_ ?_
 ·intro s207 r h
  refine z3 1 ⟨[(1, (vI x1)), (2, (vI y)), (12, (.sl (List.map c_Piece l.Pieces))), (13, (vI (l.Pieces.length : Int))), (14, (vI s207)), (15, (vB (decide (s207 < (l.Pieces.length : Int)))))], []⟩ (by kernel_rfl) ?_
  refine sem_seq (by kernel_rfl) ?_
  refine sem_cond (decide (s207 < (l.Pieces.length : Int))) (by kernel_rfl) (by kernel_rfl) (fun hb => ?_) (fun hb => ?_)
  ·replace h := iteT hb h
   refine z4 ⟨[(1, (vI x1)), (2, (vI y)), (12, (.sl (List.map c_Piece l.Pieces))), (13, (vI (l.Pieces.length : Int))), (14, (vI s207))], []⟩ (by kernel_rfl) ?_
   refine sem_seq (by kernel_rfl) ?_
   refine sem_block (by kernel_rfl) ?_
   refine z7 (by kernel_rfl) ?_
   refine evs_run 1 (by kernel_rfl) ?_
   obtain ⟨x284, hx284, h⟩ := bindS h
   refine evs_op (st_idx (c := c_Piece) (l := l.Pieces) (i := s207) (kd := .i64) (sz := 7) (by kernel_rfl) hx284 rfl) ?_
   refine z1 4 ⟨[(1, (vI x1)), (2, (vI y)), (7, (vI s207)), (8, (.ptr 8 0)), (12, (.sl (List.map c_Piece l.Pieces))), (13, (vI (l.Pieces.length : Int))), (14, (vI s207))], [(8, .box [(vS x284.Name), (vS x284.Material), (vI x284.Gauge), (vI x284.Grain), (.sl (List.map c_Rect x284.Rects)), (.sl (List.map c_Rect x284.Cuts)), (.sl (List.map c_Rect x284.Forms))])]⟩ (by kernel_rfl) ?_
   refine z7 (by kernel_rfl) ?_
   refine evs_run 2 (by kernel_rfl) ?_
   refine evs_op (st_len (c := c_Rect) (l := x284.Rects) (x := (.sl (List.map c_Rect x284.Rects))) (by kernel_rfl) (by kernel_rfl)) ?_
   refine z1 1 ⟨[(1, (vI x1)), (2, (vI y)), (7, (vI s207)), (12, (.sl (List.map c_Piece l.Pieces))), (13, (vI (l.Pieces.length : Int))), (14, (vI s207)), (20, (.sl (List.map c_Rect x284.Rects))), (21, (vI (x284.Rects.length : Int))), (22, (vI 0))], []⟩ (by kernel_rfl) ?_
   refine sem_block (by kernel_rfl) ?_
   obtain ⟨x305, hx305, h⟩ := bindS h
   refine sem_loopS (fun (s292 : Int) => ⟨[(1, (vI x1)), (2, (vI y)), (7, (vI s207)), (12, (.sl (List.map c_Piece l.Pieces))), (13, (vI (l.Pieces.length : Int))), (14, (vI s207)), (20, (.sl (List.map c_Rect x284.Rects))), (21, (vI (x284.Rects.length : Int))), (22, (vI s292))], []⟩) (fun (x305 : Unit ⊕ Unit) => match x305 with | .inl j306 => (.ret, ⟨[(6, (vF 116 112 (some s207)))], []⟩) | .inr j307 => (.exit 2, ⟨[(1, (vI x1)), (2, (vI y)), (12, (.sl (List.map c_Piece l.Pieces))), (13, (vI (l.Pieces.length : Int))), (14, (vI s207))], []⟩)) (cut_at_k_l1 x1 y x284) 0 x305 (by kernel_rfl) (here (by kernel_rfl)) (iter_loop hx305) ?_ ?_ ?_
   ·intro s292 r h
    refine z3 1 ⟨[(1, (vI x1)), (2, (vI y)), (7, (vI s207)), (12, (.sl (List.map c_Piece l.Pieces))), (13, (vI (l.Pieces.length : Int))), (14, (vI s207)), (20, (.sl (List.map c_Rect x284.Rects))), (21, (vI (x284.Rects.length : Int))), (22, (vI s292)), (23, (vB (decide (s292 < (x284.Rects.length : Int)))))], []⟩ (by kernel_rfl) ?_
    refine sem_seq (by kernel_rfl) ?_
    refine sem_cond (decide (s292 < (x284.Rects.length : Int))) (by kernel_rfl) (by kernel_rfl) (fun hb => ?_) (fun hb => ?_)
    ·replace h := iteT hb h
     refine z4 ⟨[(1, (vI x1)), (2, (vI y)), (7, (vI s207)), (12, (.sl (List.map c_Piece l.Pieces))), (13, (vI (l.Pieces.length : Int))), (14, (vI s207)), (20, (.sl (List.map c_Rect x284.Rects))), (21, (vI (x284.Rects.length : Int))), (22, (vI s292))], []⟩ (by kernel_rfl) ?_
     refine sem_seq (by kernel_rfl) ?_
     refine sem_block (by kernel_rfl) ?_
     refine z7 (by kernel_rfl) ?_
     obtain ⟨x303, hx303, h⟩ := bindS h
     refine evs_op (st_idx (c := c_Rect) (l := x284.Rects) (i := s292) (kd := .i64) (sz := 4) (by kernel_rfl) hx303 rfl) ?_
     refine z1 3 ⟨[(1, (vI x1)), (2, (vI y)), (7, (vI s207)), (10, (.ptr 10 0)), (12, (.sl (List.map c_Piece l.Pieces))), (13, (vI (l.Pieces.length : Int))), (14, (vI s207)), (20, (.sl (List.map c_Rect x284.Rects))), (21, (vI (x284.Rects.length : Int))), (22, (vI s292))], [(10, .box [(vI x303.X), (vI x303.Y), (vI x303.W), (vI x303.H)])]⟩ (by kernel_rfl) ?_
     refine sem_seq (by kernel_rfl) ?_
     obtain ⟨j304, hj304, h⟩ := bindS h
     refine sem_regionC ⟨[(1, (vI x1)), (2, (vI y)), (7, (vI s207)), (12, (.sl (List.map c_Piece l.Pieces))), (13, (vI (l.Pieces.length : Int))), (14, (vI s207)), (20, (.sl (List.map c_Rect x284.Rects))), (21, (vI (x284.Rects.length : Int))), (22, (vI s292)), (53, (vB j304))], []⟩ (by kernel_rfl) ?_ (fun τ hτ => ?_)
     ·replace h := hj304
      refine evs_run 5 (by kernel_rfl) ?_
      refine evs_split (decide (x303.X ≤ x1)) (fun b0 => ⟨[(1, (vI x1)), (2, (vI y)), (7, (vI s207)), (10, (.ptr 10 0)), (12, (.sl (List.map c_Piece l.Pieces))), (13, (vI (l.Pieces.length : Int))), (14, (vI s207)), (20, (.sl (List.map c_Rect x284.Rects))), (21, (vI (x284.Rects.length : Int))), (22, (vI s292)), (30, (vB b0))], [(10, .box [(vI x303.X), (vI x303.Y), (vI x303.W), (vI x303.H)])]⟩) (by kernel_rfl) (fun hb => ?_) (fun hb => ?_)
      ·replace h := iteT hb h
       refine evs_run 9 (by kernel_rfl) ?_
       refine evs_split (decide (x1 < (iadd x303.X x303.W))) (fun b0 => ⟨[(1, (vI x1)), (2, (vI y)), (7, (vI s207)), (10, (.ptr 10 0)), (12, (.sl (List.map c_Piece l.Pieces))), (13, (vI (l.Pieces.length : Int))), (14, (vI s207)), (20, (.sl (List.map c_Rect x284.Rects))), (21, (vI (x284.Rects.length : Int))), (22, (vI s292)), (31, (vI x1)), (32, (.ptr 10 0)), (33, (vI x303.X)), (34, (.ptr 10 2)), (35, (vI x303.W)), (36, (vI (iadd x303.X x303.W))), (37, (vB b0)), (39, (vB b0))], [(10, .box [(vI x303.X), (vI x303.Y), (vI x303.W), (vI x303.H)])]⟩) (by kernel_rfl) (fun hb => ?_) (fun hb => ?_)
       ·replace h := iteT hb h
        refine evs_run 6 (by kernel_rfl) ?_
        refine evs_split (decide (x303.Y ≤ y)) (fun b0 => ⟨[(1, (vI x1)), (2, (vI y)), (7, (vI s207)), (10, (.ptr 10 0)), (12, (.sl (List.map c_Piece l.Pieces))), (13, (vI (l.Pieces.length : Int))), (14, (vI s207)), (20, (.sl (List.map c_Rect x284.Rects))), (21, (vI (x284.Rects.length : Int))), (22, (vI s292)), (31, (vI x1)), (32, (.ptr 10 0)), (33, (vI x303.X)), (34, (.ptr 10 2)), (35, (vI x303.W)), (36, (vI (iadd x303.X x303.W))), (37, (vB true)), (40, (.ptr 10 1)), (41, (vI x303.Y)), (42, (vI y)), (43, (vB b0)), (45, (vB b0))], [(10, .box [(vI x303.X), (vI x303.Y), (vI x303.W), (vI x303.H)])]⟩) (by kernel_rfl) (fun hb => ?_) (fun hb => ?_)
        ·replace h := iteT hb h
         refine z6 8 (by kernel_rfl) (fun τ hτ => ?_)
         obtain rfl := Option.some.inj h
         exact leafC hτ (here (by kernel_rfl))
        ·replace h := iteF hb h
         refine z6 8 (by kernel_rfl) (fun τ hτ => ?_)
         obtain rfl := Option.some.inj h
         exact leafC hτ (here (by kernel_rfl))
       ·replace h := iteF hb h
        refine z6 14 (by kernel_rfl) (fun τ hτ => ?_)
        obtain rfl := Option.some.inj h
        exact leafC hτ (here (by kernel_rfl))
      ·replace h := iteF hb h
       refine z6 23 (by kernel_rfl) (fun τ hτ => ?_)
       obtain rfl := Option.some.inj h
       exact leafC hτ (here (by kernel_rfl))
     refine th_normalS hτ ⟨[(1, (vI x1)), (2, (vI y)), (7, (vI s207)), (12, (.sl (List.map c_Piece l.Pieces))), (13, (vI (l.Pieces.length : Int))), (14, (vI s207)), (20, (.sl (List.map c_Rect x284.Rects))), (21, (vI (x284.Rects.length : Int))), (22, (vI s292)), (53, (vB j304))], []⟩ (here (by kernel_rfl)) ?_
     refine sem_cond j304 (by kernel_rfl) (by kernel_rfl) (fun hb => ?_) (fun hb => ?_)
     ·replace h := iteT hb h
      refine z7 (by kernel_rfl) ?_
      refine evs_run 1 (by kernel_rfl) ?_
      refine evs_at (at_mkif (x := (some s207)) ifc_ (by kernel_rfl)) ?_
      refine z1 1 ⟨[(6, (vF 116 112 (some s207)))], []⟩ (by kernel_rfl) ?_
      refine sem_retS (by kernel_rfl) (fun τ hτ => ?_)
      refine bl_ret ?_
      refine th_ret ?_
      obtain rfl := Option.some.inj h
      exact lk_outS hτ rfl (here (by kernel_rfl))
     ·replace h := iteF hb h
      refine sem_skipS (by kernel_rfl) (fun τ hτ => ?_)
      refine bl_normal ?_
      refine th_normalS hτ ⟨[(1, (vI x1)), (2, (vI y)), (7, (vI s207)), (12, (.sl (List.map c_Piece l.Pieces))), (13, (vI (l.Pieces.length : Int))), (14, (vI s207)), (20, (.sl (List.map c_Rect x284.Rects))), (21, (vI (x284.Rects.length : Int))), (22, (vI s292))], []⟩ (here (by kernel_rfl)) ?_
      refine sem_region (by kernel_rfl) ?_
      refine z6 2 (by kernel_rfl) (fun τ hτ => ?_)
      obtain rfl := Option.some.inj h
      exact lk_nextS hτ (here (by kernel_rfl))
    ·replace h := iteF hb h
     refine sem_exitS 2 (by kernel_rfl) rfl (fun τ hτ => ?_)
     refine th_exit ?_
     obtain rfl := Option.some.inj h
     exact lk_outS hτ rfl (here (by kernel_rfl))
   ·intro x
    rcases x with _ | _ <;> rfl
   ·intro τ hτ
    rcases x305 with j306 | j307
    ·refine bl_ret ?_
     refine bl_ret ?_
     refine th_ret ?_
     obtain rfl := Option.some.inj h
     exact lk_outS hτ rfl (here (by kernel_rfl))
    ·refine bl_hit (by kernel_rfl) ?_
     refine bl_normal ?_
     refine th_normalS hτ ⟨[(1, (vI x1)), (2, (vI y)), (12, (.sl (List.map c_Piece l.Pieces))), (13, (vI (l.Pieces.length : Int))), (14, (vI s207))], []⟩ (here (by kernel_rfl)) ?_
     refine sem_region (by kernel_rfl) ?_
     refine z6 2 (by kernel_rfl) (fun τ hτ => ?_)
     obtain rfl := Option.some.inj h
     exact lk_nextS hτ (here (by kernel_rfl))
  ·replace h := iteF hb h
   refine sem_exitS 0 (by kernel_rfl) rfl (fun τ hτ => ?_)
   refine th_exit ?_
   obtain rfl := Option.some.inj h
   exact lk_outS hτ rfl (here (by kernel_rfl))
 ·intro x
  rcases x with _ | _ <;> rfl
 ·intro τ hτ
  rcases x308 with j309 | j310
  ·refine bl_ret ?_
   refine th_ret ?_
   obtain rfl := Option.some.inj h
   exact rk_ret hτ [(6, (vF 116 112 j309))] (here (by kernel_rfl)) (by kernel_rfl)
  ·refine bl_hit (by kernel_rfl) ?_
   refine th_normalS hτ ⟨[], []⟩ (here (by kernel_rfl)) ?_
   refine z7 (by kernel_rfl) ?_
   refine evs_run 1 (by kernel_rfl) ?_
   refine evs_at (at_mkif (x := none) ifc_ (by kernel_rfl)) ?_
   refine z1 1 ⟨[(6, (vF 116 112 none))], []⟩ (by kernel_rfl) ?_
   refine sem_retS (by kernel_rfl) (fun τ hτ => ?_)
   obtain rfl := Option.some.inj h
   exact rk_ret hτ [(6, (vF 116 112 none))] (here (by kernel_rfl)) (by kernel_rfl)
theorem W.cut_edges_1_k_ok {x0 : Int} {a_0 : ByteArray} {a_1 : ByteArray} {a_2 : Int} {a_3 : Int} {a_4 : Int} {a_5 : Int} {a_6 : (List Rect)} {a_7 : (List Rect)} {a_8 : (List Piece)} {a2_0 : Int} {r : (Option Int) × (Option Int)} (h : cut_edges_1_k x0 a_0 a_1 a_2 a_3 a_4 a_5 a_6 a_7 a_8 a2_0 = some r) : PC G.P 53 [(vI x0), (.vptr [(vS a_0), (vS a_1), (vI a_2), (vI a_3), (vI a_4), (vI a_5), (.sl (List.map c_Rect a_6)), (.sl (List.map c_Rect a_7)), (.sl (List.map c_Piece a_8))] 0), (.vptr [(vI a2_0)] 0)] [] (.tup [(vF 116 112 r.1), (vF 116 112 r.2)]) [] := by
 refine pc_of G (fn := Try.f53) Try.func53 (by kernel_rfl) (by kernel_rfl) (by kernel_rfl) (by kernel_rfl) (by kernel_rfl) ?_
 refine sem_set ⟨[(0, (vI x0)), (1, (.vptr [(vS a_0), (vS a_1), (vI a_2), (vI a_3), (vI a_4), (vI a_5), (.sl (List.map c_Rect a_6)), (.sl (List.map c_Rect a_7)), (.sl (List.map c_Piece a_8))] 0)), (2, (.vptr [(vI a2_0)] 0))], []⟩ (by kernel_rfl) ?_
 refine z3 2 ⟨[(0, (vI x0)), (1, (.vptr [(vS a_0), (vS a_1), (vI a_2), (vI a_3), (vI a_4), (vI a_5), (.sl (List.map c_Rect a_6)), (.sl (List.map c_Rect a_7)), (.sl (List.map c_Piece a_8))] 0)), (2, (.vptr [(vI a2_0)] 0))], []⟩ (by kernel_rfl) ?_
 refine sem_seq (by kernel_rfl) ?_
 refine sem_drawN [] [] [] [] [] 8 (by kernel_rfl) (by kernel_rfl) (by kernel_rfl) ?_
 refine evd_run 3 (by kernel_rfl) ?_
 obtain ⟨r5, hr5, h⟩ := bindS h
 refine evd_callS [] [] (by kernel_rfl) (by kernel_rfl) (W.cut_at_k_ok hr5) (by kernel_rfl) (.inl rfl) (by kernel_rfl) (by kernel_rfl) ?_
 refine evd_run 4 (by kernel_rfl) ?_
 refine evd_end (by kernel_rfl) ?_
 obtain ⟨r6, hr6, h⟩ := bindS h
 refine evo_callP [] (by kernel_rfl) (W.cut_at_k_ok hr6) (by kernel_rfl) (.inl rfl) (by kernel_rfl) ?_
 refine evo_run 2 (by kernel_rfl) ?_
 refine evo_endS (by kernel_rfl) (fun τ hτ => ?_)
 refine th_normalS hτ ⟨[(4, (vF 116 112 r5)), (5, (vF 116 112 r6))], []⟩ (here (by kernel_rfl)) ?_
 refine sem_retS (by kernel_rfl) (fun τ hτ => ?_)
 obtain rfl := Option.some.inj h
 exact rk_ret hτ [(4, (vF 116 112 r5)), (5, (vF 116 112 r6))] (here (by kernel_rfl)) (by kernel_rfl)
theorem W.cut_pieceNo_solid_k_ok {a : Int} {r : Bool} (h : cut_pieceNo_solid_k a = some r) : PC G.P 125 [(vI a)] [] (vB r) [] := by
 refine pc_of G (fn := Try.f125) Try.func125 (by kernel_rfl) (by kernel_rfl) (by kernel_rfl) (by kernel_rfl) (by kernel_rfl) ?_
 refine sem_set ⟨[], []⟩ (by kernel_rfl) ?_
 refine z3 1 ⟨[], []⟩ (by kernel_rfl) ?_
 refine z8 1 ⟨[(2, (vB true))], []⟩ (by kernel_rfl) (fun τ hτ => ?_)
 obtain rfl := Option.some.inj h
 exact rk_ret hτ [(2, (vB true))] (here (by kernel_rfl)) (by kernel_rfl)
theorem W.cut_nothing_solid_k_ok {a : cut_nothing} {r : Bool} (h : cut_nothing_solid_k a = some r) : PC G.P 124 [(.agg [])] [] (vB r) [] := by
 refine pc_of G (fn := Try.f124) Try.func124 (by kernel_rfl) (by kernel_rfl) (by kernel_rfl) (by kernel_rfl) (by kernel_rfl) ?_
 refine sem_set ⟨[(0, (.agg []))], []⟩ (by kernel_rfl) ?_
 refine z3 2 ⟨[], []⟩ (by kernel_rfl) ?_
 refine z8 1 ⟨[(2, (vB false))], []⟩ (by kernel_rfl) (fun τ hτ => ?_)
 obtain rfl := Option.some.inj h
 exact rk_ret hτ [(2, (vB false))] (here (by kernel_rfl)) (by kernel_rfl)
theorem W.cut_edges_2_k_ok {from0 : Int} {to1 : Int} {a_0 : Int} {r : Segment} (h : cut_edges_2_k from0 to1 a_0 = some r) : PC G.P 55 [(vI from0), (vI to1), (.vptr [(vI a_0)] 0)] [] (.agg [(vI r.X1), (vI r.Y1), (vI r.X2), (vI r.Y2)]) [(0, .box [(vI from0), (vI a_0), (vI to1), (vI a_0)])] := by
 refine pc_of G (fn := Try.f55) Try.func55 (by kernel_rfl) (by kernel_rfl) (by kernel_rfl) (by kernel_rfl) (by kernel_rfl) ?_
 refine sem_set ⟨[(0, (vI from0)), (1, (vI to1)), (2, (.vptr [(vI a_0)] 0))], []⟩ (by kernel_rfl) ?_
 refine z3 1 ⟨[(0, (vI from0)), (1, (vI to1)), (2, (.vptr [(vI a_0)] 0)), (5, (.ptr 5 0))], [(5, .box [(vI 0), (vI 0), (vI 0), (vI 0)])]⟩ (by kernel_rfl) ?_
 refine z8 6 ⟨[(5, (.ptr 5 0))], [(5, .box [(vI from0), (vI a_0), (vI to1), (vI a_0)])]⟩ (by kernel_rfl) (fun τ hτ => ?_)
 obtain rfl := Option.some.inj h
 exact rk_ret hτ [(5, (.ptr 0 0))] (subR_prep [] [(5, 0)] (by kernel_rfl) rfl rfl (by kernel_rfl)) (by kernel_rfl)
theorem W.cut_number_k_ok {t : (Option Int)} {r : Int} (h : cut_number_k t = some r) : PC G.P 74 [(vF 116 112 t)] [] (vI r) [] := by
 refine pc_of G (fn := Try.f74) Try.func74 (by kernel_rfl) (by kernel_rfl) (by kernel_rfl) (by kernel_rfl) (by kernel_rfl) ?_
 refine sem_set ⟨[(0, (vF 116 112 t))], []⟩ (by kernel_rfl) ?_
 refine z3 1 ⟨[(0, (vF 116 112 t))], []⟩ (by kernel_rfl) ?_
 refine z3 1 ⟨[(5, (vF 116 112 t))], []⟩ (by kernel_rfl) ?_
 refine sem_block (by kernel_rfl) ?_
 refine z7 (by kernel_rfl) ?_
 refine evs_at (at_tas (x := t) ifc_ (by kernel_rfl)) ?_
 refine z1 2 ⟨[(5, (vF 116 112 t)), (7, (vB (Option.isSome t))), (8, (vI (Option.getD t 0)))], []⟩ (by kernel_rfl) ?_
 refine sem_cond (Option.isSome t) (by kernel_rfl) (by kernel_rfl) (fun hb => ?_) (fun hb => ?_)
 ·replace h := iteT hb h
  refine z3 1 ⟨[(3, (vI (Option.getD t 0)))], []⟩ (by kernel_rfl) ?_
  refine z8 2 ⟨[(2, (vI (Option.getD t 0)))], []⟩ (by kernel_rfl) (fun τ hτ => ?_)
  refine bl_ret ?_
  obtain rfl := Option.some.inj h
  exact rk_ret hτ [(2, (vI (Option.getD t 0)))] (here (by kernel_rfl)) (by kernel_rfl)
 ·replace h := iteF hb h
  refine z3 1 ⟨[], []⟩ (by kernel_rfl) ?_
  refine z8 1 ⟨[(2, (vI (-1)))], []⟩ (by kernel_rfl) (fun τ hτ => ?_)
  refine bl_ret ?_
  obtain rfl := Option.some.inj h
  exact rk_ret hτ [(2, (vI (-1)))] (here (by kernel_rfl)) (by kernel_rfl)
theorem W.cut_edge_k_ok {s0 : Segment} {a : Int} {b : Int} {r : EdgeT × Int × Int} (h : cut_edge_k s0 a b = some r) : PC G.P 73 [(.agg [(vI s0.X1), (vI s0.Y1), (vI s0.X2), (vI s0.Y2)]), (vI a), (vI b)] [] (.agg [(vI r.1.Line.X1), (vI r.1.Line.Y1), (vI r.1.Line.X2), (vI r.1.Line.Y2), (vI r.1.A), (vI r.1.B)]) [(0, .box [(vI s0.X1), (vI s0.Y1), (vI s0.X2), (vI s0.Y2), (vI r.2.1), (vI r.2.2)])] := by
 refine pc_of G (fn := Try.f73) Try.func73 (by kernel_rfl) (by kernel_rfl) (by kernel_rfl) (by kernel_rfl) (by kernel_rfl) ?_
 refine sem_set ⟨[(0, (.agg [(vI s0.X1), (vI s0.Y1), (vI s0.X2), (vI s0.Y2)])), (1, (vI a)), (2, (vI b))], []⟩ (by kernel_rfl) ?_
 refine z3 2 ⟨[(1, (vI a)), (2, (vI b)), (3, (.ptr 3 0)), (6, (.ptr 6 0))], [(3, .box [(vI s0.X1), (vI s0.Y1), (vI s0.X2), (vI s0.Y2)]), (6, .box [(vI 0), (vI 0), (vI 0), (vI 0), (vI 0), (vI 0)])]⟩ (by kernel_rfl) ?_
 refine sem_seqJ (fun (j2 : Int × Int) => ⟨[(1, (vI j2.1)), (2, (vI j2.2)), (3, (.ptr 500000 0)), (6, (.ptr 500001 0))], [(500000, .box [(vI s0.X1), (vI s0.Y1), (vI s0.X2), (vI s0.Y2)]), (500001, .box [(vI 0), (vI 0), (vI 0), (vI 0), (vI 0), (vI 0)])]⟩) (cut_edge_k_k1 s0) r (by kernel_rfl) (fun j2 h => ?_) ?_
 ·refine z8 5 ⟨[(6, (.ptr 500001 0))], [(500001, .box [(vI s0.X1), (vI s0.Y1), (vI s0.X2), (vI s0.Y2), (vI j2.1), (vI j2.2)])]⟩ (by kernel_rfl) (fun τ hτ => ?_)
  obtain rfl := Option.some.inj h
  exact rk_ret hτ [(6, (.ptr 0 0))] (subR_prep [] [(500001, 0)] (by kernel_rfl) rfl rfl (by kernel_rfl)) (by kernel_rfl)
 refine sem_seq (by kernel_rfl) ?_
 obtain ⟨j3, hj3, h⟩ := bindS h
 refine sem_regionC ⟨[(1, (vI a)), (2, (vI b)), (3, (.ptr 500000 0)), (6, (.ptr 500001 0)), (17, (vB j3))], [(500000, .box [(vI s0.X1), (vI s0.Y1), (vI s0.X2), (vI s0.Y2)]), (500001, .box [(vI 0), (vI 0), (vI 0), (vI 0), (vI 0), (vI 0)])]⟩ (by kernel_rfl) ?_ (fun τ hτ => ?_)
 ·replace h := hj3
  refine evs_run 3 (by kernel_rfl) ?_
  refine evs_split (decide (a < 0)) (fun b0 => ⟨[(1, (vI a)), (2, (vI b)), (3, (.ptr 3 0)), (6, (.ptr 6 0)), (9, (vB b0))], [(3, .box [(vI s0.X1), (vI s0.Y1), (vI s0.X2), (vI s0.Y2)]), (6, .box [(vI 0), (vI 0), (vI 0), (vI 0), (vI 0), (vI 0)])]⟩) (by kernel_rfl) (fun hb => ?_) (fun hb => ?_)
  ·replace h := iteT hb h
   refine z6 8 (by kernel_rfl) (fun τ hτ => ?_)
   obtain rfl := Option.some.inj h
   exact leafC hτ (subR_prep [] [(3, 500000), (6, 500001)] (by kernel_rfl) rfl rfl (by kernel_rfl))
  ·replace h := iteF hb h
   refine evs_run 3 (by kernel_rfl) ?_
   refine evs_split (decide (b ≥ 0)) (fun b0 => ⟨[(1, (vI a)), (2, (vI b)), (3, (.ptr 3 0)), (6, (.ptr 6 0)), (9, (vB false)), (12, (vB b0))], [(3, .box [(vI s0.X1), (vI s0.Y1), (vI s0.X2), (vI s0.Y2)]), (6, .box [(vI 0), (vI 0), (vI 0), (vI 0), (vI 0), (vI 0)])]⟩) (by kernel_rfl) (fun hb => ?_) (fun hb => ?_)
   ·replace h := iteT hb h
    refine z6 5 (by kernel_rfl) (fun τ hτ => ?_)
    obtain rfl := Option.some.inj h
    exact leafC hτ (subR_prep [] [(3, 500000), (6, 500001)] (by kernel_rfl) rfl rfl (by kernel_rfl))
   ·replace h := iteF hb h
    refine z6 5 (by kernel_rfl) (fun τ hτ => ?_)
    obtain rfl := Option.some.inj h
    exact leafC hτ (subR_prep [] [(3, 500000), (6, 500001)] (by kernel_rfl) rfl rfl (by kernel_rfl))
 refine th_normalS hτ ⟨[(1, (vI a)), (2, (vI b)), (3, (.ptr 500000 0)), (6, (.ptr 500001 0)), (17, (vB j3))], [(500000, .box [(vI s0.X1), (vI s0.Y1), (vI s0.X2), (vI s0.Y2)]), (500001, .box [(vI 0), (vI 0), (vI 0), (vI 0), (vI 0), (vI 0)])]⟩ (here (by kernel_rfl)) ?_
 refine sem_cond j3 (by kernel_rfl) (by kernel_rfl) (fun hb => ?_) (fun hb => ?_)
 ·replace h := iteT hb h
  refine sem_region (by kernel_rfl) ?_
  refine z6 4 (by kernel_rfl) (fun τ hτ => ?_)
  exact jk_normal (b, a) h hτ (here (by kernel_rfl))
 ·replace h := iteF hb h
  refine sem_skipS (by kernel_rfl) (fun τ hτ => ?_)
  exact jk_normal (a, b) h hτ (here (by kernel_rfl))
theorem W.cut_along__cut_edges_1__cut_edges_2_k_ok {ends : (List Int)} {sides_0_0 : ByteArray} {sides_0_1 : ByteArray} {sides_0_2 : Int} {sides_0_3 : Int} {sides_0_4 : Int} {sides_0_5 : Int} {sides_0_6 : (List Rect)} {sides_0_7 : (List Rect)} {sides_0_8 : (List Piece)} {sides_1_0 : Int} {line_0_0 : Int} {r : (List EdgeT)} (h : cut_along__cut_edges_1__cut_edges_2_k ends sides_0_0 sides_0_1 sides_0_2 sides_0_3 sides_0_4 sides_0_5 sides_0_6 sides_0_7 sides_0_8 sides_1_0 line_0_0 = some r) : PC G.P 52 [(.sl (List.map cI ends)), (.fn 53 [(.vptr [(vS sides_0_0), (vS sides_0_1), (vI sides_0_2), (vI sides_0_3), (vI sides_0_4), (vI sides_0_5), (.sl (List.map c_Rect sides_0_6)), (.sl (List.map c_Rect sides_0_7)), (.sl (List.map c_Piece sides_0_8))] 0), (.vptr [(vI sides_1_0)] 0)]), (.fn 55 [(.vptr [(vI line_0_0)] 0)])] [] (.row (.top 0) 86) [(0, .row 86 [] (List.map c_EdgeT r))] := by
 refine pc_of G (fn := Try.f52) Try.func52 (by kernel_rfl) (by kernel_rfl) (by kernel_rfl) (by kernel_rfl) (by kernel_rfl) ?_
 refine sem_set ⟨[(0, (.sl (List.map cI ends))), (1, (.fn 53 [(.vptr [(vS sides_0_0), (vS sides_0_1), (vI sides_0_2), (vI sides_0_3), (vI sides_0_4), (vI sides_0_5), (.sl (List.map c_Rect sides_0_6)), (.sl (List.map c_Rect sides_0_7)), (.sl (List.map c_Piece sides_0_8))] 0), (.vptr [(vI sides_1_0)] 0)])), (2, (.fn 55 [(.vptr [(vI line_0_0)] 0)]))], []⟩ (by kernel_rfl) ?_
 refine z3 1 ⟨[(0, (.sl (List.map cI ends))), (1, (.fn 53 [(.vptr [(vS sides_0_0), (vS sides_0_1), (vI sides_0_2), (vI sides_0_3), (vI sides_0_4), (vI sides_0_5), (.sl (List.map c_Rect sides_0_6)), (.sl (List.map c_Rect sides_0_7)), (.sl (List.map c_Piece sides_0_8))] 0), (.vptr [(vI sides_1_0)] 0)])), (2, (.fn 55 [(.vptr [(vI line_0_0)] 0)]))], []⟩ (by kernel_rfl) ?_
 refine z3 1 ⟨[(0, (.sl (List.map cI ends))), (1, (.fn 53 [(.vptr [(vS sides_0_0), (vS sides_0_1), (vI sides_0_2), (vI sides_0_3), (vI sides_0_4), (vI sides_0_5), (.sl (List.map c_Rect sides_0_6)), (.sl (List.map c_Rect sides_0_7)), (.sl (List.map c_Piece sides_0_8))] 0), (.vptr [(vI sides_1_0)] 0)])), (2, (.fn 55 [(.vptr [(vI line_0_0)] 0)])), (7, (.row (.top 7) 86))], [(7, .row 86 [] (List.map c_EdgeT []))]⟩ (by kernel_rfl) ?_
 refine z3 1 ⟨[(0, (.sl (List.map cI ends))), (1, (.fn 53 [(.vptr [(vS sides_0_0), (vS sides_0_1), (vI sides_0_2), (vI sides_0_3), (vI sides_0_4), (vI sides_0_5), (.sl (List.map c_Rect sides_0_6)), (.sl (List.map c_Rect sides_0_7)), (.sl (List.map c_Piece sides_0_8))] 0), (.vptr [(vI sides_1_0)] 0)])), (2, (.fn 55 [(.vptr [(vI line_0_0)] 0)])), (7, (.row (.top 7) 86)), (8, (vI 0))], [(7, .row 86 [] (List.map c_EdgeT []))]⟩ (by kernel_rfl) ?_
 refine z7 (by kernel_rfl) ?_
 refine evs_run 1 (by kernel_rfl) ?_
 refine evs_at (at_mkif (x := none) ifc_ (by kernel_rfl)) ?_
 refine evs_run 1 (by kernel_rfl) ?_
 refine evs_at (at_mkif (x := none) ifc_ (by kernel_rfl)) ?_
 refine z1 2 ⟨[(0, (.sl (List.map cI ends))), (1, (.fn 53 [(.vptr [(vS sides_0_0), (vS sides_0_1), (vI sides_0_2), (vI sides_0_3), (vI sides_0_4), (vI sides_0_5), (.sl (List.map c_Rect sides_0_6)), (.sl (List.map c_Rect sides_0_7)), (.sl (List.map c_Piece sides_0_8))] 0), (.vptr [(vI sides_1_0)] 0)])), (2, (.fn 55 [(.vptr [(vI line_0_0)] 0)])), (7, (.row (.top 7) 86)), (8, (vI 0)), (9, (vF 116 112 none)), (10, (vF 116 112 none))], [(7, .row 86 [] (List.map c_EdgeT []))]⟩ (by kernel_rfl) ?_
 refine sem_seq (by kernel_rfl) ?_
 refine z7 (by kernel_rfl) ?_
 refine evs_run 1 (by kernel_rfl) ?_
 refine evs_op (st_len (c := cI) (l := ends) (x := (.sl (List.map cI ends))) (by kernel_rfl) (by kernel_rfl)) ?_
 refine z1 1 ⟨[(0, (.sl (List.map cI ends))), (1, (.fn 53 [(.vptr [(vS sides_0_0), (vS sides_0_1), (vI sides_0_2), (vI sides_0_3), (vI sides_0_4), (vI sides_0_5), (.sl (List.map c_Rect sides_0_6)), (.sl (List.map c_Rect sides_0_7)), (.sl (List.map c_Piece sides_0_8))] 0), (.vptr [(vI sides_1_0)] 0)])), (2, (.fn 55 [(.vptr [(vI line_0_0)] 0)])), (7, (.row (.top 7) 86)), (8, (vI 0)), (9, (vF 116 112 none)), (10, (vF 116 112 none)), (19, (.sl (List.map cI ends))), (20, (vI (ends.length : Int))), (21, (vI 0))], [(7, .row 86 [] (List.map c_EdgeT []))]⟩ (by kernel_rfl) ?_
 refine sem_block (by kernel_rfl) ?_
 obtain ⟨x486, hx486, h⟩ := bindS h
 refine sem_loopS (fun (s325 : Int × (Option Int) × (Option Int) × Int × (List EdgeT)) => ⟨[(0, (.sl (List.map cI ends))), (1, (.fn 53 [(.vptr [(vS sides_0_0), (vS sides_0_1), (vI sides_0_2), (vI sides_0_3), (vI sides_0_4), (vI sides_0_5), (.sl (List.map c_Rect sides_0_6)), (.sl (List.map c_Rect sides_0_7)), (.sl (List.map c_Piece sides_0_8))] 0), (.vptr [(vI sides_1_0)] 0)])), (2, (.fn 55 [(.vptr [(vI line_0_0)] 0)])), (7, (.row (.top 500000) 86)), (8, (vI s325.1)), (9, (vF 116 112 s325.2.1)), (10, (vF 116 112 s325.2.2.1)), (19, (.sl (List.map cI ends))), (20, (vI (ends.length : Int))), (21, (vI s325.2.2.2.1))], [(500000, .row 86 [] (List.map c_EdgeT s325.2.2.2.2))]⟩) (fun (x486 : (List EdgeT)) => (.exit 0, ⟨[(7, (.row (.top 500000) 86))], [(500000, .row 86 [] (List.map c_EdgeT x486))]⟩)) (cut_along__cut_edges_1__cut_edges_2_k_l3 ends sides_0_0 sides_0_1 sides_0_2 sides_0_3 sides_0_4 sides_0_5 sides_0_6 sides_0_7 sides_0_8 sides_1_0 line_0_0) (0, none, none, 0, []) x486 (by kernel_rfl) (subR_prep [] [(7, 500000)] (by kernel_rfl) rfl rfl (by kernel_rfl)) (iter_loop hx486) ?_ ?_ ?_
 ·intro s325 r h
  refine z3 1 ⟨[(0, (.sl (List.map cI ends))), (1, (.fn 53 [(.vptr [(vS sides_0_0), (vS sides_0_1), (vI sides_0_2), (vI sides_0_3), (vI sides_0_4), (vI sides_0_5), (.sl (List.map c_Rect sides_0_6)), (.sl (List.map c_Rect sides_0_7)), (.sl (List.map c_Piece sides_0_8))] 0), (.vptr [(vI sides_1_0)] 0)])), (2, (.fn 55 [(.vptr [(vI line_0_0)] 0)])), (7, (.row (.top 500000) 86)), (8, (vI s325.1)), (9, (vF 116 112 s325.2.1)), (10, (vF 116 112 s325.2.2.1)), (19, (.sl (List.map cI ends))), (20, (vI (ends.length : Int))), (21, (vI s325.2.2.2.1)), (22, (vB (decide (s325.2.2.2.1 < (ends.length : Int)))))], [(500000, .row 86 [] (List.map c_EdgeT s325.2.2.2.2))]⟩ (by kernel_rfl) ?_
  refine sem_seq (by kernel_rfl) ?_
  refine sem_cond (decide (s325.2.2.2.1 < (ends.length : Int))) (by kernel_rfl) (by kernel_rfl) (fun hb => ?_) (fun hb => ?_)
  ·replace h := iteT hb h
   refine z4 ⟨[(0, (.sl (List.map cI ends))), (1, (.fn 53 [(.vptr [(vS sides_0_0), (vS sides_0_1), (vI sides_0_2), (vI sides_0_3), (vI sides_0_4), (vI sides_0_5), (.sl (List.map c_Rect sides_0_6)), (.sl (List.map c_Rect sides_0_7)), (.sl (List.map c_Piece sides_0_8))] 0), (.vptr [(vI sides_1_0)] 0)])), (2, (.fn 55 [(.vptr [(vI line_0_0)] 0)])), (7, (.row (.top 500000) 86)), (8, (vI s325.1)), (9, (vF 116 112 s325.2.1)), (10, (vF 116 112 s325.2.2.1)), (19, (.sl (List.map cI ends))), (20, (vI (ends.length : Int))), (21, (vI s325.2.2.2.1))], [(500000, .row 86 [] (List.map c_EdgeT s325.2.2.2.2))]⟩ (by kernel_rfl) ?_
   refine sem_seq (by kernel_rfl) ?_
   refine sem_block (by kernel_rfl) ?_
   refine z7 (by kernel_rfl) ?_
   refine evs_run 1 (by kernel_rfl) ?_
   obtain ⟨x447, hx447, h⟩ := bindS h
   refine evs_op (st_idx (c := cI) (l := ends) (i := s325.2.2.2.1) (kd := .i64) (sz := 1) (by kernel_rfl) hx447 rfl) ?_
   refine z1 3 ⟨[(0, (.sl (List.map cI ends))), (1, (.fn 53 [(.vptr [(vS sides_0_0), (vS sides_0_1), (vI sides_0_2), (vI sides_0_3), (vI sides_0_4), (vI sides_0_5), (.sl (List.map c_Rect sides_0_6)), (.sl (List.map c_Rect sides_0_7)), (.sl (List.map c_Piece sides_0_8))] 0), (.vptr [(vI sides_1_0)] 0)])), (2, (.fn 55 [(.vptr [(vI line_0_0)] 0)])), (7, (.row (.top 500000) 86)), (8, (vI s325.1)), (9, (vF 116 112 s325.2.1)), (10, (vF 116 112 s325.2.2.1)), (11, (vI s325.2.2.2.1)), (12, (vI x447)), (19, (.sl (List.map cI ends))), (20, (vI (ends.length : Int))), (21, (vI s325.2.2.2.1))], [(500000, .row 86 [] (List.map c_EdgeT s325.2.2.2.2))]⟩ (by kernel_rfl) ?_
   refine z7 (by kernel_rfl) ?_
   refine evs_run 1 (by kernel_rfl) ?_
   refine evs_at (at_mkif (x := none) ifc_ (by kernel_rfl)) ?_
   refine evs_run 1 (by kernel_rfl) ?_
   refine evs_at (at_mkif (x := none) ifc_ (by kernel_rfl)) ?_
   refine z1 2 ⟨[(0, (.sl (List.map cI ends))), (1, (.fn 53 [(.vptr [(vS sides_0_0), (vS sides_0_1), (vI sides_0_2), (vI sides_0_3), (vI sides_0_4), (vI sides_0_5), (.sl (List.map c_Rect sides_0_6)), (.sl (List.map c_Rect sides_0_7)), (.sl (List.map c_Piece sides_0_8))] 0), (.vptr [(vI sides_1_0)] 0)])), (2, (.fn 55 [(.vptr [(vI line_0_0)] 0)])), (7, (.row (.top 500000) 86)), (8, (vI s325.1)), (9, (vF 116 112 s325.2.1)), (10, (vF 116 112 s325.2.2.1)), (11, (vI s325.2.2.2.1)), (12, (vI x447)), (13, (vF 116 112 none)), (14, (vF 116 112 none)), (19, (.sl (List.map cI ends))), (20, (vI (ends.length : Int))), (21, (vI s325.2.2.2.1))], [(500000, .row 86 [] (List.map c_EdgeT s325.2.2.2.2))]⟩ (by kernel_rfl) ?_
   refine sem_seqJ (fun (j450 : (Option Int) × (Option Int)) => ⟨[(0, (.sl (List.map cI ends))), (1, (.fn 53 [(.vptr [(vS sides_0_0), (vS sides_0_1), (vI sides_0_2), (vI sides_0_3), (vI sides_0_4), (vI sides_0_5), (.sl (List.map c_Rect sides_0_6)), (.sl (List.map c_Rect sides_0_7)), (.sl (List.map c_Piece sides_0_8))] 0), (.vptr [(vI sides_1_0)] 0)])), (2, (.fn 55 [(.vptr [(vI line_0_0)] 0)])), (7, (.row (.top 500000) 86)), (8, (vI s325.1)), (9, (vF 116 112 s325.2.1)), (10, (vF 116 112 s325.2.2.1)), (12, (vI x447)), (13, (vF 116 112 j450.1)), (14, (vF 116 112 j450.2)), (19, (.sl (List.map cI ends))), (20, (vI (ends.length : Int))), (21, (vI s325.2.2.2.1))], [(500000, .row 86 [] (List.map c_EdgeT s325.2.2.2.2))]⟩) (cut_along__cut_edges_1__cut_edges_2_k_k2 line_0_0 s325 x447) r (by kernel_rfl) (fun j450 h => ?_) ?_
   ·refine sem_seq (by kernel_rfl) ?_
    refine sem_seq (by kernel_rfl) ?_
    obtain ⟨j452, hj452, h⟩ := bindS h
    refine sem_regionC ⟨[(0, (.sl (List.map cI ends))), (1, (.fn 53 [(.vptr [(vS sides_0_0), (vS sides_0_1), (vI sides_0_2), (vI sides_0_3), (vI sides_0_4), (vI sides_0_5), (.sl (List.map c_Rect sides_0_6)), (.sl (List.map c_Rect sides_0_7)), (.sl (List.map c_Piece sides_0_8))] 0), (.vptr [(vI sides_1_0)] 0)])), (2, (.fn 55 [(.vptr [(vI line_0_0)] 0)])), (7, (.row (.top 500000) 86)), (8, (vI s325.1)), (9, (vF 116 112 s325.2.1)), (10, (vF 116 112 s325.2.2.1)), (12, (vI x447)), (13, (vF 116 112 j450.1)), (14, (vF 116 112 j450.2)), (19, (.sl (List.map cI ends))), (20, (vI (ends.length : Int))), (21, (vI s325.2.2.2.1)), (48, (vB j452))], [(500000, .row 86 [] (List.map c_EdgeT s325.2.2.2.2))]⟩ (by kernel_rfl) ?_ (fun τ hτ => ?_)
    ·replace h := hj452
     refine evs_run 2 (by kernel_rfl) ?_
     refine evs_at (at_ife (x := j450.1) (y := s325.2.1) ifc_ (by kernel_rfl)) ?_
     refine evs_run 1 (by kernel_rfl) ?_
     refine evs_split (j450.1 == s325.2.1) (fun b0 => ⟨[(0, (.sl (List.map cI ends))), (1, (.fn 53 [(.vptr [(vS sides_0_0), (vS sides_0_1), (vI sides_0_2), (vI sides_0_3), (vI sides_0_4), (vI sides_0_5), (.sl (List.map c_Rect sides_0_6)), (.sl (List.map c_Rect sides_0_7)), (.sl (List.map c_Piece sides_0_8))] 0), (.vptr [(vI sides_1_0)] 0)])), (2, (.fn 55 [(.vptr [(vI line_0_0)] 0)])), (7, (.row (.top 500000) 86)), (8, (vI s325.1)), (9, (vF 116 112 s325.2.1)), (10, (vF 116 112 s325.2.2.1)), (12, (vI x447)), (13, (vF 116 112 j450.1)), (14, (vF 116 112 j450.2)), (19, (.sl (List.map cI ends))), (20, (vI (ends.length : Int))), (21, (vI s325.2.2.2.1)), (44, (vB b0))], [(500000, .row 86 [] (List.map c_EdgeT s325.2.2.2.2))]⟩) (by kernel_rfl) (fun hb => ?_) (fun hb => ?_)
     ·replace h := iteT hb h
      refine evs_run 2 (by kernel_rfl) ?_
      refine evs_at (at_ife (x := j450.2) (y := s325.2.2.1) ifc_ (by kernel_rfl)) ?_
      refine z6 1 (by kernel_rfl) (fun τ hτ => ?_)
      obtain rfl := Option.some.inj h
      exact leafC hτ (here (by kernel_rfl))
     ·replace h := iteF hb h
      refine z6 4 (by kernel_rfl) (fun τ hτ => ?_)
      obtain rfl := Option.some.inj h
      exact leafC hτ (here (by kernel_rfl))
    refine th_normalS hτ ⟨[(0, (.sl (List.map cI ends))), (1, (.fn 53 [(.vptr [(vS sides_0_0), (vS sides_0_1), (vI sides_0_2), (vI sides_0_3), (vI sides_0_4), (vI sides_0_5), (.sl (List.map c_Rect sides_0_6)), (.sl (List.map c_Rect sides_0_7)), (.sl (List.map c_Piece sides_0_8))] 0), (.vptr [(vI sides_1_0)] 0)])), (2, (.fn 55 [(.vptr [(vI line_0_0)] 0)])), (7, (.row (.top 500000) 86)), (8, (vI s325.1)), (9, (vF 116 112 s325.2.1)), (10, (vF 116 112 s325.2.2.1)), (12, (vI x447)), (13, (vF 116 112 j450.1)), (14, (vF 116 112 j450.2)), (19, (.sl (List.map cI ends))), (20, (vI (ends.length : Int))), (21, (vI s325.2.2.2.1)), (48, (vB j452))], [(500000, .row 86 [] (List.map c_EdgeT s325.2.2.2.2))]⟩ (here (by kernel_rfl)) ?_
    refine sem_cond j452 (by kernel_rfl) (by kernel_rfl) (fun hb => ?_) (fun hb => ?_)
    ·replace h := iteT hb h
     exact nomatch h
    ·replace h := iteF hb h
     refine z4 ⟨[(0, (.sl (List.map cI ends))), (1, (.fn 53 [(.vptr [(vS sides_0_0), (vS sides_0_1), (vI sides_0_2), (vI sides_0_3), (vI sides_0_4), (vI sides_0_5), (.sl (List.map c_Rect sides_0_6)), (.sl (List.map c_Rect sides_0_7)), (.sl (List.map c_Piece sides_0_8))] 0), (.vptr [(vI sides_1_0)] 0)])), (2, (.fn 55 [(.vptr [(vI line_0_0)] 0)])), (7, (.row (.top 500000) 86)), (8, (vI s325.1)), (9, (vF 116 112 s325.2.1)), (10, (vF 116 112 s325.2.2.1)), (12, (vI x447)), (13, (vF 116 112 j450.1)), (14, (vF 116 112 j450.2)), (19, (.sl (List.map cI ends))), (20, (vI (ends.length : Int))), (21, (vI s325.2.2.2.1))], [(500000, .row 86 [] (List.map c_EdgeT s325.2.2.2.2))]⟩ (by kernel_rfl) ?_
     refine sem_seqJ (fun (j468 : (List EdgeT)) => ⟨[(0, (.sl (List.map cI ends))), (1, (.fn 53 [(.vptr [(vS sides_0_0), (vS sides_0_1), (vI sides_0_2), (vI sides_0_3), (vI sides_0_4), (vI sides_0_5), (.sl (List.map c_Rect sides_0_6)), (.sl (List.map c_Rect sides_0_7)), (.sl (List.map c_Piece sides_0_8))] 0), (.vptr [(vI sides_1_0)] 0)])), (2, (.fn 55 [(.vptr [(vI line_0_0)] 0)])), (7, (.row (.top 500000) 86)), (12, (vI x447)), (13, (vF 116 112 j450.1)), (14, (vF 116 112 j450.2)), (19, (.sl (List.map cI ends))), (20, (vI (ends.length : Int))), (21, (vI s325.2.2.2.1))], [(500000, .row 86 [] (List.map c_EdgeT j468))]⟩) (cut_along__cut_edges_1__cut_edges_2_k_k1 s325 x447 j450) r (by kernel_rfl) (fun j468 h => ?_) ?_
     ·refine sem_region (by kernel_rfl) ?_
      refine z6 6 (by kernel_rfl) (fun τ hτ => ?_)
      refine bl_normal ?_
      refine th_normalS hτ ⟨[(0, (.sl (List.map cI ends))), (1, (.fn 53 [(.vptr [(vS sides_0_0), (vS sides_0_1), (vI sides_0_2), (vI sides_0_3), (vI sides_0_4), (vI sides_0_5), (.sl (List.map c_Rect sides_0_6)), (.sl (List.map c_Rect sides_0_7)), (.sl (List.map c_Piece sides_0_8))] 0), (.vptr [(vI sides_1_0)] 0)])), (2, (.fn 55 [(.vptr [(vI line_0_0)] 0)])), (7, (.row (.top 500000) 86)), (8, (vI x447)), (9, (vF 116 112 j450.1)), (10, (vF 116 112 j450.2)), (19, (.sl (List.map cI ends))), (20, (vI (ends.length : Int))), (21, (vI s325.2.2.2.1))], [(500000, .row 86 [] (List.map c_EdgeT j468))]⟩ (here (by kernel_rfl)) ?_
      refine sem_region (by kernel_rfl) ?_
      refine z6 2 (by kernel_rfl) (fun τ hτ => ?_)
      obtain rfl := Option.some.inj h
      exact lk_nextS hτ (here (by kernel_rfl))
     refine sem_seq (by kernel_rfl) ?_
     obtain ⟨j471, hj471, h⟩ := bindS h
     refine sem_regionC ⟨[(0, (.sl (List.map cI ends))), (1, (.fn 53 [(.vptr [(vS sides_0_0), (vS sides_0_1), (vI sides_0_2), (vI sides_0_3), (vI sides_0_4), (vI sides_0_5), (.sl (List.map c_Rect sides_0_6)), (.sl (List.map c_Rect sides_0_7)), (.sl (List.map c_Piece sides_0_8))] 0), (.vptr [(vI sides_1_0)] 0)])), (2, (.fn 55 [(.vptr [(vI line_0_0)] 0)])), (7, (.row (.top 500000) 86)), (8, (vI s325.1)), (9, (vF 116 112 s325.2.1)), (10, (vF 116 112 s325.2.2.1)), (12, (vI x447)), (13, (vF 116 112 j450.1)), (14, (vF 116 112 j450.2)), (19, (.sl (List.map cI ends))), (20, (vI (ends.length : Int))), (21, (vI s325.2.2.2.1)), (59, (vB j471))], [(500000, .row 86 [] (List.map c_EdgeT s325.2.2.2.2))]⟩ (by kernel_rfl) ?_ (fun τ hτ => ?_)
     ·replace h := hj471
      refine evs_run 2 (by kernel_rfl) ?_
      refine evs_at (at_ifn (x := s325.2.1) (y := s325.2.2.1) ifc_ (by kernel_rfl)) ?_
      refine evs_run 1 (by kernel_rfl) ?_
      refine evs_split (s325.2.1 == s325.2.2.1) (fun b0 => ⟨[(0, (.sl (List.map cI ends))), (1, (.fn 53 [(.vptr [(vS sides_0_0), (vS sides_0_1), (vI sides_0_2), (vI sides_0_3), (vI sides_0_4), (vI sides_0_5), (.sl (List.map c_Rect sides_0_6)), (.sl (List.map c_Rect sides_0_7)), (.sl (List.map c_Piece sides_0_8))] 0), (.vptr [(vI sides_1_0)] 0)])), (2, (.fn 55 [(.vptr [(vI line_0_0)] 0)])), (7, (.row (.top 500000) 86)), (8, (vI s325.1)), (9, (vF 116 112 s325.2.1)), (10, (vF 116 112 s325.2.2.1)), (12, (vI x447)), (13, (vF 116 112 j450.1)), (14, (vF 116 112 j450.2)), (19, (.sl (List.map cI ends))), (20, (vI (ends.length : Int))), (21, (vI s325.2.2.2.1)), (52, (vB (!b0)))], [(500000, .row 86 [] (List.map c_EdgeT s325.2.2.2.2))]⟩) (by kernel_rfl) (fun hb => ?_) (fun hb => ?_)
      ·replace h := iteT hb h
       refine z6 7 (by kernel_rfl) (fun τ hτ => ?_)
       obtain rfl := Option.some.inj h
       exact leafC hτ (here (by kernel_rfl))
      ·replace h := iteF hb h
       refine evs_run 1 (by kernel_rfl) ?_
       obtain ⟨b472, hb472, h⟩ := bindS h
       refine evs_inv (x := s325.2.1) (r := b472) ifc_ (by kernel_rfl) (inv_pc hb472 (fun n h => W.cut_pieceNo_solid_k_ok h) (fun h => W.cut_nothing_solid_k_ok h)) ?_
       refine evs_run 1 (by kernel_rfl) ?_
       refine evs_split b472 (fun b0 => ⟨[(0, (.sl (List.map cI ends))), (1, (.fn 53 [(.vptr [(vS sides_0_0), (vS sides_0_1), (vI sides_0_2), (vI sides_0_3), (vI sides_0_4), (vI sides_0_5), (.sl (List.map c_Rect sides_0_6)), (.sl (List.map c_Rect sides_0_7)), (.sl (List.map c_Piece sides_0_8))] 0), (.vptr [(vI sides_1_0)] 0)])), (2, (.fn 55 [(.vptr [(vI line_0_0)] 0)])), (7, (.row (.top 500000) 86)), (8, (vI s325.1)), (9, (vF 116 112 s325.2.1)), (10, (vF 116 112 s325.2.2.1)), (12, (vI x447)), (13, (vF 116 112 j450.1)), (14, (vF 116 112 j450.2)), (19, (.sl (List.map cI ends))), (20, (vI (ends.length : Int))), (21, (vI s325.2.2.2.1)), (52, (vB true)), (53, (vF 116 112 s325.2.1)), (54, (vB b0)), (55, (vB b0))], [(500000, .row 86 [] (List.map c_EdgeT s325.2.2.2.2))]⟩) (by kernel_rfl) (fun hb => ?_) (fun hb => ?_)
       ·replace h := iteT hb h
        refine z6 4 (by kernel_rfl) (fun τ hτ => ?_)
        obtain rfl := Option.some.inj h
        exact leafC hτ (here (by kernel_rfl))
       ·replace h := iteF hb h
        refine evs_run 1 (by kernel_rfl) ?_
        obtain ⟨b473, hb473, h⟩ := bindS h
        refine evs_inv (x := s325.2.2.1) (r := b473) ifc_ (by kernel_rfl) (inv_pc hb473 (fun n h => W.cut_pieceNo_solid_k_ok h) (fun h => W.cut_nothing_solid_k_ok h)) ?_
        refine z6 2 (by kernel_rfl) (fun τ hτ => ?_)
        obtain rfl := Option.some.inj h
        exact leafC hτ (here (by kernel_rfl))
     refine th_normalS hτ ⟨[(0, (.sl (List.map cI ends))), (1, (.fn 53 [(.vptr [(vS sides_0_0), (vS sides_0_1), (vI sides_0_2), (vI sides_0_3), (vI sides_0_4), (vI sides_0_5), (.sl (List.map c_Rect sides_0_6)), (.sl (List.map c_Rect sides_0_7)), (.sl (List.map c_Piece sides_0_8))] 0), (.vptr [(vI sides_1_0)] 0)])), (2, (.fn 55 [(.vptr [(vI line_0_0)] 0)])), (7, (.row (.top 500000) 86)), (8, (vI s325.1)), (9, (vF 116 112 s325.2.1)), (10, (vF 116 112 s325.2.2.1)), (12, (vI x447)), (13, (vF 116 112 j450.1)), (14, (vF 116 112 j450.2)), (19, (.sl (List.map cI ends))), (20, (vI (ends.length : Int))), (21, (vI s325.2.2.2.1)), (59, (vB j471))], [(500000, .row 86 [] (List.map c_EdgeT s325.2.2.2.2))]⟩ (here (by kernel_rfl)) ?_
     refine sem_cond j471 (by kernel_rfl) (by kernel_rfl) (fun hb => ?_) (fun hb => ?_)
     ·replace h := iteT hb h
      refine sem_region (by kernel_rfl) ?_
      refine evs_run 4 (by kernel_rfl) ?_
      obtain ⟨r479, hr479, h⟩ := bindS h
      refine evs_callS [] [(0, 700200)] [] (by kernel_rfl) (W.cut_edges_2_k_ok hr479) (by kernel_rfl) (by kernel_rfl) (.inl rfl) ?_
      refine evs_run 1 (by kernel_rfl) ?_
      obtain ⟨r480, hr480, h⟩ := bindS h
      refine evs_callP [] (by kernel_rfl) (W.cut_number_k_ok hr480) (by kernel_rfl) (.inl rfl) (by kernel_rfl) ?_
      refine evs_run 1 (by kernel_rfl) ?_
      obtain ⟨r481, hr481, h⟩ := bindS h
      refine evs_callP [] (by kernel_rfl) (W.cut_number_k_ok hr481) (by kernel_rfl) (.inl rfl) (by kernel_rfl) ?_
      obtain ⟨r482, hr482, h⟩ := bindS h
      refine evs_callS [] [(0, 700450)] [] (by kernel_rfl) (W.cut_edge_k_ok hr482) (by kernel_rfl) (by kernel_rfl) (.inl rfl) ?_
      refine evs_run 1 (by kernel_rfl) ?_
      obtain ⟨l483, hl483, h⟩ := bindS h
      refine evs_op (st_app (c := c_EdgeT) (l := s325.2.2.2.2) (l2 := [(EdgeT.mk (Segment.mk r482.1.Line.X1 r482.1.Line.Y1 r482.1.Line.X2 r482.1.Line.Y2) r482.1.A r482.1.B)]) (x := (.sl (List.map c_EdgeT [(EdgeT.mk (Segment.mk r482.1.Line.X1 r482.1.Line.Y1 r482.1.Line.X2 r482.1.Line.Y2) r482.1.A r482.1.B)]))) (g := 500000) (e := 86) (sz := 6) (d := 71) (by kernel_rfl) (by kernel_rfl) (by kernel_rfl) (by kernel_rfl) (fun _ => rfl) rfl hl483) ?_
      refine z6 1 (by kernel_rfl) (fun τ hτ => ?_)
      exact jk_normal l483 h hτ (here (by kernel_rfl))
     ·replace h := iteF hb h
      refine sem_skipS (by kernel_rfl) (fun τ hτ => ?_)
      exact jk_normal s325.2.2.2.2 h hτ (here (by kernel_rfl))
   refine z7 (by kernel_rfl) ?_
   refine evs_run 3 (by kernel_rfl) ?_
   refine evs_op (st_len (c := cI) (l := ends) (x := (.sl (List.map cI ends))) (by kernel_rfl) (by kernel_rfl)) ?_
   refine z1 1 ⟨[(0, (.sl (List.map cI ends))), (1, (.fn 53 [(.vptr [(vS sides_0_0), (vS sides_0_1), (vI sides_0_2), (vI sides_0_3), (vI sides_0_4), (vI sides_0_5), (.sl (List.map c_Rect sides_0_6)), (.sl (List.map c_Rect sides_0_7)), (.sl (List.map c_Piece sides_0_8))] 0), (.vptr [(vI sides_1_0)] 0)])), (2, (.fn 55 [(.vptr [(vI line_0_0)] 0)])), (7, (.row (.top 500000) 86)), (8, (vI s325.1)), (9, (vF 116 112 s325.2.1)), (10, (vF 116 112 s325.2.2.1)), (12, (vI x447)), (13, (vF 116 112 none)), (14, (vF 116 112 none)), (19, (.sl (List.map cI ends))), (20, (vI (ends.length : Int))), (21, (vI s325.2.2.2.1)), (34, (vB (decide ((iadd s325.2.2.2.1 1) < (ends.length : Int)))))], [(500000, .row 86 [] (List.map c_EdgeT s325.2.2.2.2))]⟩ (by kernel_rfl) ?_
   refine sem_cond (decide ((iadd s325.2.2.2.1 1) < (ends.length : Int))) (by kernel_rfl) (by kernel_rfl) (fun hb => ?_) (fun hb => ?_)
   ·replace h := iteT hb h
    refine sem_region (by kernel_rfl) ?_
    refine evs_run 2 (by kernel_rfl) ?_
    obtain ⟨r485, hr485, h⟩ := bindS h
    refine evs_callP [] (by kernel_rfl) (W.cut_edges_1_k_ok hr485) (by kernel_rfl) (.inl rfl) (by kernel_rfl) ?_
    refine z6 5 (by kernel_rfl) (fun τ hτ => ?_)
    exact jk_normal (r485.1, r485.2) h hτ (here (by kernel_rfl))
   ·replace h := iteF hb h
    refine sem_skipS (by kernel_rfl) (fun τ hτ => ?_)
    exact jk_normal (none, none) h hτ (here (by kernel_rfl))
  ·replace h := iteF hb h
   refine sem_exitS 0 (by kernel_rfl) rfl (fun τ hτ => ?_)
   refine th_exit ?_
   obtain rfl := Option.some.inj h
   exact lk_outS hτ rfl (here (by kernel_rfl))
 ·intro x
  rfl
 ·intro τ hτ
  refine bl_hit (by kernel_rfl) ?_
  refine th_normalS hτ ⟨[(7, (.row (.top 500000) 86))], [(500000, .row 86 [] (List.map c_EdgeT x486))]⟩ (here (by kernel_rfl)) ?_
  refine z8 2 ⟨[(6, (.row (.top 500000) 86))], [(500000, .row 86 [] (List.map c_EdgeT x486))]⟩ (by kernel_rfl) (fun τ hτ => ?_)
  obtain rfl := Option.some.inj h
  exact rk_ret hτ [(6, (.row (.top 0) 86))] (subR_prep [] [(500000, 0)] (by kernel_rfl) rfl rfl (by kernel_rfl)) (by kernel_rfl)
theorem W.cut_edges_3_k_ok {y : Int} {a_0 : ByteArray} {a_1 : ByteArray} {a_2 : Int} {a_3 : Int} {a_4 : Int} {a_5 : Int} {a_6 : (List Rect)} {a_7 : (List Rect)} {a_8 : (List Piece)} {a2_0 : Int} {r : (Option Int) × (Option Int)} (h : cut_edges_3_k y a_0 a_1 a_2 a_3 a_4 a_5 a_6 a_7 a_8 a2_0 = some r) : PC G.P 56 [(vI y), (.vptr [(vS a_0), (vS a_1), (vI a_2), (vI a_3), (vI a_4), (vI a_5), (.sl (List.map c_Rect a_6)), (.sl (List.map c_Rect a_7)), (.sl (List.map c_Piece a_8))] 0), (.vptr [(vI a2_0)] 0)] [] (.tup [(vF 116 112 r.1), (vF 116 112 r.2)]) [] := by
 refine pc_of G (fn := Try.f56) Try.func56 (by kernel_rfl) (by kernel_rfl) (by kernel_rfl) (by kernel_rfl) (by kernel_rfl) ?_
 refine sem_set ⟨[(0, (vI y)), (1, (.vptr [(vS a_0), (vS a_1), (vI a_2), (vI a_3), (vI a_4), (vI a_5), (.sl (List.map c_Rect a_6)), (.sl (List.map c_Rect a_7)), (.sl (List.map c_Piece a_8))] 0)), (2, (.vptr [(vI a2_0)] 0))], []⟩ (by kernel_rfl) ?_
 refine z3 2 ⟨[(0, (vI y)), (1, (.vptr [(vS a_0), (vS a_1), (vI a_2), (vI a_3), (vI a_4), (vI a_5), (.sl (List.map c_Rect a_6)), (.sl (List.map c_Rect a_7)), (.sl (List.map c_Piece a_8))] 0)), (2, (.vptr [(vI a2_0)] 0))], []⟩ (by kernel_rfl) ?_
 refine sem_seq (by kernel_rfl) ?_
 refine sem_drawN [] [] [] [] [] 8 (by kernel_rfl) (by kernel_rfl) (by kernel_rfl) ?_
 refine evd_run 3 (by kernel_rfl) ?_
 obtain ⟨r5, hr5, h⟩ := bindS h
 refine evd_callS [] [] (by kernel_rfl) (by kernel_rfl) (W.cut_at_k_ok hr5) (by kernel_rfl) (.inl rfl) (by kernel_rfl) (by kernel_rfl) ?_
 refine evd_run 4 (by kernel_rfl) ?_
 refine evd_end (by kernel_rfl) ?_
 obtain ⟨r6, hr6, h⟩ := bindS h
 refine evo_callP [] (by kernel_rfl) (W.cut_at_k_ok hr6) (by kernel_rfl) (.inl rfl) (by kernel_rfl) ?_
 refine evo_run 2 (by kernel_rfl) ?_
 refine evo_endS (by kernel_rfl) (fun τ hτ => ?_)
 refine th_normalS hτ ⟨[(4, (vF 116 112 r5)), (5, (vF 116 112 r6))], []⟩ (here (by kernel_rfl)) ?_
 refine sem_retS (by kernel_rfl) (fun τ hτ => ?_)
 obtain rfl := Option.some.inj h
 exact rk_ret hτ [(4, (vF 116 112 r5)), (5, (vF 116 112 r6))] (here (by kernel_rfl)) (by kernel_rfl)
theorem W.cut_edges_4_k_ok {from0 : Int} {to1 : Int} {a_0 : Int} {r : Segment} (h : cut_edges_4_k from0 to1 a_0 = some r) : PC G.P 57 [(vI from0), (vI to1), (.vptr [(vI a_0)] 0)] [] (.agg [(vI r.X1), (vI r.Y1), (vI r.X2), (vI r.Y2)]) [(0, .box [(vI a_0), (vI from0), (vI a_0), (vI to1)])] := by
 refine pc_of G (fn := Try.f57) Try.func57 (by kernel_rfl) (by kernel_rfl) (by kernel_rfl) (by kernel_rfl) (by kernel_rfl) ?_
 refine sem_set ⟨[(0, (vI from0)), (1, (vI to1)), (2, (.vptr [(vI a_0)] 0))], []⟩ (by kernel_rfl) ?_
 refine z3 1 ⟨[(0, (vI from0)), (1, (vI to1)), (2, (.vptr [(vI a_0)] 0)), (5, (.ptr 5 0))], [(5, .box [(vI 0), (vI 0), (vI 0), (vI 0)])]⟩ (by kernel_rfl) ?_
 refine z8 6 ⟨[(5, (.ptr 5 0))], [(5, .box [(vI a_0), (vI from0), (vI a_0), (vI to1)])]⟩ (by kernel_rfl) (fun τ hτ => ?_)
 obtain rfl := Option.some.inj h
 exact rk_ret hτ [(5, (.ptr 0 0))] (subR_prep [] [(5, 0)] (by kernel_rfl) rfl rfl (by kernel_rfl)) (by kernel_rfl)
end Go.Proofs.Ytgfjbgoehhnaeaa
