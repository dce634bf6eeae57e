/- Each Go function does what its model says; written by a program out of the translation. -/
import Derived.Test.YtgfjbgoehhnaeaaWA3
import Derived.Test.YtgfjbgoehhnaeaaCaMA
set_option linter.unusedVariables false
set_option linter.unusedSimpArgs false
set_option linter.unusedSectionVars false
namespace Go.Proofs.Ytgfjbgoehhnaeaa
open Go Go.VI Go.SM Go.Proofs
set_option maxRecDepth 100000
set_option maxHeartbeats 4000000
theorem W.sheetmetalref07_Small_ok {x0 : Piece} {r : Bool} (h : sheetmetalref07_Small x0 = some r) : PC G.P 8 [(.agg [(vS x0.Name), (vS x0.Material), (vI x0.Gauge), (vI x0.Grain), (.sl (List.map c_Rect x0.Rects)), (.sl (List.map c_Rect x0.Cuts)), (.sl (List.map c_Rect x0.Forms))])] [] (vB r) [] := by
 refine pc_of G (fn := Try.f8) Try.func8 (by kernel_rfl) (by kernel_rfl) (by kernel_rfl) (by kernel_rfl) (by kernel_rfl) ?_
 refine sem_set ⟨[(0, (.agg [(vS x0.Name), (vS x0.Material), (vI x0.Gauge), (vI x0.Grain), (.sl (List.map c_Rect x0.Rects)), (.sl (List.map c_Rect x0.Cuts)), (.sl (List.map c_Rect x0.Forms))]))], []⟩ (by kernel_rfl) ?_
 refine z3 2 ⟨[(1, (.ptr 1 0))], [(1, .box [(vS x0.Name), (vS x0.Material), (vI x0.Gauge), (vI x0.Grain), (.sl (List.map c_Rect x0.Rects)), (.sl (List.map c_Rect x0.Cuts)), (.sl (List.map c_Rect x0.Forms))])]⟩ (by kernel_rfl) ?_
 refine z3 1 ⟨[(1, (.ptr 1 0)), (3, (vB false))], [(1, .box [(vS x0.Name), (vS x0.Material), (vI x0.Gauge), (vI x0.Grain), (.sl (List.map c_Rect x0.Rects)), (.sl (List.map c_Rect x0.Cuts)), (.sl (List.map c_Rect x0.Forms))])]⟩ (by kernel_rfl) ?_
 refine z3 4 ⟨[(1, (.ptr 1 0)), (3, (vB false)), (4, (vI 0)), (5, (vI 0)), (6, (vI 0)), (7, (vI 0))], [(1, .box [(vS x0.Name), (vS x0.Material), (vI x0.Gauge), (vI x0.Grain), (.sl (List.map c_Rect x0.Rects)), (.sl (List.map c_Rect x0.Cuts)), (.sl (List.map c_Rect x0.Forms))])]⟩ (by kernel_rfl) ?_
 refine sem_seq (by kernel_rfl) ?_
 refine z3 1 ⟨[(1, (.ptr 1 0)), (3, (vB false)), (4, (vI 0)), (5, (vI 0)), (6, (vI 0)), (7, (vI 0)), (8, (vI 0))], [(1, .box [(vS x0.Name), (vS x0.Material), (vI x0.Gauge), (vI x0.Grain), (.sl (List.map c_Rect x0.Rects)), (.sl (List.map c_Rect x0.Cuts)), (.sl (List.map c_Rect x0.Forms))])]⟩ (by kernel_rfl) ?_
 refine sem_block (by kernel_rfl) ?_
 obtain ⟨x96, hx96, h⟩ := bindS h
 refine sem_loopS (fun (s65 : Bool × Int × Int × Int × Int × Int) => ⟨[(1, (.ptr 500000 0)), (3, (vB s65.1)), (4, (vI s65.2.1)), (5, (vI s65.2.2.1)), (6, (vI s65.2.2.2.1)), (7, (vI s65.2.2.2.2.1)), (8, (vI s65.2.2.2.2.2))], [(500000, .box [(vS x0.Name), (vS x0.Material), (vI x0.Gauge), (vI x0.Grain), (.sl (List.map c_Rect x0.Rects)), (.sl (List.map c_Rect x0.Cuts)), (.sl (List.map c_Rect x0.Forms))])]⟩) (fun (x96 : Bool × Int × Int × Int × Int) => (.exit 0, ⟨[(3, (vB x96.1)), (4, (vI x96.2.1)), (5, (vI x96.2.2.1)), (6, (vI x96.2.2.2.1)), (7, (vI x96.2.2.2.2))], []⟩)) (sheetmetalref07_Small_l3 x0) (false, 0, 0, 0, 0, 0) x96 (by kernel_rfl) (subR_prep [] [(1, 500000)] (by kernel_rfl) rfl rfl (by kernel_rfl)) hx96 ?_ ?_ ?_
 ·intro s65 r h
  refine sem_seq (by kernel_rfl) ?_
  refine z7 (by kernel_rfl) ?_
  refine evs_run 3 (by kernel_rfl) ?_
  refine evs_op (st_len (c := c_Rect) (l := x0.Rects) (x := (.sl (List.map c_Rect x0.Rects))) (by kernel_rfl) (by kernel_rfl)) ?_
  refine z1 1 ⟨[(1, (.ptr 500000 0)), (3, (vB s65.1)), (4, (vI s65.2.1)), (5, (vI s65.2.2.1)), (6, (vI s65.2.2.2.1)), (7, (vI s65.2.2.2.2.1)), (8, (vI s65.2.2.2.2.2)), (14, (vB (decide (s65.2.2.2.2.2 < (x0.Rects.length : Int)))))], [(500000, .box [(vS x0.Name), (vS x0.Material), (vI x0.Gauge), (vI x0.Grain), (.sl (List.map c_Rect x0.Rects)), (.sl (List.map c_Rect x0.Cuts)), (.sl (List.map c_Rect x0.Forms))])]⟩ (by kernel_rfl) ?_
  refine sem_cond (decide (s65.2.2.2.2.2 < (x0.Rects.length : Int))) (by kernel_rfl) (by kernel_rfl) (fun hb => ?_) (fun hb => ?_)
  ·replace h := iteT hb h
   refine z4 ⟨[(1, (.ptr 500000 0)), (3, (vB s65.1)), (4, (vI s65.2.1)), (5, (vI s65.2.2.1)), (6, (vI s65.2.2.2.1)), (7, (vI s65.2.2.2.2.1)), (8, (vI s65.2.2.2.2.2))], [(500000, .box [(vS x0.Name), (vS x0.Material), (vI x0.Gauge), (vI x0.Grain), (.sl (List.map c_Rect x0.Rects)), (.sl (List.map c_Rect x0.Cuts)), (.sl (List.map c_Rect x0.Forms))])]⟩ (by kernel_rfl) ?_
   refine sem_seqJ (fun (j88 : Bool × Int × Int × Int × Int) => ⟨[(1, (.ptr 500000 0)), (3, (vB j88.1)), (4, (vI j88.2.1)), (5, (vI j88.2.2.1)), (6, (vI j88.2.2.2.1)), (7, (vI j88.2.2.2.2)), (8, (vI s65.2.2.2.2.2))], [(500000, .box [(vS x0.Name), (vS x0.Material), (vI x0.Gauge), (vI x0.Grain), (.sl (List.map c_Rect x0.Rects)), (.sl (List.map c_Rect x0.Cuts)), (.sl (List.map c_Rect x0.Forms))])]⟩) (sheetmetalref07_Small_k1 s65) r (by kernel_rfl) (fun j88 h => ?_) ?_
   ·refine sem_region (by kernel_rfl) ?_
    refine z6 3 (by kernel_rfl) (fun τ hτ => ?_)
    obtain rfl := Option.some.inj h
    exact lk_nextS hτ (here (by kernel_rfl))
   refine sem_block (by kernel_rfl) ?_
   refine z7 (by kernel_rfl) ?_
   refine evs_run 3 (by kernel_rfl) ?_
   obtain ⟨x90, hx90, h⟩ := bindS h
   refine evs_op (st_idx (c := c_Rect) (l := x0.Rects) (i := s65.2.2.2.2.2) (kd := .i64) (sz := 4) (by kernel_rfl) hx90 rfl) ?_
   refine z1 3 ⟨[(1, (.ptr 500000 0)), (3, (vB s65.1)), (4, (vI s65.2.1)), (5, (vI s65.2.2.1)), (6, (vI s65.2.2.2.1)), (7, (vI s65.2.2.2.2.1)), (8, (vI s65.2.2.2.2.2)), (9, (.ptr 9 0))], [(9, .box [(vI x90.X), (vI x90.Y), (vI x90.W), (vI x90.H)]), (500000, .box [(vS x0.Name), (vS x0.Material), (vI x0.Gauge), (vI x0.Grain), (.sl (List.map c_Rect x0.Rects)), (.sl (List.map c_Rect x0.Cuts)), (.sl (List.map c_Rect x0.Forms))])]⟩ (by kernel_rfl) ?_
   refine sem_seq (by kernel_rfl) ?_
   refine z7 (by kernel_rfl) ?_
   refine evs_run 1 (by kernel_rfl) ?_
   obtain ⟨r94, hr94, h⟩ := bindS h
   refine evs_callP [] (by kernel_rfl) (W.sheetmetalref06_Right_ok hr94) (by kernel_rfl) (.inl rfl) (by kernel_rfl) ?_
   refine z1 1 ⟨[(1, (.ptr 500000 0)), (3, (vB s65.1)), (4, (vI s65.2.1)), (5, (vI s65.2.2.1)), (6, (vI s65.2.2.2.1)), (7, (vI s65.2.2.2.2.1)), (8, (vI s65.2.2.2.2.2)), (9, (.ptr 9 0)), (24, (vB (!r94)))], [(9, .box [(vI x90.X), (vI x90.Y), (vI x90.W), (vI x90.H)]), (500000, .box [(vS x0.Name), (vS x0.Material), (vI x0.Gauge), (vI x0.Grain), (.sl (List.map c_Rect x0.Rects)), (.sl (List.map c_Rect x0.Cuts)), (.sl (List.map c_Rect x0.Forms))])]⟩ (by kernel_rfl) ?_
   refine sem_cond (!r94) (by kernel_rfl) (by kernel_rfl) (fun hb => ?_) (fun hb => ?_)
   ·replace h := iteT hb h
    refine sem_exitS 1 (by kernel_rfl) rfl (fun τ hτ => ?_)
    refine th_exit ?_
    refine bl_hit (by kernel_rfl) ?_
    exact jk_normal (s65.1, s65.2.1, s65.2.2.1, s65.2.2.2.1, s65.2.2.2.2.1) h hτ (here (by kernel_rfl))
   ·replace h := iteF hb h
    refine z4 ⟨[(1, (.ptr 500000 0)), (3, (vB s65.1)), (4, (vI s65.2.1)), (5, (vI s65.2.2.1)), (6, (vI s65.2.2.2.1)), (7, (vI s65.2.2.2.2.1)), (8, (vI s65.2.2.2.2.2)), (9, (.ptr 9 0))], [(9, .box [(vI x90.X), (vI x90.Y), (vI x90.W), (vI x90.H)]), (500000, .box [(vS x0.Name), (vS x0.Material), (vI x0.Gauge), (vI x0.Grain), (.sl (List.map c_Rect x0.Rects)), (.sl (List.map c_Rect x0.Cuts)), (.sl (List.map c_Rect x0.Forms))])]⟩ (by kernel_rfl) ?_
    refine sem_seqJ (fun (j95 : Bool × Int × Int × Int × Int) => ⟨[(1, (.ptr 500000 0)), (3, (vB j95.1)), (4, (vI j95.2.1)), (5, (vI j95.2.2.1)), (6, (vI j95.2.2.2.1)), (7, (vI j95.2.2.2.2)), (8, (vI s65.2.2.2.2.2)), (9, (.ptr 500001 0))], [(500000, .box [(vS x0.Name), (vS x0.Material), (vI x0.Gauge), (vI x0.Grain), (.sl (List.map c_Rect x0.Rects)), (.sl (List.map c_Rect x0.Cuts)), (.sl (List.map c_Rect x0.Forms))]), (500001, .box [(vI x90.X), (vI x90.Y), (vI x90.W), (vI x90.H)])]⟩) (sheetmetalref07_Small_k2 s65 x90) r (by kernel_rfl) (fun j95 h => ?_) ?_
    ·refine z3 5 ⟨[(1, (.ptr 500000 0)), (3, (vB j95.1)), (4, (vI (imin j95.2.1 x90.X))), (5, (vI j95.2.2.1)), (6, (vI j95.2.2.2.1)), (7, (vI j95.2.2.2.2)), (8, (vI s65.2.2.2.2.2)), (9, (.ptr 500001 0))], [(500000, .box [(vS x0.Name), (vS x0.Material), (vI x0.Gauge), (vI x0.Grain), (.sl (List.map c_Rect x0.Rects)), (.sl (List.map c_Rect x0.Cuts)), (.sl (List.map c_Rect x0.Forms))]), (500001, .box [(vI x90.X), (vI x90.Y), (vI x90.W), (vI x90.H)])]⟩ (by kernel_rfl) ?_
     refine z3 5 ⟨[(1, (.ptr 500000 0)), (3, (vB j95.1)), (4, (vI (imin j95.2.1 x90.X))), (5, (vI (imin j95.2.2.1 x90.Y))), (6, (vI j95.2.2.2.1)), (7, (vI j95.2.2.2.2)), (8, (vI s65.2.2.2.2.2)), (9, (.ptr 500001 0))], [(500000, .box [(vS x0.Name), (vS x0.Material), (vI x0.Gauge), (vI x0.Grain), (.sl (List.map c_Rect x0.Rects)), (.sl (List.map c_Rect x0.Cuts)), (.sl (List.map c_Rect x0.Forms))]), (500001, .box [(vI x90.X), (vI x90.Y), (vI x90.W), (vI x90.H)])]⟩ (by kernel_rfl) ?_
     refine z3 8 ⟨[(1, (.ptr 500000 0)), (3, (vB j95.1)), (4, (vI (imin j95.2.1 x90.X))), (5, (vI (imin j95.2.2.1 x90.Y))), (6, (vI (imax j95.2.2.2.1 (iadd x90.X x90.W)))), (7, (vI j95.2.2.2.2)), (8, (vI s65.2.2.2.2.2)), (9, (.ptr 500001 0))], [(500000, .box [(vS x0.Name), (vS x0.Material), (vI x0.Gauge), (vI x0.Grain), (.sl (List.map c_Rect x0.Rects)), (.sl (List.map c_Rect x0.Cuts)), (.sl (List.map c_Rect x0.Forms))]), (500001, .box [(vI x90.X), (vI x90.Y), (vI x90.W), (vI x90.H)])]⟩ (by kernel_rfl) ?_
     refine sem_region (by kernel_rfl) ?_
     refine z6 8 (by kernel_rfl) (fun τ hτ => ?_)
     refine bl_normal ?_
     exact jk_normal (j95.1, (imin j95.2.1 x90.X), (imin j95.2.2.1 x90.Y), (imax j95.2.2.2.1 (iadd x90.X x90.W)), (imax j95.2.2.2.2 (iadd x90.Y x90.H))) h hτ (here (by kernel_rfl))
    refine z3 2 ⟨[(1, (.ptr 500000 0)), (3, (vB s65.1)), (4, (vI s65.2.1)), (5, (vI s65.2.2.1)), (6, (vI s65.2.2.2.1)), (7, (vI s65.2.2.2.2.1)), (8, (vI s65.2.2.2.2.2)), (9, (.ptr 9 0)), (26, (vB (!s65.1)))], [(9, .box [(vI x90.X), (vI x90.Y), (vI x90.W), (vI x90.H)]), (500000, .box [(vS x0.Name), (vS x0.Material), (vI x0.Gauge), (vI x0.Grain), (.sl (List.map c_Rect x0.Rects)), (.sl (List.map c_Rect x0.Cuts)), (.sl (List.map c_Rect x0.Forms))])]⟩ (by kernel_rfl) ?_
    refine sem_cond (!s65.1) (by kernel_rfl) (by kernel_rfl) (fun hb => ?_) (fun hb => ?_)
    ·replace h := iteT hb h
     refine sem_seq (by kernel_rfl) ?_
     refine sem_drawN [] [] [] [] [] 17 (by kernel_rfl) (by kernel_rfl) (by kernel_rfl) ?_
     refine evd_run 17 (by kernel_rfl) ?_
     refine evd_end (by kernel_rfl) ?_
     refine evo_run 1 (by kernel_rfl) ?_
     refine evo_endS (by kernel_rfl) (fun τ hτ => ?_)
     refine th_normalS hτ ⟨[(1, (.ptr 500000 0)), (4, (vI x90.X)), (5, (vI x90.Y)), (6, (vI (iadd x90.X x90.W))), (7, (vI (iadd x90.Y x90.H))), (8, (vI s65.2.2.2.2.2)), (9, (.ptr 9 0))], [(9, .box [(vI x90.X), (vI x90.Y), (vI x90.W), (vI x90.H)]), (500000, .box [(vS x0.Name), (vS x0.Material), (vI x0.Gauge), (vI x0.Grain), (.sl (List.map c_Rect x0.Rects)), (.sl (List.map c_Rect x0.Cuts)), (.sl (List.map c_Rect x0.Forms))])]⟩ (here (by kernel_rfl)) ?_
     refine sem_region (by kernel_rfl) ?_
     refine z6 1 (by kernel_rfl) (fun τ hτ => ?_)
     exact jk_normal (true, x90.X, x90.Y, (iadd x90.X x90.W), (iadd x90.Y x90.H)) h hτ (subR_prep [] [(9, 500001), (500000, 500000)] (by kernel_rfl) rfl rfl (by kernel_rfl))
    ·replace h := iteF hb h
     refine sem_skipS (by kernel_rfl) (fun τ hτ => ?_)
     exact jk_normal (s65.1, s65.2.1, s65.2.2.1, s65.2.2.2.1, s65.2.2.2.2.1) h hτ (subR_prep [] [(9, 500001), (500000, 500000)] (by kernel_rfl) rfl rfl (by kernel_rfl))
  ·replace h := iteF hb h
   refine sem_exitS 0 (by kernel_rfl) rfl (fun τ hτ => ?_)
   refine th_exit ?_
   obtain rfl := Option.some.inj h
   exact lk_outS hτ rfl (here (by kernel_rfl))
 ·intro x
  rfl
 ·intro τ hτ
  refine bl_hit (by kernel_rfl) ?_
  refine th_normalS hτ ⟨[(3, (vB x96.1)), (4, (vI x96.2.1)), (5, (vI x96.2.2.1)), (6, (vI x96.2.2.2.1)), (7, (vI x96.2.2.2.2))], []⟩ (here (by kernel_rfl)) ?_
  refine sem_seq (by kernel_rfl) ?_
  obtain ⟨j97, hj97, h⟩ := bindS h
  refine sem_regionC ⟨[(2, (vB j97))], []⟩ (by kernel_rfl) ?_ (fun τ hτ => ?_)
  ·replace h := hj97
   refine evs_run 3 (by kernel_rfl) ?_
   refine evs_split x96.1 (fun b0 => ⟨[(4, (vI x96.2.1)), (5, (vI x96.2.2.1)), (6, (vI x96.2.2.2.1)), (7, (vI x96.2.2.2.2)), (65, (vB (!b0)))], []⟩) (by kernel_rfl) (fun hb => ?_) (fun hb => ?_)
   ·replace h := iteT hb h
    refine z6 10 (by kernel_rfl) (fun τ hτ => ?_)
    obtain rfl := Option.some.inj h
    exact leafC hτ (here (by kernel_rfl))
   ·replace h := iteF hb h
    refine z6 10 (by kernel_rfl) (fun τ hτ => ?_)
    obtain rfl := Option.some.inj h
    exact leafC hτ (here (by kernel_rfl))
  refine th_normalS hτ ⟨[(2, (vB j97))], []⟩ (here (by kernel_rfl)) ?_
  refine sem_retS (by kernel_rfl) (fun τ hτ => ?_)
  obtain rfl := Option.some.inj h
  exact rk_ret hτ [(2, (vB j97))] (here (by kernel_rfl)) (by kernel_rfl)
theorem W.geom_Inside_ok {a : Rect} {b : Rect} {r : Bool} (h : geom_Inside a b = some r) : PC G.P 24 [(.agg [(vI a.X), (vI a.Y), (vI a.W), (vI a.H)]), (.agg [(vI b.X), (vI b.Y), (vI b.W), (vI b.H)])] [] (vB r) [] := by
 refine pc_of G (fn := Try.f24) Try.func24 (by kernel_rfl) (by kernel_rfl) (by kernel_rfl) (by kernel_rfl) (by kernel_rfl) ?_
 refine sem_set ⟨[(0, (.agg [(vI a.X), (vI a.Y), (vI a.W), (vI a.H)])), (1, (.agg [(vI b.X), (vI b.Y), (vI b.W), (vI b.H)]))], []⟩ (by kernel_rfl) ?_
 refine z3 3 ⟨[(2, (.ptr 2 0)), (3, (.ptr 3 0))], [(2, .box [(vI a.X), (vI a.Y), (vI a.W), (vI a.H)]), (3, .box [(vI b.X), (vI b.Y), (vI b.W), (vI b.H)])]⟩ (by kernel_rfl) ?_
 refine sem_seq (by kernel_rfl) ?_
 obtain ⟨j3, hj3, h⟩ := bindS h
 refine sem_regionC ⟨[(4, (vB j3))], []⟩ (by kernel_rfl) ?_ (fun τ hτ => ?_)
 ·replace h := hj3
  refine evs_run 1 (by kernel_rfl) ?_
  obtain ⟨r4, hr4, h⟩ := bindS h
  refine evs_callP [] (by kernel_rfl) (W.geom_ValidRect_ok hr4) (by kernel_rfl) (.inl rfl) (by kernel_rfl) ?_
  refine evs_run 1 (by kernel_rfl) ?_
  refine evs_split r4 (fun b0 => ⟨[(2, (.ptr 2 0)), (3, (.ptr 3 0)), (7, (vB b0))], [(2, .box [(vI a.X), (vI a.Y), (vI a.W), (vI a.H)]), (3, .box [(vI b.X), (vI b.Y), (vI b.W), (vI b.H)])]⟩) (by kernel_rfl) (fun hb => ?_) (fun hb => ?_)
  ·replace h := iteT hb h
   refine evs_run 1 (by kernel_rfl) ?_
   obtain ⟨r5, hr5, h⟩ := bindS h
   refine evs_callP [] (by kernel_rfl) (W.geom_ValidRect_ok hr5) (by kernel_rfl) (.inl rfl) (by kernel_rfl) ?_
   refine evs_run 2 (by kernel_rfl) ?_
   refine evs_split r5 (fun b0 => ⟨[(2, (.ptr 2 0)), (3, (.ptr 3 0)), (11, (vB b0))], [(2, .box [(vI a.X), (vI a.Y), (vI a.W), (vI a.H)]), (3, .box [(vI b.X), (vI b.Y), (vI b.W), (vI b.H)])]⟩) (by kernel_rfl) (fun hb => ?_) (fun hb => ?_)
   ·replace h := iteT hb h
    refine evs_run 7 (by kernel_rfl) ?_
    refine evs_split (decide (b.X ≤ a.X)) (fun b0 => ⟨[(2, (.ptr 2 0)), (3, (.ptr 3 0)), (18, (vB b0))], [(2, .box [(vI a.X), (vI a.Y), (vI a.W), (vI a.H)]), (3, .box [(vI b.X), (vI b.Y), (vI b.W), (vI b.H)])]⟩) (by kernel_rfl) (fun hb => ?_) (fun hb => ?_)
    ·replace h := iteT hb h
     refine evs_run 13 (by kernel_rfl) ?_
     refine evs_split (decide ((iadd a.X a.W) ≤ (iadd b.X b.W))) (fun b0 => ⟨[(2, (.ptr 2 0)), (3, (.ptr 3 0)), (31, (vB b0))], [(2, .box [(vI a.X), (vI a.Y), (vI a.W), (vI a.H)]), (3, .box [(vI b.X), (vI b.Y), (vI b.W), (vI b.H)])]⟩) (by kernel_rfl) (fun hb => ?_) (fun hb => ?_)
     ·replace h := iteT hb h
      refine evs_run 7 (by kernel_rfl) ?_
      refine evs_split (decide (b.Y ≤ a.Y)) (fun b0 => ⟨[(2, (.ptr 2 0)), (3, (.ptr 3 0)), (38, (vB b0))], [(2, .box [(vI a.X), (vI a.Y), (vI a.W), (vI a.H)]), (3, .box [(vI b.X), (vI b.Y), (vI b.W), (vI b.H)])]⟩) (by kernel_rfl) (fun hb => ?_) (fun hb => ?_)
      ·replace h := iteT hb h
       refine z6 13 (by kernel_rfl) (fun τ hτ => ?_)
       obtain rfl := Option.some.inj h
       exact leafC hτ (here (by kernel_rfl))
      ·replace h := iteF hb h
       refine z6 13 (by kernel_rfl) (fun τ hτ => ?_)
       obtain rfl := Option.some.inj h
       exact leafC hτ (here (by kernel_rfl))
     ·replace h := iteF hb h
      refine z6 20 (by kernel_rfl) (fun τ hτ => ?_)
      obtain rfl := Option.some.inj h
      exact leafC hτ (here (by kernel_rfl))
    ·replace h := iteF hb h
     refine z6 33 (by kernel_rfl) (fun τ hτ => ?_)
     obtain rfl := Option.some.inj h
     exact leafC hτ (here (by kernel_rfl))
   ·replace h := iteF hb h
    refine z6 40 (by kernel_rfl) (fun τ hτ => ?_)
    obtain rfl := Option.some.inj h
    exact leafC hτ (here (by kernel_rfl))
  ·replace h := iteF hb h
   refine z6 44 (by kernel_rfl) (fun τ hτ => ?_)
   obtain rfl := Option.some.inj h
   exact leafC hτ (here (by kernel_rfl))
 refine th_normalS hτ ⟨[(4, (vB j3))], []⟩ (here (by kernel_rfl)) ?_
 refine sem_retS (by kernel_rfl) (fun τ hτ => ?_)
 obtain rfl := Option.some.inj h
 exact rk_ret hτ [(4, (vB j3))] (here (by kernel_rfl)) (by kernel_rfl)
theorem W.cut_InRegion_1_ok {r0 : Rect} {a_0 : Int} {a_1 : Int} {a_2 : Int} {a_3 : Int} {r : Bool} (h : cut_InRegion_1 r0 a_0 a_1 a_2 a_3 = some r) : PC G.P 23 [(.agg [(vI r0.X), (vI r0.Y), (vI r0.W), (vI r0.H)]), (.vptr [(vI a_0), (vI a_1), (vI a_2), (vI a_3)] 0)] [] (vB r) [] := by
 refine pc_of G (fn := Try.f23) Try.func23 (by kernel_rfl) (by kernel_rfl) (by kernel_rfl) (by kernel_rfl) (by kernel_rfl) ?_
 refine sem_set ⟨[(0, (.agg [(vI r0.X), (vI r0.Y), (vI r0.W), (vI r0.H)])), (1, (.vptr [(vI a_0), (vI a_1), (vI a_2), (vI a_3)] 0))], []⟩ (by kernel_rfl) ?_
 refine z3 2 ⟨[(1, (.vptr [(vI a_0), (vI a_1), (vI a_2), (vI a_3)] 0)), (2, (.ptr 2 0))], [(2, .box [(vI r0.X), (vI r0.Y), (vI r0.W), (vI r0.H)])]⟩ (by kernel_rfl) ?_
 refine z7 (by kernel_rfl) ?_
 refine evs_run 2 (by kernel_rfl) ?_
 obtain ⟨r2, hr2, h⟩ := bindS h
 refine evs_callP [] (by kernel_rfl) (W.geom_Inside_ok hr2) (by kernel_rfl) (.inl rfl) (by kernel_rfl) ?_
 refine z1 1 ⟨[(3, (vB r2))], []⟩ (by kernel_rfl) ?_
 refine sem_retS (by kernel_rfl) (fun τ hτ => ?_)
 obtain rfl := Option.some.inj h
 exact rk_ret hτ [(3, (vB r2))] (here (by kernel_rfl)) (by kernel_rfl)
theorem W.slices_IndexFunc_Lapi_Rect_api_Rect__cut_InRegion_1_ok {s0 : (List Rect)} {f_0_0 : Int} {f_0_1 : Int} {f_0_2 : Int} {f_0_3 : Int} {r : Int} (h : slices_IndexFunc_Lapi_Rect_api_Rect__cut_InRegion_1 s0 f_0_0 f_0_1 f_0_2 f_0_3 = some r) : PC G.P 38 [(.sl (List.map c_Rect s0)), (.fn 23 [(.vptr [(vI f_0_0), (vI f_0_1), (vI f_0_2), (vI f_0_3)] 0)])] [] (vI r) [] := by
 refine pc_of G (fn := Try.f38) Try.func38 (by kernel_rfl) (by kernel_rfl) (by kernel_rfl) (by kernel_rfl) (by kernel_rfl) ?_
 refine sem_set ⟨[(0, (.sl (List.map c_Rect s0))), (1, (.fn 23 [(.vptr [(vI f_0_0), (vI f_0_1), (vI f_0_2), (vI f_0_3)] 0)]))], []⟩ (by kernel_rfl) ?_
 refine z3 1 ⟨[(0, (.sl (List.map c_Rect s0))), (1, (.fn 23 [(.vptr [(vI f_0_0), (vI f_0_1), (vI f_0_2), (vI f_0_3)] 0)]))], []⟩ (by kernel_rfl) ?_
 refine sem_seq (by kernel_rfl) ?_
 refine z7 (by kernel_rfl) ?_
 refine evs_run 1 (by kernel_rfl) ?_
 refine evs_op (st_len (c := c_Rect) (l := s0) (x := (.sl (List.map c_Rect s0))) (by kernel_rfl) (by kernel_rfl)) ?_
 refine z1 1 ⟨[(0, (.sl (List.map c_Rect s0))), (1, (.fn 23 [(.vptr [(vI f_0_0), (vI f_0_1), (vI f_0_2), (vI f_0_3)] 0)])), (7, (vI (s0.length : Int))), (8, (vI 0))], []⟩ (by kernel_rfl) ?_
 refine sem_block (by kernel_rfl) ?_
 obtain ⟨x56, hx56, h⟩ := bindS h
 refine sem_loopS (fun (s39 : Int) => ⟨[(0, (.sl (List.map c_Rect s0))), (1, (.fn 23 [(.vptr [(vI f_0_0), (vI f_0_1), (vI f_0_2), (vI f_0_3)] 0)])), (7, (vI (s0.length : Int))), (8, (vI s39))], []⟩) (fun (x56 : Int ⊕ Unit) => match x56 with | .inl j57 => (.ret, ⟨[(4, (vI j57))], []⟩) | .inr j58 => (.exit 0, ⟨[], []⟩)) (slices_IndexFunc_Lapi_Rect_api_Rect__cut_InRegion_1_l1 s0 f_0_0 f_0_1 f_0_2 f_0_3) 0 x56 (by kernel_rfl) (here (by kernel_rfl)) hx56 ?_ ?_ ?_
 ·intro s39 r h
  refine z3 1 ⟨[(0, (.sl (List.map c_Rect s0))), (1, (.fn 23 [(.vptr [(vI f_0_0), (vI f_0_1), (vI f_0_2), (vI f_0_3)] 0)])), (7, (vI (s0.length : Int))), (8, (vI s39)), (9, (vB (decide (s39 < (s0.length : Int)))))], []⟩ (by kernel_rfl) ?_
  refine sem_seq (by kernel_rfl) ?_
  refine sem_cond (decide (s39 < (s0.length : Int))) (by kernel_rfl) (by kernel_rfl) (fun hb => ?_) (fun hb => ?_)
  ·replace h := iteT hb h
   refine z4 ⟨[(0, (.sl (List.map c_Rect s0))), (1, (.fn 23 [(.vptr [(vI f_0_0), (vI f_0_1), (vI f_0_2), (vI f_0_3)] 0)])), (7, (vI (s0.length : Int))), (8, (vI s39))], []⟩ (by kernel_rfl) ?_
   refine sem_seq (by kernel_rfl) ?_
   refine sem_block (by kernel_rfl) ?_
   refine z3 2 ⟨[(0, (.sl (List.map c_Rect s0))), (1, (.fn 23 [(.vptr [(vI f_0_0), (vI f_0_1), (vI f_0_2), (vI f_0_3)] 0)])), (5, (vI s39)), (7, (vI (s0.length : Int))), (8, (vI s39))], []⟩ (by kernel_rfl) ?_
   refine z7 (by kernel_rfl) ?_
   refine evs_run 3 (by kernel_rfl) ?_
   obtain ⟨x54, hx54, h⟩ := bindS h
   refine evs_op (st_idx (c := c_Rect) (l := s0) (i := s39) (kd := .i64) (sz := 4) (by kernel_rfl) hx54 rfl) ?_
   refine evs_run 1 (by kernel_rfl) ?_
   obtain ⟨r55, hr55, h⟩ := bindS h
   refine evs_callP [] (by kernel_rfl) (W.cut_InRegion_1_ok hr55) (by kernel_rfl) (.inl rfl) (by kernel_rfl) ?_
   refine evs_endS (by kernel_rfl) (fun τ hτ => ?_)
   refine th_normalS hτ ⟨[(0, (.sl (List.map c_Rect s0))), (1, (.fn 23 [(.vptr [(vI f_0_0), (vI f_0_1), (vI f_0_2), (vI f_0_3)] 0)])), (5, (vI s39)), (7, (vI (s0.length : Int))), (8, (vI s39)), (16, (vB r55))], []⟩ (here (by kernel_rfl)) ?_
   refine sem_cond r55 (by kernel_rfl) (by kernel_rfl) (fun hb => ?_) (fun hb => ?_)
   ·replace h := iteT hb h
    refine z8 2 ⟨[(4, (vI s39))], []⟩ (by kernel_rfl) (fun τ hτ => ?_)
    refine bl_ret ?_
    refine th_ret ?_
    obtain rfl := Option.some.inj h
    exact lk_outS hτ rfl (here (by kernel_rfl))
   ·replace h := iteF hb h
    refine sem_skipS (by kernel_rfl) (fun τ hτ => ?_)
    refine bl_normal ?_
    refine th_normalS hτ ⟨[(0, (.sl (List.map c_Rect s0))), (1, (.fn 23 [(.vptr [(vI f_0_0), (vI f_0_1), (vI f_0_2), (vI f_0_3)] 0)])), (7, (vI (s0.length : Int))), (8, (vI s39))], []⟩ (here (by kernel_rfl)) ?_
    refine sem_region (by kernel_rfl) ?_
    refine z6 2 (by kernel_rfl) (fun τ hτ => ?_)
    obtain rfl := Option.some.inj h
    exact lk_nextS hτ (here (by kernel_rfl))
  ·replace h := iteF hb h
   refine sem_exitS 0 (by kernel_rfl) rfl (fun τ hτ => ?_)
   refine th_exit ?_
   obtain rfl := Option.some.inj h
   exact lk_outS hτ rfl (here (by kernel_rfl))
 ·intro x
  rcases x with _ | _ <;> rfl
 ·intro τ hτ
  rcases x56 with j57 | j58
  ·refine bl_ret ?_
   refine th_ret ?_
   obtain rfl := Option.some.inj h
   exact rk_ret hτ [(4, (vI j57))] (here (by kernel_rfl)) (by kernel_rfl)
  ·refine bl_hit (by kernel_rfl) ?_
   refine th_normalS hτ ⟨[], []⟩ (here (by kernel_rfl)) ?_
   refine z8 1 ⟨[(4, (vI (-1)))], []⟩ (by kernel_rfl) (fun τ hτ => ?_)
   obtain rfl := Option.some.inj h
   exact rk_ret hτ [(4, (vI (-1)))] (here (by kernel_rfl)) (by kernel_rfl)
theorem W.slices_ContainsFunc_Lapi_Rect_api_Rect__cut_InRegion_1_ok {s0 : (List Rect)} {f_0_0 : Int} {f_0_1 : Int} {f_0_2 : Int} {f_0_3 : Int} {r : Bool} (h : slices_ContainsFunc_Lapi_Rect_api_Rect__cut_InRegion_1 s0 f_0_0 f_0_1 f_0_2 f_0_3 = some r) : PC G.P 22 [(.sl (List.map c_Rect s0)), (.fn 23 [(.vptr [(vI f_0_0), (vI f_0_1), (vI f_0_2), (vI f_0_3)] 0)])] [] (vB r) [] := by
 refine pc_of G (fn := Try.f22) Try.func22 (by kernel_rfl) (by kernel_rfl) (by kernel_rfl) (by kernel_rfl) (by kernel_rfl) ?_
 refine sem_set ⟨[(0, (.sl (List.map c_Rect s0))), (1, (.fn 23 [(.vptr [(vI f_0_0), (vI f_0_1), (vI f_0_2), (vI f_0_3)] 0)]))], []⟩ (by kernel_rfl) ?_
 refine z3 1 ⟨[(0, (.sl (List.map c_Rect s0))), (1, (.fn 23 [(.vptr [(vI f_0_0), (vI f_0_1), (vI f_0_2), (vI f_0_3)] 0)]))], []⟩ (by kernel_rfl) ?_
 refine z7 (by kernel_rfl) ?_
 refine evs_run 2 (by kernel_rfl) ?_
 obtain ⟨r2, hr2, h⟩ := bindS h
 refine evs_callP [] (by kernel_rfl) (W.slices_IndexFunc_Lapi_Rect_api_Rect__cut_InRegion_1_ok hr2) (by kernel_rfl) (.inl rfl) (by kernel_rfl) ?_
 refine z1 2 ⟨[(4, (vB (decide (r2 ≥ 0))))], []⟩ (by kernel_rfl) ?_
 refine sem_retS (by kernel_rfl) (fun τ hτ => ?_)
 obtain rfl := Option.some.inj h
 exact rk_ret hτ [(4, (vB (decide (r2 ≥ 0))))] (here (by kernel_rfl)) (by kernel_rfl)
theorem W.cut_InRegion_ok {l : (List Rect)} {s1 : Spot} {r : Bool} (h : cut_InRegion l s1 = some r) : PC G.P 9 [(.sl (List.map c_Rect l)), (.agg [(vI s1.X), (vI s1.Y)])] [] (vB r) [] := by
 refine pc_of G (fn := Try.f9) Try.func9 (by kernel_rfl) (by kernel_rfl) (by kernel_rfl) (by kernel_rfl) (by kernel_rfl) ?_
 refine sem_set ⟨[(0, (.sl (List.map c_Rect l))), (1, (.agg [(vI s1.X), (vI s1.Y)]))], []⟩ (by kernel_rfl) ?_
 refine z3 2 ⟨[(0, (.sl (List.map c_Rect l))), (3, (.ptr 3 0))], [(3, .box [(vI s1.X), (vI s1.Y)])]⟩ (by kernel_rfl) ?_
 refine sem_seq (by kernel_rfl) ?_
 refine sem_seq (by kernel_rfl) ?_
 obtain ⟨j2, hj2, h⟩ := bindS h
 refine sem_regionC ⟨[(0, (.sl (List.map c_Rect l))), (3, (.ptr 500000 0)), (24, (vB j2))], [(500000, .box [(vI s1.X), (vI s1.Y)])]⟩ (by kernel_rfl) ?_ (fun τ hτ => ?_)
 ·replace h := hj2
  refine evs_run 4 (by kernel_rfl) ?_
  refine evs_split (decide (s1.X < (-4194304))) (fun b0 => ⟨[(0, (.sl (List.map c_Rect l))), (3, (.ptr 3 0)), (10, (vB b0))], [(3, .box [(vI s1.X), (vI s1.Y)])]⟩) (by kernel_rfl) (fun hb => ?_) (fun hb => ?_)
  ·replace h := iteT hb h
   refine z6 14 (by kernel_rfl) (fun τ hτ => ?_)
   obtain rfl := Option.some.inj h
   exact leafC hτ (subR_prep [] [(3, 500000)] (by kernel_rfl) rfl rfl (by kernel_rfl))
  ·replace h := iteF hb h
   refine evs_run 5 (by kernel_rfl) ?_
   refine evs_split (decide (s1.X > 4194304)) (fun b0 => ⟨[(0, (.sl (List.map c_Rect l))), (3, (.ptr 3 0)), (15, (vB b0))], [(3, .box [(vI s1.X), (vI s1.Y)])]⟩) (by kernel_rfl) (fun hb => ?_) (fun hb => ?_)
   ·replace h := iteT hb h
    refine z6 9 (by kernel_rfl) (fun τ hτ => ?_)
    obtain rfl := Option.some.inj h
    exact leafC hτ (subR_prep [] [(3, 500000)] (by kernel_rfl) rfl rfl (by kernel_rfl))
   ·replace h := iteF hb h
    refine evs_run 5 (by kernel_rfl) ?_
    refine evs_split (decide (s1.Y < (-4194304))) (fun b0 => ⟨[(0, (.sl (List.map c_Rect l))), (3, (.ptr 3 0)), (20, (vB b0))], [(3, .box [(vI s1.X), (vI s1.Y)])]⟩) (by kernel_rfl) (fun hb => ?_) (fun hb => ?_)
    ·replace h := iteT hb h
     refine z6 4 (by kernel_rfl) (fun τ hτ => ?_)
     obtain rfl := Option.some.inj h
     exact leafC hτ (subR_prep [] [(3, 500000)] (by kernel_rfl) rfl rfl (by kernel_rfl))
    ·replace h := iteF hb h
     refine z6 4 (by kernel_rfl) (fun τ hτ => ?_)
     obtain rfl := Option.some.inj h
     exact leafC hτ (subR_prep [] [(3, 500000)] (by kernel_rfl) rfl rfl (by kernel_rfl))
 refine th_normalS hτ ⟨[(0, (.sl (List.map c_Rect l))), (3, (.ptr 500000 0)), (24, (vB j2))], [(500000, .box [(vI s1.X), (vI s1.Y)])]⟩ (here (by kernel_rfl)) ?_
 refine sem_cond j2 (by kernel_rfl) (by kernel_rfl) (fun hb => ?_) (fun hb => ?_)
 ·replace h := iteT hb h
  refine z8 1 ⟨[(4, (vB false))], []⟩ (by kernel_rfl) (fun τ hτ => ?_)
  refine th_ret ?_
  obtain rfl := Option.some.inj h
  exact rk_ret hτ [(4, (vB false))] (here (by kernel_rfl)) (by kernel_rfl)
 ·replace h := iteF hb h
  refine z4 ⟨[(0, (.sl (List.map c_Rect l))), (3, (.ptr 500000 0))], [(500000, .box [(vI s1.X), (vI s1.Y)])]⟩ (by kernel_rfl) ?_
  refine sem_seq (by kernel_rfl) ?_
  refine z7 (by kernel_rfl) ?_
  refine evs_run 25 (by kernel_rfl) ?_
  refine evs_op (st_len (c := c_Rect) (l := [(Rect.mk (isub s1.X 1) (isub s1.Y 1) 1 1), (Rect.mk s1.X (isub s1.Y 1) 1 1), (Rect.mk (isub s1.X 1) s1.Y 1 1), (Rect.mk s1.X s1.Y 1 1)]) (x := (.sl (List.map c_Rect [(Rect.mk (isub s1.X 1) (isub s1.Y 1) 1 1), (Rect.mk s1.X (isub s1.Y 1) 1 1), (Rect.mk (isub s1.X 1) s1.Y 1 1), (Rect.mk s1.X s1.Y 1 1)]))) (by kernel_rfl) (by kernel_rfl)) ?_
  refine z1 1 ⟨[(0, (.sl (List.map c_Rect l))), (49, (.sl (List.map c_Rect [(Rect.mk (isub s1.X 1) (isub s1.Y 1) 1 1), (Rect.mk s1.X (isub s1.Y 1) 1 1), (Rect.mk (isub s1.X 1) s1.Y 1 1), (Rect.mk s1.X s1.Y 1 1)]))), (50, (vI ([(Rect.mk (isub s1.X 1) (isub s1.Y 1) 1 1), (Rect.mk s1.X (isub s1.Y 1) 1 1), (Rect.mk (isub s1.X 1) s1.Y 1 1), (Rect.mk s1.X s1.Y 1 1)].length : Int))), (51, (vI 0))], []⟩ (by kernel_rfl) ?_
  refine sem_block (by kernel_rfl) ?_
  obtain ⟨x58, hx58, h⟩ := bindS h
  refine sem_loopS (fun (s41 : Int) => ⟨[(0, (.sl (List.map c_Rect l))), (49, (.sl (List.map c_Rect [(Rect.mk (isub s1.X 1) (isub s1.Y 1) 1 1), (Rect.mk s1.X (isub s1.Y 1) 1 1), (Rect.mk (isub s1.X 1) s1.Y 1 1), (Rect.mk s1.X s1.Y 1 1)]))), (50, (vI ([(Rect.mk (isub s1.X 1) (isub s1.Y 1) 1 1), (Rect.mk s1.X (isub s1.Y 1) 1 1), (Rect.mk (isub s1.X 1) s1.Y 1 1), (Rect.mk s1.X s1.Y 1 1)].length : Int))), (51, (vI s41))], []⟩) (fun (x58 : Unit ⊕ Unit) => match x58 with | .inl j59 => (.ret, ⟨[(4, (vB false))], []⟩) | .inr j60 => (.exit 0, ⟨[], []⟩)) (cut_InRegion_l1 l s1) 0 x58 (by kernel_rfl) (here (by kernel_rfl)) hx58 ?_ ?_ ?_
  ·intro s41 r h
   refine z3 1 ⟨[(0, (.sl (List.map c_Rect l))), (49, (.sl (List.map c_Rect [(Rect.mk (isub s1.X 1) (isub s1.Y 1) 1 1), (Rect.mk s1.X (isub s1.Y 1) 1 1), (Rect.mk (isub s1.X 1) s1.Y 1 1), (Rect.mk s1.X s1.Y 1 1)]))), (50, (vI ([(Rect.mk (isub s1.X 1) (isub s1.Y 1) 1 1), (Rect.mk s1.X (isub s1.Y 1) 1 1), (Rect.mk (isub s1.X 1) s1.Y 1 1), (Rect.mk s1.X s1.Y 1 1)].length : Int))), (51, (vI s41)), (52, (vB (decide (s41 < ([(Rect.mk (isub s1.X 1) (isub s1.Y 1) 1 1), (Rect.mk s1.X (isub s1.Y 1) 1 1), (Rect.mk (isub s1.X 1) s1.Y 1 1), (Rect.mk s1.X s1.Y 1 1)].length : Int)))))], []⟩ (by kernel_rfl) ?_
   refine sem_seq (by kernel_rfl) ?_
   refine sem_cond (decide (s41 < ([(Rect.mk (isub s1.X 1) (isub s1.Y 1) 1 1), (Rect.mk s1.X (isub s1.Y 1) 1 1), (Rect.mk (isub s1.X 1) s1.Y 1 1), (Rect.mk s1.X s1.Y 1 1)].length : Int))) (by kernel_rfl) (by kernel_rfl) (fun hb => ?_) (fun hb => ?_)
   ·replace h := iteT hb h
    refine z4 ⟨[(0, (.sl (List.map c_Rect l))), (49, (.sl (List.map c_Rect [(Rect.mk (isub s1.X 1) (isub s1.Y 1) 1 1), (Rect.mk s1.X (isub s1.Y 1) 1 1), (Rect.mk (isub s1.X 1) s1.Y 1 1), (Rect.mk s1.X s1.Y 1 1)]))), (50, (vI ([(Rect.mk (isub s1.X 1) (isub s1.Y 1) 1 1), (Rect.mk s1.X (isub s1.Y 1) 1 1), (Rect.mk (isub s1.X 1) s1.Y 1 1), (Rect.mk s1.X s1.Y 1 1)].length : Int))), (51, (vI s41))], []⟩ (by kernel_rfl) ?_
    refine sem_seq (by kernel_rfl) ?_
    refine sem_block (by kernel_rfl) ?_
    refine z7 (by kernel_rfl) ?_
    obtain ⟨x55, hx55, h⟩ := bindS h
    refine evs_op (st_idx (c := c_Rect) (l := [(Rect.mk (isub s1.X 1) (isub s1.Y 1) 1 1), (Rect.mk s1.X (isub s1.Y 1) 1 1), (Rect.mk (isub s1.X 1) s1.Y 1 1), (Rect.mk s1.X s1.Y 1 1)]) (i := s41) (kd := .i64) (sz := 4) (by kernel_rfl) hx55 rfl) ?_
    refine z1 3 ⟨[(0, (.sl (List.map c_Rect l))), (6, (.ptr 6 0)), (49, (.sl (List.map c_Rect [(Rect.mk (isub s1.X 1) (isub s1.Y 1) 1 1), (Rect.mk s1.X (isub s1.Y 1) 1 1), (Rect.mk (isub s1.X 1) s1.Y 1 1), (Rect.mk s1.X s1.Y 1 1)]))), (50, (vI ([(Rect.mk (isub s1.X 1) (isub s1.Y 1) 1 1), (Rect.mk s1.X (isub s1.Y 1) 1 1), (Rect.mk (isub s1.X 1) s1.Y 1 1), (Rect.mk s1.X s1.Y 1 1)].length : Int))), (51, (vI s41))], [(6, .box [(vI x55.X), (vI x55.Y), (vI x55.W), (vI x55.H)])]⟩ (by kernel_rfl) ?_
    refine z7 (by kernel_rfl) ?_
    refine evs_run 2 (by kernel_rfl) ?_
    obtain ⟨r57, hr57, h⟩ := bindS h
    refine evs_callP [6] (by kernel_rfl) (W.slices_ContainsFunc_Lapi_Rect_api_Rect__cut_InRegion_1_ok hr57) (by kernel_rfl) (.inr rfl) (by kernel_rfl) ?_
    refine z1 1 ⟨[(0, (.sl (List.map c_Rect l))), (49, (.sl (List.map c_Rect [(Rect.mk (isub s1.X 1) (isub s1.Y 1) 1 1), (Rect.mk s1.X (isub s1.Y 1) 1 1), (Rect.mk (isub s1.X 1) s1.Y 1 1), (Rect.mk s1.X s1.Y 1 1)]))), (50, (vI ([(Rect.mk (isub s1.X 1) (isub s1.Y 1) 1 1), (Rect.mk s1.X (isub s1.Y 1) 1 1), (Rect.mk (isub s1.X 1) s1.Y 1 1), (Rect.mk s1.X s1.Y 1 1)].length : Int))), (51, (vI s41)), (58, (vB (!r57)))], []⟩ (by kernel_rfl) ?_
    refine sem_cond (!r57) (by kernel_rfl) (by kernel_rfl) (fun hb => ?_) (fun hb => ?_)
    ·replace h := iteT hb h
     refine z8 1 ⟨[(4, (vB false))], []⟩ (by kernel_rfl) (fun τ hτ => ?_)
     refine bl_ret ?_
     refine th_ret ?_
     obtain rfl := Option.some.inj h
     exact lk_outS hτ rfl (here (by kernel_rfl))
    ·replace h := iteF hb h
     refine sem_skipS (by kernel_rfl) (fun τ hτ => ?_)
     refine bl_normal ?_
     refine th_normalS hτ ⟨[(0, (.sl (List.map c_Rect l))), (49, (.sl (List.map c_Rect [(Rect.mk (isub s1.X 1) (isub s1.Y 1) 1 1), (Rect.mk s1.X (isub s1.Y 1) 1 1), (Rect.mk (isub s1.X 1) s1.Y 1 1), (Rect.mk s1.X s1.Y 1 1)]))), (50, (vI ([(Rect.mk (isub s1.X 1) (isub s1.Y 1) 1 1), (Rect.mk s1.X (isub s1.Y 1) 1 1), (Rect.mk (isub s1.X 1) s1.Y 1 1), (Rect.mk s1.X s1.Y 1 1)].length : Int))), (51, (vI s41))], []⟩ (here (by kernel_rfl)) ?_
     refine sem_region (by kernel_rfl) ?_
     refine z6 2 (by kernel_rfl) (fun τ hτ => ?_)
     obtain rfl := Option.some.inj h
     exact lk_nextS hτ (here (by kernel_rfl))
   ·replace h := iteF hb h
    refine sem_exitS 0 (by kernel_rfl) rfl (fun τ hτ => ?_)
    refine th_exit ?_
    obtain rfl := Option.some.inj h
    exact lk_outS hτ rfl (here (by kernel_rfl))
  ·intro x
   rcases x with _ | _ <;> rfl
  ·intro τ hτ
   rcases x58 with j59 | j60
   ·refine bl_ret ?_
    refine th_ret ?_
    obtain rfl := Option.some.inj h
    exact rk_ret hτ [(4, (vB false))] (here (by kernel_rfl)) (by kernel_rfl)
   ·refine bl_hit (by kernel_rfl) ?_
    refine th_normalS hτ ⟨[], []⟩ (here (by kernel_rfl)) ?_
    refine z8 1 ⟨[(4, (vB true))], []⟩ (by kernel_rfl) (fun τ hτ => ?_)
    obtain rfl := Option.some.inj h
    exact rk_ret hτ [(4, (vB true))] (here (by kernel_rfl)) (by kernel_rfl)
theorem W.sheetmetalref06_Within_ok {a : Rect} {b : Rect} {r : Bool} (h : sheetmetalref06_Within a b = some r) : PC G.P 39 [(.agg [(vI a.X), (vI a.Y), (vI a.W), (vI a.H)]), (.agg [(vI b.X), (vI b.Y), (vI b.W), (vI b.H)])] [] (vB r) [] := by
 refine pc_of G (fn := Try.f39) Try.func39 (by kernel_rfl) (by kernel_rfl) (by kernel_rfl) (by kernel_rfl) (by kernel_rfl) ?_
 refine sem_set ⟨[(0, (.agg [(vI a.X), (vI a.Y), (vI a.W), (vI a.H)])), (1, (.agg [(vI b.X), (vI b.Y), (vI b.W), (vI b.H)]))], []⟩ (by kernel_rfl) ?_
 refine z3 3 ⟨[(2, (.ptr 2 0)), (3, (.ptr 3 0))], [(2, .box [(vI a.X), (vI a.Y), (vI a.W), (vI a.H)]), (3, .box [(vI b.X), (vI b.Y), (vI b.W), (vI b.H)])]⟩ (by kernel_rfl) ?_
 refine sem_seq (by kernel_rfl) ?_
 obtain ⟨j3, hj3, h⟩ := bindS h
 refine sem_regionC ⟨[(4, (vB j3))], []⟩ (by kernel_rfl) ?_ (fun τ hτ => ?_)
 ·replace h := hj3
  refine evs_run 1 (by kernel_rfl) ?_
  obtain ⟨r4, hr4, h⟩ := bindS h
  refine evs_callP [] (by kernel_rfl) (W.sheetmetalref06_Right_ok hr4) (by kernel_rfl) (.inl rfl) (by kernel_rfl) ?_
  refine evs_run 1 (by kernel_rfl) ?_
  refine evs_split r4 (fun b0 => ⟨[(2, (.ptr 2 0)), (3, (.ptr 3 0)), (7, (vB b0))], [(2, .box [(vI a.X), (vI a.Y), (vI a.W), (vI a.H)]), (3, .box [(vI b.X), (vI b.Y), (vI b.W), (vI b.H)])]⟩) (by kernel_rfl) (fun hb => ?_) (fun hb => ?_)
  ·replace h := iteT hb h
   refine evs_run 1 (by kernel_rfl) ?_
   obtain ⟨r5, hr5, h⟩ := bindS h
   refine evs_callP [] (by kernel_rfl) (W.sheetmetalref06_Right_ok hr5) (by kernel_rfl) (.inl rfl) (by kernel_rfl) ?_
   refine evs_run 2 (by kernel_rfl) ?_
   refine evs_split r5 (fun b0 => ⟨[(2, (.ptr 2 0)), (3, (.ptr 3 0)), (11, (vB b0))], [(2, .box [(vI a.X), (vI a.Y), (vI a.W), (vI a.H)]), (3, .box [(vI b.X), (vI b.Y), (vI b.W), (vI b.H)])]⟩) (by kernel_rfl) (fun hb => ?_) (fun hb => ?_)
   ·replace h := iteT hb h
    refine evs_run 7 (by kernel_rfl) ?_
    refine evs_split (decide (a.X ≥ b.X)) (fun b0 => ⟨[(2, (.ptr 2 0)), (3, (.ptr 3 0)), (18, (vB b0))], [(2, .box [(vI a.X), (vI a.Y), (vI a.W), (vI a.H)]), (3, .box [(vI b.X), (vI b.Y), (vI b.W), (vI b.H)])]⟩) (by kernel_rfl) (fun hb => ?_) (fun hb => ?_)
    ·replace h := iteT hb h
     refine evs_run 7 (by kernel_rfl) ?_
     refine evs_split (decide (a.Y ≥ b.Y)) (fun b0 => ⟨[(2, (.ptr 2 0)), (3, (.ptr 3 0)), (25, (vB b0))], [(2, .box [(vI a.X), (vI a.Y), (vI a.W), (vI a.H)]), (3, .box [(vI b.X), (vI b.Y), (vI b.W), (vI b.H)])]⟩) (by kernel_rfl) (fun hb => ?_) (fun hb => ?_)
     ·replace h := iteT hb h
      refine evs_run 13 (by kernel_rfl) ?_
      refine evs_split (decide ((iadd a.X a.W) ≤ (iadd b.X b.W))) (fun b0 => ⟨[(2, (.ptr 2 0)), (3, (.ptr 3 0)), (38, (vB b0))], [(2, .box [(vI a.X), (vI a.Y), (vI a.W), (vI a.H)]), (3, .box [(vI b.X), (vI b.Y), (vI b.W), (vI b.H)])]⟩) (by kernel_rfl) (fun hb => ?_) (fun hb => ?_)
      ·replace h := iteT hb h
       refine z6 13 (by kernel_rfl) (fun τ hτ => ?_)
       obtain rfl := Option.some.inj h
       exact leafC hτ (here (by kernel_rfl))
      ·replace h := iteF hb h
       refine z6 13 (by kernel_rfl) (fun τ hτ => ?_)
       obtain rfl := Option.some.inj h
       exact leafC hτ (here (by kernel_rfl))
     ·replace h := iteF hb h
      refine z6 26 (by kernel_rfl) (fun τ hτ => ?_)
      obtain rfl := Option.some.inj h
      exact leafC hτ (here (by kernel_rfl))
    ·replace h := iteF hb h
     refine z6 33 (by kernel_rfl) (fun τ hτ => ?_)
     obtain rfl := Option.some.inj h
     exact leafC hτ (here (by kernel_rfl))
   ·replace h := iteF hb h
    refine z6 40 (by kernel_rfl) (fun τ hτ => ?_)
    obtain rfl := Option.some.inj h
    exact leafC hτ (here (by kernel_rfl))
  ·replace h := iteF hb h
   refine z6 44 (by kernel_rfl) (fun τ hτ => ?_)
   obtain rfl := Option.some.inj h
   exact leafC hτ (here (by kernel_rfl))
 refine th_normalS hτ ⟨[(4, (vB j3))], []⟩ (here (by kernel_rfl)) ?_
 refine sem_retS (by kernel_rfl) (fun τ hτ => ?_)
 obtain rfl := Option.some.inj h
 exact rk_ret hτ [(4, (vB j3))] (here (by kernel_rfl)) (by kernel_rfl)
theorem W.sheetmetalref07_square_ok {l : (List Rect)} {x1 : Int} {y : Int} {r : Bool} (h : sheetmetalref07_square l x1 y = some r) : PC G.P 25 [(.sl (List.map c_Rect l)), (vI x1), (vI y)] [] (vB r) [] := by
 refine pc_of G (fn := Try.f25) Try.func25 (by kernel_rfl) (by kernel_rfl) (by kernel_rfl) (by kernel_rfl) (by kernel_rfl) ?_
 refine sem_set ⟨[(0, (.sl (List.map c_Rect l))), (1, (vI x1)), (2, (vI y))], []⟩ (by kernel_rfl) ?_
 refine z3 1 ⟨[(0, (.sl (List.map c_Rect l))), (1, (vI x1)), (2, (vI y))], []⟩ (by kernel_rfl) ?_
 refine sem_seq (by kernel_rfl) ?_
 refine z3 1 ⟨[(0, (.sl (List.map c_Rect l))), (1, (vI x1)), (2, (vI y)), (7, (vI 0))], []⟩ (by kernel_rfl) ?_
 refine sem_block (by kernel_rfl) ?_
 obtain ⟨x56, hx56, h⟩ := bindS h
 refine sem_loopS (fun (s39 : Int) => ⟨[(0, (.sl (List.map c_Rect l))), (1, (vI x1)), (2, (vI y)), (7, (vI s39))], []⟩) (fun (x56 : Unit ⊕ Unit) => match x56 with | .inl j57 => (.ret, ⟨[(6, (vB true))], []⟩) | .inr j58 => (.exit 0, ⟨[], []⟩)) (sheetmetalref07_square_l1 l x1 y) 0 x56 (by kernel_rfl) (here (by kernel_rfl)) hx56 ?_ ?_ ?_
 ·intro s39 r h
  refine sem_seq (by kernel_rfl) ?_
  refine z7 (by kernel_rfl) ?_
  refine evs_run 2 (by kernel_rfl) ?_
  refine evs_op (st_len (c := c_Rect) (l := l) (x := (.sl (List.map c_Rect l))) (by kernel_rfl) (by kernel_rfl)) ?_
  refine z1 1 ⟨[(0, (.sl (List.map c_Rect l))), (1, (vI x1)), (2, (vI y)), (7, (vI s39)), (11, (vB (decide (s39 < (l.length : Int)))))], []⟩ (by kernel_rfl) ?_
  refine sem_cond (decide (s39 < (l.length : Int))) (by kernel_rfl) (by kernel_rfl) (fun hb => ?_) (fun hb => ?_)
  ·replace h := iteT hb h
   refine z4 ⟨[(0, (.sl (List.map c_Rect l))), (1, (vI x1)), (2, (vI y)), (7, (vI s39))], []⟩ (by kernel_rfl) ?_
   refine sem_seq (by kernel_rfl) ?_
   refine sem_block (by kernel_rfl) ?_
   refine z7 (by kernel_rfl) ?_
   refine evs_run 5 (by kernel_rfl) ?_
   obtain ⟨x54, hx54, h⟩ := bindS h
   refine evs_op (st_idx (c := c_Rect) (l := l) (i := s39) (kd := .i64) (sz := 4) (by kernel_rfl) hx54 rfl) ?_
   refine evs_run 1 (by kernel_rfl) ?_
   obtain ⟨r55, hr55, h⟩ := bindS h
   refine evs_callP [] (by kernel_rfl) (W.sheetmetalref06_Within_ok hr55) (by kernel_rfl) (.inl rfl) (by kernel_rfl) ?_
   refine evs_endS (by kernel_rfl) (fun τ hτ => ?_)
   refine th_normalS hτ ⟨[(0, (.sl (List.map c_Rect l))), (1, (vI x1)), (2, (vI y)), (7, (vI s39)), (21, (vB r55))], []⟩ (here (by kernel_rfl)) ?_
   refine sem_cond r55 (by kernel_rfl) (by kernel_rfl) (fun hb => ?_) (fun hb => ?_)
   ·replace h := iteT hb h
    refine z8 1 ⟨[(6, (vB true))], []⟩ (by kernel_rfl) (fun τ hτ => ?_)
    refine bl_ret ?_
    refine th_ret ?_
    obtain rfl := Option.some.inj h
    exact lk_outS hτ rfl (here (by kernel_rfl))
   ·replace h := iteF hb h
    refine sem_skipS (by kernel_rfl) (fun τ hτ => ?_)
    refine bl_normal ?_
    refine th_normalS hτ ⟨[(0, (.sl (List.map c_Rect l))), (1, (vI x1)), (2, (vI y)), (7, (vI s39))], []⟩ (here (by kernel_rfl)) ?_
    refine sem_region (by kernel_rfl) ?_
    refine z6 3 (by kernel_rfl) (fun τ hτ => ?_)
    obtain rfl := Option.some.inj h
    exact lk_nextS hτ (here (by kernel_rfl))
  ·replace h := iteF hb h
   refine sem_exitS 0 (by kernel_rfl) rfl (fun τ hτ => ?_)
   refine th_exit ?_
   obtain rfl := Option.some.inj h
   exact lk_outS hτ rfl (here (by kernel_rfl))
 ·intro x
  rcases x with _ | _ <;> rfl
 ·intro τ hτ
  rcases x56 with j57 | j58
  ·refine bl_ret ?_
   refine th_ret ?_
   obtain rfl := Option.some.inj h
   exact rk_ret hτ [(6, (vB true))] (here (by kernel_rfl)) (by kernel_rfl)
  ·refine bl_hit (by kernel_rfl) ?_
   refine th_normalS hτ ⟨[], []⟩ (here (by kernel_rfl)) ?_
   refine z8 1 ⟨[(6, (vB false))], []⟩ (by kernel_rfl) (fun τ hτ => ?_)
   obtain rfl := Option.some.inj h
   exact rk_ret hτ [(6, (vB false))] (here (by kernel_rfl)) (by kernel_rfl)
theorem W.sheetmetalref07_InRegion_ok {l : (List Rect)} {s1 : Spot} {r : Bool} (h : sheetmetalref07_InRegion l s1 = some r) : PC G.P 10 [(.sl (List.map c_Rect l)), (.agg [(vI s1.X), (vI s1.Y)])] [] (vB r) [] := by
 refine pc_of G (fn := Try.f10) Try.func10 (by kernel_rfl) (by kernel_rfl) (by kernel_rfl) (by kernel_rfl) (by kernel_rfl) ?_
 refine sem_set ⟨[(0, (.sl (List.map c_Rect l))), (1, (.agg [(vI s1.X), (vI s1.Y)]))], []⟩ (by kernel_rfl) ?_
 refine z3 2 ⟨[(0, (.sl (List.map c_Rect l))), (3, (.ptr 3 0))], [(3, .box [(vI s1.X), (vI s1.Y)])]⟩ (by kernel_rfl) ?_
 refine sem_seq (by kernel_rfl) ?_
 refine sem_seq (by kernel_rfl) ?_
 obtain ⟨j2, hj2, h⟩ := bindS h
 refine sem_regionC ⟨[(0, (.sl (List.map c_Rect l))), (3, (.ptr 500000 0)), (22, (vB j2))], [(500000, .box [(vI s1.X), (vI s1.Y)])]⟩ (by kernel_rfl) ?_ (fun τ hτ => ?_)
 ·replace h := hj2
  refine evs_run 4 (by kernel_rfl) ?_
  refine evs_split (decide (s1.X ≤ (-1048576))) (fun b0 => ⟨[(0, (.sl (List.map c_Rect l))), (3, (.ptr 3 0)), (8, (vB b0))], [(3, .box [(vI s1.X), (vI s1.Y)])]⟩) (by kernel_rfl) (fun hb => ?_) (fun hb => ?_)
  ·replace h := iteT hb h
   refine z6 14 (by kernel_rfl) (fun τ hτ => ?_)
   obtain rfl := Option.some.inj h
   exact leafC hτ (subR_prep [] [(3, 500000)] (by kernel_rfl) rfl rfl (by kernel_rfl))
  ·replace h := iteF hb h
   refine evs_run 5 (by kernel_rfl) ?_
   refine evs_split (decide (s1.X ≥ 1048576)) (fun b0 => ⟨[(0, (.sl (List.map c_Rect l))), (3, (.ptr 3 0)), (13, (vB b0))], [(3, .box [(vI s1.X), (vI s1.Y)])]⟩) (by kernel_rfl) (fun hb => ?_) (fun hb => ?_)
   ·replace h := iteT hb h
    refine z6 9 (by kernel_rfl) (fun τ hτ => ?_)
    obtain rfl := Option.some.inj h
    exact leafC hτ (subR_prep [] [(3, 500000)] (by kernel_rfl) rfl rfl (by kernel_rfl))
   ·replace h := iteF hb h
    refine evs_run 5 (by kernel_rfl) ?_
    refine evs_split (decide (s1.Y ≤ (-1048576))) (fun b0 => ⟨[(0, (.sl (List.map c_Rect l))), (3, (.ptr 3 0)), (18, (vB b0))], [(3, .box [(vI s1.X), (vI s1.Y)])]⟩) (by kernel_rfl) (fun hb => ?_) (fun hb => ?_)
    ·replace h := iteT hb h
     refine z6 4 (by kernel_rfl) (fun τ hτ => ?_)
     obtain rfl := Option.some.inj h
     exact leafC hτ (subR_prep [] [(3, 500000)] (by kernel_rfl) rfl rfl (by kernel_rfl))
    ·replace h := iteF hb h
     refine z6 4 (by kernel_rfl) (fun τ hτ => ?_)
     obtain rfl := Option.some.inj h
     exact leafC hτ (subR_prep [] [(3, 500000)] (by kernel_rfl) rfl rfl (by kernel_rfl))
 refine th_normalS hτ ⟨[(0, (.sl (List.map c_Rect l))), (3, (.ptr 500000 0)), (22, (vB j2))], [(500000, .box [(vI s1.X), (vI s1.Y)])]⟩ (here (by kernel_rfl)) ?_
 refine sem_cond j2 (by kernel_rfl) (by kernel_rfl) (fun hb => ?_) (fun hb => ?_)
 ·replace h := iteT hb h
  refine z8 1 ⟨[(4, (vB false))], []⟩ (by kernel_rfl) (fun τ hτ => ?_)
  refine th_ret ?_
  obtain rfl := Option.some.inj h
  exact rk_ret hτ [(4, (vB false))] (here (by kernel_rfl)) (by kernel_rfl)
 ·replace h := iteF hb h
  refine z4 ⟨[(0, (.sl (List.map c_Rect l))), (3, (.ptr 500000 0))], [(500000, .box [(vI s1.X), (vI s1.Y)])]⟩ (by kernel_rfl) ?_
  refine sem_seq (by kernel_rfl) ?_
  obtain ⟨j7, hj7, h⟩ := bindS h
  refine sem_regionC ⟨[(4, (vB j7))], []⟩ (by kernel_rfl) ?_ (fun τ hτ => ?_)
  ·replace h := hj7
   refine evs_run 5 (by kernel_rfl) ?_
   obtain ⟨r8, hr8, h⟩ := bindS h
   refine evs_callP [] (by kernel_rfl) (W.sheetmetalref07_square_ok hr8) (by kernel_rfl) (.inl rfl) (by kernel_rfl) ?_
   refine evs_run 1 (by kernel_rfl) ?_
   refine evs_split r8 (fun b0 => ⟨[(0, (.sl (List.map c_Rect l))), (3, (.ptr 500000 0)), (29, (vB b0))], [(500000, .box [(vI s1.X), (vI s1.Y)])]⟩) (by kernel_rfl) (fun hb => ?_) (fun hb => ?_)
   ·replace h := iteT hb h
    refine evs_run 6 (by kernel_rfl) ?_
    obtain ⟨r9, hr9, h⟩ := bindS h
    refine evs_callP [] (by kernel_rfl) (W.sheetmetalref07_square_ok hr9) (by kernel_rfl) (.inl rfl) (by kernel_rfl) ?_
    refine evs_run 2 (by kernel_rfl) ?_
    refine evs_split r9 (fun b0 => ⟨[(0, (.sl (List.map c_Rect l))), (3, (.ptr 500000 0)), (38, (vB b0))], [(500000, .box [(vI s1.X), (vI s1.Y)])]⟩) (by kernel_rfl) (fun hb => ?_) (fun hb => ?_)
    ·replace h := iteT hb h
     refine evs_run 6 (by kernel_rfl) ?_
     obtain ⟨r10, hr10, h⟩ := bindS h
     refine evs_callP [] (by kernel_rfl) (W.sheetmetalref07_square_ok hr10) (by kernel_rfl) (.inl rfl) (by kernel_rfl) ?_
     refine evs_run 2 (by kernel_rfl) ?_
     refine evs_split r10 (fun b0 => ⟨[(0, (.sl (List.map c_Rect l))), (3, (.ptr 500000 0)), (47, (vB b0))], [(500000, .box [(vI s1.X), (vI s1.Y)])]⟩) (by kernel_rfl) (fun hb => ?_) (fun hb => ?_)
     ·replace h := iteT hb h
      refine evs_run 7 (by kernel_rfl) ?_
      obtain ⟨r11, hr11, h⟩ := bindS h
      refine evs_callP [] (by kernel_rfl) (W.sheetmetalref07_square_ok hr11) (by kernel_rfl) (.inl rfl) (by kernel_rfl) ?_
      refine z6 2 (by kernel_rfl) (fun τ hτ => ?_)
      obtain rfl := Option.some.inj h
      exact leafC hτ (here (by kernel_rfl))
     ·replace h := iteF hb h
      refine z6 10 (by kernel_rfl) (fun τ hτ => ?_)
      obtain rfl := Option.some.inj h
      exact leafC hτ (here (by kernel_rfl))
    ·replace h := iteF hb h
     refine z6 19 (by kernel_rfl) (fun τ hτ => ?_)
     obtain rfl := Option.some.inj h
     exact leafC hτ (here (by kernel_rfl))
   ·replace h := iteF hb h
    refine z6 28 (by kernel_rfl) (fun τ hτ => ?_)
    obtain rfl := Option.some.inj h
    exact leafC hτ (here (by kernel_rfl))
  refine th_normalS hτ ⟨[(4, (vB j7))], []⟩ (here (by kernel_rfl)) ?_
  refine sem_retS (by kernel_rfl) (fun τ hτ => ?_)
  obtain rfl := Option.some.inj h
  exact rk_ret hτ [(4, (vB j7))] (here (by kernel_rfl)) (by kernel_rfl)
theorem W.sheetmetallaw07_CutSmall_ok {x0 : Piece} {l : (List Rect)} {s2 : Spot} {r : Bool} (h : sheetmetallaw07_CutSmall x0 l s2 = some r) : PC G.P 3 [(.agg [(vS x0.Name), (vS x0.Material), (vI x0.Gauge), (vI x0.Grain), (.sl (List.map c_Rect x0.Rects)), (.sl (List.map c_Rect x0.Cuts)), (.sl (List.map c_Rect x0.Forms))]), (.sl (List.map c_Rect l)), (.agg [(vI s2.X), (vI s2.Y)])] [] (vB r) [] := by
 refine pc_of G (fn := Try.f3) Try.func3 (by kernel_rfl) (by kernel_rfl) (by kernel_rfl) (by kernel_rfl) (by kernel_rfl) ?_
 refine sem_set ⟨[(0, (.agg [(vS x0.Name), (vS x0.Material), (vI x0.Gauge), (vI x0.Grain), (.sl (List.map c_Rect x0.Rects)), (.sl (List.map c_Rect x0.Cuts)), (.sl (List.map c_Rect x0.Forms))])), (1, (.sl (List.map c_Rect l))), (2, (.agg [(vI s2.X), (vI s2.Y)]))], []⟩ (by kernel_rfl) ?_
 refine z3 3 ⟨[(1, (.sl (List.map c_Rect l))), (3, (.ptr 3 0)), (5, (.ptr 5 0))], [(3, .box [(vS x0.Name), (vS x0.Material), (vI x0.Gauge), (vI x0.Grain), (.sl (List.map c_Rect x0.Rects)), (.sl (List.map c_Rect x0.Cuts)), (.sl (List.map c_Rect x0.Forms))]), (5, .box [(vI s2.X), (vI s2.Y)])]⟩ (by kernel_rfl) ?_
 refine sem_seq (by kernel_rfl) ?_
 refine sem_seq (by kernel_rfl) ?_
 obtain ⟨j4, hj4, h⟩ := bindS h
 refine sem_regionC ⟨[(1, (.sl (List.map c_Rect l))), (3, (.ptr 500000 0)), (5, (.ptr 500001 0)), (15, (vB j4))], [(500000, .box [(vS x0.Name), (vS x0.Material), (vI x0.Gauge), (vI x0.Grain), (.sl (List.map c_Rect x0.Rects)), (.sl (List.map c_Rect x0.Cuts)), (.sl (List.map c_Rect x0.Forms))]), (500001, .box [(vI s2.X), (vI s2.Y)])]⟩ (by kernel_rfl) ?_ (fun τ hτ => ?_)
 ·replace h := hj4
  refine evs_run 2 (by kernel_rfl) ?_
  refine evs_op (st_len (c := c_Rect) (l := x0.Rects) (x := (.sl (List.map c_Rect x0.Rects))) (by kernel_rfl) (by kernel_rfl)) ?_
  refine evs_run 2 (by kernel_rfl) ?_
  refine evs_split (decide ((x0.Rects.length : Int) > 200)) (fun b0 => ⟨[(1, (.sl (List.map c_Rect l))), (3, (.ptr 3 0)), (5, (.ptr 5 0)), (11, (vB b0))], [(3, .box [(vS x0.Name), (vS x0.Material), (vI x0.Gauge), (vI x0.Grain), (.sl (List.map c_Rect x0.Rects)), (.sl (List.map c_Rect x0.Cuts)), (.sl (List.map c_Rect x0.Forms))]), (5, .box [(vI s2.X), (vI s2.Y)])]⟩) (by kernel_rfl) (fun hb => ?_) (fun hb => ?_)
  ·replace h := iteT hb h
   refine z6 4 (by kernel_rfl) (fun τ hτ => ?_)
   obtain rfl := Option.some.inj h
   exact leafC hτ (subR_prep [] [(3, 500000), (5, 500001)] (by kernel_rfl) rfl rfl (by kernel_rfl))
  ·replace h := iteF hb h
   refine evs_run 1 (by kernel_rfl) ?_
   refine evs_op (st_len (c := c_Rect) (l := l) (x := (.sl (List.map c_Rect l))) (by kernel_rfl) (by kernel_rfl)) ?_
   refine z6 2 (by kernel_rfl) (fun τ hτ => ?_)
   obtain rfl := Option.some.inj h
   exact leafC hτ (subR_prep [] [(3, 500000), (5, 500001)] (by kernel_rfl) rfl rfl (by kernel_rfl))
 refine th_normalS hτ ⟨[(1, (.sl (List.map c_Rect l))), (3, (.ptr 500000 0)), (5, (.ptr 500001 0)), (15, (vB j4))], [(500000, .box [(vS x0.Name), (vS x0.Material), (vI x0.Gauge), (vI x0.Grain), (.sl (List.map c_Rect x0.Rects)), (.sl (List.map c_Rect x0.Cuts)), (.sl (List.map c_Rect x0.Forms))]), (500001, .box [(vI s2.X), (vI s2.Y)])]⟩ (here (by kernel_rfl)) ?_
 refine sem_cond j4 (by kernel_rfl) (by kernel_rfl) (fun hb => ?_) (fun hb => ?_)
 ·replace h := iteT hb h
  refine z7 (by kernel_rfl) ?_
  obtain ⟨r6, hr6, h⟩ := bindS h
  refine evs_callP [] (by kernel_rfl) (W.sheetmetallaw07_known_k_ok hr6) (by kernel_rfl) (.inl rfl) (by kernel_rfl) ?_
  refine z1 1 ⟨[(6, (vB r6))], []⟩ (by kernel_rfl) ?_
  refine sem_retS (by kernel_rfl) (fun τ hτ => ?_)
  refine th_ret ?_
  obtain rfl := Option.some.inj h
  exact rk_ret hτ [(6, (vB r6))] (here (by kernel_rfl)) (by kernel_rfl)
 ·replace h := iteF hb h
  refine z4 ⟨[(1, (.sl (List.map c_Rect l))), (3, (.ptr 500000 0)), (5, (.ptr 500001 0))], [(500000, .box [(vS x0.Name), (vS x0.Material), (vI x0.Gauge), (vI x0.Grain), (.sl (List.map c_Rect x0.Rects)), (.sl (List.map c_Rect x0.Cuts)), (.sl (List.map c_Rect x0.Forms))]), (500001, .box [(vI s2.X), (vI s2.Y)])]⟩ (by kernel_rfl) ?_
  refine sem_seq (by kernel_rfl) ?_
  obtain ⟨j17, hj17, h⟩ := bindS h
  refine sem_drawP ⟨[(6, (vB j17))], []⟩ [] [] [] [] [] 11 (by kernel_rfl) (by kernel_rfl) (by kernel_rfl) ?_ (fun τ hτ => ?_)
  ·replace h := hj17
   refine evd_run 1 (by kernel_rfl) ?_
   obtain ⟨r18, hr18, h⟩ := bindS h
   refine evd_callS [] [] (by kernel_rfl) (by kernel_rfl) (W.cut_Small_ok hr18) (by kernel_rfl) (.inl rfl) (by kernel_rfl) (by kernel_rfl) ?_
   refine evd_run 1 (by kernel_rfl) ?_
   obtain ⟨r19, hr19, h⟩ := bindS h
   refine evd_callS [] [] (by kernel_rfl) (by kernel_rfl) (W.sheetmetalref07_Small_ok hr19) (by kernel_rfl) (.inl rfl) (by kernel_rfl) (by kernel_rfl) ?_
   refine evd_run 2 (by kernel_rfl) ?_
   refine evd_split (r18 == r19) (fun b0 => ⟨[(22, (vB b0)), (21, (vB b0)), (20, (vB r19)), (19, (.agg [(vS x0.Name), (vS x0.Material), (vI x0.Gauge), (vI x0.Grain), (.sl (List.map c_Rect x0.Rects)), (.sl (List.map c_Rect x0.Cuts)), (.sl (List.map c_Rect x0.Forms))])), (18, (vB r18)), (17, (.agg [(vS x0.Name), (vS x0.Material), (vI x0.Gauge), (vI x0.Grain), (.sl (List.map c_Rect x0.Rects)), (.sl (List.map c_Rect x0.Cuts)), (.sl (List.map c_Rect x0.Forms))])), (1, (.sl (List.map c_Rect l))), (3, (.ptr 500000 0)), (5, (.ptr 500001 0))], [(500000, .box [(vS x0.Name), (vS x0.Material), (vI x0.Gauge), (vI x0.Grain), (.sl (List.map c_Rect x0.Rects)), (.sl (List.map c_Rect x0.Cuts)), (.sl (List.map c_Rect x0.Forms))]), (500001, .box [(vI s2.X), (vI s2.Y)])]⟩) (by kernel_rfl) (fun hb => ?_) (fun hb => ?_)
   ·replace h := iteT hb h
    refine evd_run 2 (by kernel_rfl) ?_
    obtain ⟨r20, hr20, h⟩ := bindS h
    refine evd_callS [] [] (by kernel_rfl) (by kernel_rfl) (W.cut_InRegion_ok hr20) (by kernel_rfl) (.inl rfl) (by kernel_rfl) (by kernel_rfl) ?_
    refine evd_run 2 (by kernel_rfl) ?_
    refine evd_end (by kernel_rfl) ?_
    obtain ⟨r21, hr21, h⟩ := bindS h
    refine evo_callP [] (by kernel_rfl) (W.sheetmetalref07_InRegion_ok hr21) (by kernel_rfl) (.inl rfl) (by kernel_rfl) ?_
    refine evo_run 3 (by kernel_rfl) ?_
    refine evo_split (r20 == r21) (fun b0 => ⟨[(31, (vB b0))], []⟩) (by kernel_rfl) (fun hb => ?_) (fun hb => ?_)
    ·replace h := iteT hb h
     obtain ⟨r22, hr22, h⟩ := bindS h
     refine evo_callP [] (by kernel_rfl) (W.sheetmetallaw07_known_k_ok hr22) (by kernel_rfl) (.inl rfl) (by kernel_rfl) ?_
     refine evo_run 2 (by kernel_rfl) ?_
     refine evo_endS (by kernel_rfl) (fun τ hτ => ?_)
     obtain rfl := Option.some.inj h
     exact leafC hτ (here (by kernel_rfl))
    ·replace h := iteF hb h
     refine evo_run 3 (by kernel_rfl) ?_
     refine evo_endS (by kernel_rfl) (fun τ hτ => ?_)
     obtain rfl := Option.some.inj h
     exact leafC hτ (here (by kernel_rfl))
   ·replace h := iteF hb h
    refine evd_run 5 (by kernel_rfl) ?_
    refine evd_end (by kernel_rfl) ?_
    refine evo_run 7 (by kernel_rfl) ?_
    refine evo_endS (by kernel_rfl) (fun τ hτ => ?_)
    obtain rfl := Option.some.inj h
    exact leafC hτ (here (by kernel_rfl))
  refine th_normalS hτ ⟨[(6, (vB j17))], []⟩ (here (by kernel_rfl)) ?_
  refine sem_retS (by kernel_rfl) (fun τ hτ => ?_)
  obtain rfl := Option.some.inj h
  exact rk_ret hτ [(6, (vB j17))] (here (by kernel_rfl)) (by kernel_rfl)
end Go.Proofs.Ytgfjbgoehhnaeaa
