/- Each Go function does what its model says; written by a program out of the translation. -/
import Derived.Test.YtppmnjiibmomoaaWQ
import Derived.Test.YtppmnjiibmomoaaSeMQ
set_option linter.unusedVariables false
set_option linter.unusedSimpArgs false
set_option linter.unusedSectionVars false
namespace Go.Proofs.Ytppmnjiibmomoaa
open Go Go.VI Go.SM Go.Proofs
set_option maxRecDepth 100000
set_option maxHeartbeats 4000000
theorem W.sheetmetalref05_bits_ok {l : (List Int)} {r : Int} (h : sheetmetalref05_bits l = some r) : PC G.P 54 [(.sl (List.map cI l))] [] (vI r) [] := by
  refine pc_of G (fn := Try.f54) Try.func54 (by kernel_rfl) (by kernel_rfl) (by kernel_rfl) (by kernel_rfl) (by kernel_rfl) ?_
  refine sem_set ⟨[(0, (.sl (List.map cI l)))], []⟩ (by kernel_rfl) ?_
  refine sem_seq (by kernel_rfl) ?_
  refine sem_region (by kernel_rfl) ?_
  refine evs_run 1 (by kernel_rfl) ?_
  refine evs_endS (by kernel_rfl) (fun τ hτ => ?_)
  refine th_normalS hτ ⟨[(0, (.sl (List.map cI l)))], []⟩ (here (by kernel_rfl)) ?_
  refine sem_seq (by kernel_rfl) ?_
  refine sem_region (by kernel_rfl) ?_
  refine evs_run 1 (by kernel_rfl) ?_
  refine evs_endS (by kernel_rfl) (fun τ hτ => ?_)
  refine th_normalS hτ ⟨[(0, (.sl (List.map cI l))), (3, (vI 0))], []⟩ (here (by kernel_rfl)) ?_
  refine sem_seq (by kernel_rfl) ?_
  refine sem_seq (by kernel_rfl) ?_
  refine sem_region (by kernel_rfl) ?_
  refine evs_run 1 (by kernel_rfl) ?_
  refine evs_endS (by kernel_rfl) (fun τ hτ => ?_)
  refine th_normalS hτ ⟨[(0, (.sl (List.map cI l))), (3, (vI 0)), (4, (vI 0))], []⟩ (here (by kernel_rfl)) ?_
  refine sem_block (by kernel_rfl) ?_
  obtain ⟨x30, hx30, h⟩ := bindS h
  refine sem_loopS (fun (s21 : Int × Int) => ⟨[(0, (.sl (List.map cI l))), (3, (vI s21.1)), (4, (vI s21.2))], []⟩) (fun (x30 : Int) => (.exit 0, ⟨[(3, (vI x30))], []⟩)) (sheetmetalref05_bits_l1 l) (0, 0) x30 (by kernel_rfl) (here (by kernel_rfl)) hx30 ?_ ?_ ?_
  · intro s21 r h
    refine sem_seq (by kernel_rfl) ?_
    refine sem_seq (by kernel_rfl) ?_
    refine sem_region (by kernel_rfl) ?_
    refine evs_run 2 (by kernel_rfl) ?_
    refine evs_op (st_len (c := cI) (l := l) (x := (.sl (List.map cI l))) (by kernel_rfl) (by kernel_rfl)) ?_
    refine evs_run 1 (by kernel_rfl) ?_
    refine evs_endS (by kernel_rfl) (fun τ hτ => ?_)
    refine th_normalS hτ ⟨[(0, (.sl (List.map cI l))), (3, (vI s21.1)), (4, (vI s21.2)), (8, (vB (decide (s21.2 < (l.length : Int)))))], []⟩ (here (by kernel_rfl)) ?_
    refine sem_cond (decide (s21.2 < (l.length : Int))) (by kernel_rfl) (by kernel_rfl) (fun hb => ?_) (fun hb => ?_)
    · replace h := iteT hb h
      refine sem_skipS (by kernel_rfl) (fun τ hτ => ?_)
      refine th_normalS hτ ⟨[(0, (.sl (List.map cI l))), (3, (vI s21.1)), (4, (vI s21.2))], []⟩ (here (by kernel_rfl)) ?_
      refine sem_seq (by kernel_rfl) ?_
      refine sem_block (by kernel_rfl) ?_
      refine sem_region (by kernel_rfl) ?_
      refine evs_run 3 (by kernel_rfl) ?_
      obtain ⟨x29, hx29, h⟩ := bindS h
      refine evs_op (st_idx (c := cI) (l := l) (i := s21.2) (kd := .i64) (sz := 1) (by kernel_rfl) hx29 rfl) ?_
      refine evs_run 2 (by kernel_rfl) ?_
      obtain ⟨hb, h⟩ := iteN h
      refine evs_op (st_shl (a := 1) (b := (IntKind.wrap .u64 x29)) (kd := .i64) (k2 := .u64) (by kernel_rfl) (of_decide_eq_true hb)) ?_
      refine evs_run 2 (by kernel_rfl) ?_
      refine evs_endS (by kernel_rfl) (fun τ hτ => ?_)
      refine bl_normal ?_
      refine th_normalS hτ ⟨[(0, (.sl (List.map cI l))), (3, (vI (kor .i64 s21.1 (IntKind.wrap .i64 (1 * 2 ^ (min (Int.toNat (IntKind.wrap .u64 x29)) 64)))))), (4, (vI s21.2))], []⟩ (here (by kernel_rfl)) ?_
      refine sem_region (by kernel_rfl) ?_
      refine evs_run 3 (by kernel_rfl) ?_
      refine evs_endS (by kernel_rfl) (fun τ hτ => ?_)
      obtain rfl := Option.some.inj h
      exact lk_nextS hτ (here (by kernel_rfl))
    · replace h := iteF hb h
      refine sem_exitS 0 (by kernel_rfl) rfl (fun τ hτ => ?_)
      refine th_exit ?_
      obtain rfl := Option.some.inj h
      exact lk_outS hτ rfl (here (by kernel_rfl))
  · intro x
    rfl
  · intro τ hτ
    refine bl_hit (by kernel_rfl) ?_
    refine th_normalS hτ ⟨[(3, (vI x30))], []⟩ (here (by kernel_rfl)) ?_
    refine sem_seq (by kernel_rfl) ?_
    refine sem_region (by kernel_rfl) ?_
    refine evs_run 2 (by kernel_rfl) ?_
    refine evs_endS (by kernel_rfl) (fun τ hτ => ?_)
    refine th_normalS hτ ⟨[(2, (vI x30))], []⟩ (here (by kernel_rfl)) ?_
    refine sem_retS (by kernel_rfl) (fun τ hτ => ?_)
    obtain rfl := Option.some.inj h
    exact rk_ret hτ [(2, (vI x30))] (here (by kernel_rfl)) (by kernel_rfl)
theorem W.slices_Index_Lint_int_ok {s0 : (List Int)} {v : Int} {r : Int} (h : slices_Index_Lint_int s0 v = some r) : PC G.P 81 [(.sl (List.map cI s0)), (vI v)] [] (vI r) [] := by
  refine pc_of G (fn := Try.f81) Try.func81 (by kernel_rfl) (by kernel_rfl) (by kernel_rfl) (by kernel_rfl) (by kernel_rfl) ?_
  refine sem_set ⟨[(0, (.sl (List.map cI s0))), (1, (vI v))], []⟩ (by kernel_rfl) ?_
  refine sem_seq (by kernel_rfl) ?_
  refine sem_region (by kernel_rfl) ?_
  refine evs_run 1 (by kernel_rfl) ?_
  refine evs_endS (by kernel_rfl) (fun τ hτ => ?_)
  refine th_normalS hτ ⟨[(0, (.sl (List.map cI s0))), (1, (vI v))], []⟩ (here (by kernel_rfl)) ?_
  refine sem_seq (by kernel_rfl) ?_
  refine sem_seq (by kernel_rfl) ?_
  refine sem_region (by kernel_rfl) ?_
  refine evs_run 1 (by kernel_rfl) ?_
  refine evs_op (st_len (c := cI) (l := s0) (x := (.sl (List.map cI s0))) (by kernel_rfl) (by kernel_rfl)) ?_
  refine evs_run 1 (by kernel_rfl) ?_
  refine evs_endS (by kernel_rfl) (fun τ hτ => ?_)
  refine th_normalS hτ ⟨[(0, (.sl (List.map cI s0))), (1, (vI v)), (7, (vI (s0.length : Int))), (8, (vI 0))], []⟩ (here (by kernel_rfl)) ?_
  refine sem_block (by kernel_rfl) ?_
  obtain ⟨x32, hx32, h⟩ := bindS h
  refine sem_loopS (fun (s23 : Int) => ⟨[(0, (.sl (List.map cI s0))), (1, (vI v)), (7, (vI (s0.length : Int))), (8, (vI s23))], []⟩) (fun (x32 : Int ⊕ Unit) => match x32 with | .inl j33 => (.ret, ⟨[(4, (vI j33))], []⟩) | .inr j34 => (.exit 0, ⟨[], []⟩)) (slices_Index_Lint_int_l1 s0 v) 0 x32 (by kernel_rfl) (here (by kernel_rfl)) hx32 ?_ ?_ ?_
  · intro s23 r h
    refine sem_seq (by kernel_rfl) ?_
    refine sem_region (by kernel_rfl) ?_
    refine evs_run 1 (by kernel_rfl) ?_
    refine evs_endS (by kernel_rfl) (fun τ hτ => ?_)
    refine th_normalS hτ ⟨[(0, (.sl (List.map cI s0))), (1, (vI v)), (7, (vI (s0.length : Int))), (8, (vI s23)), (9, (vB (decide (s23 < (s0.length : Int)))))], []⟩ (here (by kernel_rfl)) ?_
    refine sem_seq (by kernel_rfl) ?_
    refine sem_cond (decide (s23 < (s0.length : Int))) (by kernel_rfl) (by kernel_rfl) (fun hb => ?_) (fun hb => ?_)
    · replace h := iteT hb h
      refine sem_skipS (by kernel_rfl) (fun τ hτ => ?_)
      refine th_normalS hτ ⟨[(0, (.sl (List.map cI s0))), (1, (vI v)), (7, (vI (s0.length : Int))), (8, (vI s23))], []⟩ (here (by kernel_rfl)) ?_
      refine sem_seq (by kernel_rfl) ?_
      refine sem_block (by kernel_rfl) ?_
      refine sem_seq (by kernel_rfl) ?_
      refine sem_region (by kernel_rfl) ?_
      refine evs_run 2 (by kernel_rfl) ?_
      refine evs_endS (by kernel_rfl) (fun τ hτ => ?_)
      refine th_normalS hτ ⟨[(0, (.sl (List.map cI s0))), (1, (vI v)), (5, (vI s23)), (7, (vI (s0.length : Int))), (8, (vI s23))], []⟩ (here (by kernel_rfl)) ?_
      refine sem_seq (by kernel_rfl) ?_
      refine sem_region (by kernel_rfl) ?_
      refine evs_run 3 (by kernel_rfl) ?_
      obtain ⟨x31, hx31, h⟩ := bindS h
      refine evs_op (st_idx (c := cI) (l := s0) (i := s23) (kd := .i64) (sz := 1) (by kernel_rfl) hx31 rfl) ?_
      refine evs_run 2 (by kernel_rfl) ?_
      refine evs_endS (by kernel_rfl) (fun τ hτ => ?_)
      refine th_normalS hτ ⟨[(0, (.sl (List.map cI s0))), (1, (vI v)), (5, (vI s23)), (7, (vI (s0.length : Int))), (8, (vI s23)), (16, (vB (v == x31)))], []⟩ (here (by kernel_rfl)) ?_
      refine sem_cond (v == x31) (by kernel_rfl) (by kernel_rfl) (fun hb => ?_) (fun hb => ?_)
      · replace h := iteT hb h
        refine sem_seq (by kernel_rfl) ?_
        refine sem_region (by kernel_rfl) ?_
        refine evs_run 2 (by kernel_rfl) ?_
        refine evs_endS (by kernel_rfl) (fun τ hτ => ?_)
        refine th_normalS hτ ⟨[(4, (vI s23))], []⟩ (here (by kernel_rfl)) ?_
        refine sem_retS (by kernel_rfl) (fun τ hτ => ?_)
        refine bl_ret ?_
        refine th_ret ?_
        obtain rfl := Option.some.inj h
        exact lk_outS hτ rfl (here (by kernel_rfl))
      · replace h := iteF hb h
        refine sem_skipS (by kernel_rfl) (fun τ hτ => ?_)
        refine bl_normal ?_
        refine th_normalS hτ ⟨[(0, (.sl (List.map cI s0))), (1, (vI v)), (7, (vI (s0.length : Int))), (8, (vI s23))], []⟩ (here (by kernel_rfl)) ?_
        refine sem_region (by kernel_rfl) ?_
        refine evs_run 2 (by kernel_rfl) ?_
        refine evs_endS (by kernel_rfl) (fun τ hτ => ?_)
        obtain rfl := Option.some.inj h
        exact lk_nextS hτ (here (by kernel_rfl))
    · replace h := iteF hb h
      refine sem_exitS 0 (by kernel_rfl) rfl (fun τ hτ => ?_)
      refine th_exit ?_
      obtain rfl := Option.some.inj h
      exact lk_outS hτ rfl (here (by kernel_rfl))
  · intro x
    rcases x with _ | _ <;> rfl
  · intro τ hτ
    rcases x32 with j33 | j34
    · refine bl_ret ?_
      refine th_ret ?_
      obtain rfl := Option.some.inj h
      exact rk_ret hτ [(4, (vI j33))] (here (by kernel_rfl)) (by kernel_rfl)
    · refine bl_hit (by kernel_rfl) ?_
      refine th_normalS hτ ⟨[], []⟩ (here (by kernel_rfl)) ?_
      refine sem_seq (by kernel_rfl) ?_
      refine sem_region (by kernel_rfl) ?_
      refine evs_run 1 (by kernel_rfl) ?_
      refine evs_endS (by kernel_rfl) (fun τ hτ => ?_)
      refine th_normalS hτ ⟨[(4, (vI (-1)))], []⟩ (here (by kernel_rfl)) ?_
      refine sem_retS (by kernel_rfl) (fun τ hτ => ?_)
      obtain rfl := Option.some.inj h
      exact rk_ret hτ [(4, (vI (-1)))] (here (by kernel_rfl)) (by kernel_rfl)
theorem W.slices_Contains_Lint_int_ok {s0 : (List Int)} {v : Int} {r : Bool} (h : slices_Contains_Lint_int s0 v = some r) : PC G.P 64 [(.sl (List.map cI s0)), (vI v)] [] (vB r) [] := by
  refine pc_of G (fn := Try.f64) Try.func64 (by kernel_rfl) (by kernel_rfl) (by kernel_rfl) (by kernel_rfl) (by kernel_rfl) ?_
  refine sem_set ⟨[(0, (.sl (List.map cI s0))), (1, (vI v))], []⟩ (by kernel_rfl) ?_
  refine sem_seq (by kernel_rfl) ?_
  refine sem_region (by kernel_rfl) ?_
  refine evs_run 1 (by kernel_rfl) ?_
  refine evs_endS (by kernel_rfl) (fun τ hτ => ?_)
  refine th_normalS hτ ⟨[(0, (.sl (List.map cI s0))), (1, (vI v))], []⟩ (here (by kernel_rfl)) ?_
  refine sem_seq (by kernel_rfl) ?_
  refine sem_region (by kernel_rfl) ?_
  refine evs_run 2 (by kernel_rfl) ?_
  obtain ⟨r2, hr2, h⟩ := bindS h
  refine evs_callP [] (by kernel_rfl) (W.slices_Index_Lint_int_ok hr2) (by kernel_rfl) (.inl rfl) (by kernel_rfl) ?_
  refine evs_run 2 (by kernel_rfl) ?_
  refine evs_endS (by kernel_rfl) (fun τ hτ => ?_)
  refine th_normalS hτ ⟨[(4, (vB (decide (r2 ≥ 0))))], []⟩ (here (by kernel_rfl)) ?_
  refine sem_retS (by kernel_rfl) (fun τ hτ => ?_)
  obtain rfl := Option.some.inj h
  exact rk_ret hτ [(4, (vB (decide (r2 ≥ 0))))] (here (by kernel_rfl)) (by kernel_rfl)
theorem W.sheetmetalref01_SameInts_ok {a : (List Int)} {b : (List Int)} {r : Bool} (h : sheetmetalref01_SameInts a b = some r) : PC G.P 34 [(.sl (List.map cI a)), (.sl (List.map cI b))] [] (vB r) [] := by
  refine pc_of G (fn := Try.f34) Try.func34 (by kernel_rfl) (by kernel_rfl) (by kernel_rfl) (by kernel_rfl) (by kernel_rfl) ?_
  refine sem_set ⟨[(0, (.sl (List.map cI a))), (1, (.sl (List.map cI b)))], []⟩ (by kernel_rfl) ?_
  refine sem_seq (by kernel_rfl) ?_
  refine sem_region (by kernel_rfl) ?_
  refine evs_run 1 (by kernel_rfl) ?_
  refine evs_endS (by kernel_rfl) (fun τ hτ => ?_)
  refine th_normalS hτ ⟨[(0, (.sl (List.map cI a))), (1, (.sl (List.map cI b)))], []⟩ (here (by kernel_rfl)) ?_
  refine sem_seq (by kernel_rfl) ?_
  refine sem_seq (by kernel_rfl) ?_
  refine sem_region (by kernel_rfl) ?_
  refine evs_run 1 (by kernel_rfl) ?_
  refine evs_op (st_len (c := cI) (l := a) (x := (.sl (List.map cI a))) (by kernel_rfl) (by kernel_rfl)) ?_
  refine evs_run 1 (by kernel_rfl) ?_
  refine evs_op (st_len (c := cI) (l := b) (x := (.sl (List.map cI b))) (by kernel_rfl) (by kernel_rfl)) ?_
  refine evs_run 1 (by kernel_rfl) ?_
  refine evs_endS (by kernel_rfl) (fun τ hτ => ?_)
  refine th_normalS hτ ⟨[(0, (.sl (List.map cI a))), (1, (.sl (List.map cI b))), (10, (vB ((a.length : Int) != (b.length : Int))))], []⟩ (here (by kernel_rfl)) ?_
  refine sem_cond ((a.length : Int) != (b.length : Int)) (by kernel_rfl) (by kernel_rfl) (fun hb => ?_) (fun hb => ?_)
  · replace h := iteT hb h
    refine sem_seq (by kernel_rfl) ?_
    refine sem_region (by kernel_rfl) ?_
    refine evs_run 1 (by kernel_rfl) ?_
    refine evs_endS (by kernel_rfl) (fun τ hτ => ?_)
    refine th_normalS hτ ⟨[(4, (vB false))], []⟩ (here (by kernel_rfl)) ?_
    refine sem_retS (by kernel_rfl) (fun τ hτ => ?_)
    refine th_ret ?_
    obtain rfl := Option.some.inj h
    exact rk_ret hτ [(4, (vB false))] (here (by kernel_rfl)) (by kernel_rfl)
  · replace h := iteF hb h
    refine sem_skipS (by kernel_rfl) (fun τ hτ => ?_)
    refine th_normalS hτ ⟨[(0, (.sl (List.map cI a))), (1, (.sl (List.map cI b)))], []⟩ (here (by kernel_rfl)) ?_
    refine sem_seq (by kernel_rfl) ?_
    refine sem_seq (by kernel_rfl) ?_
    refine sem_region (by kernel_rfl) ?_
    refine evs_run 1 (by kernel_rfl) ?_
    refine evs_endS (by kernel_rfl) (fun τ hτ => ?_)
    refine th_normalS hτ ⟨[(0, (.sl (List.map cI a))), (1, (.sl (List.map cI b))), (5, (vI 0))], []⟩ (here (by kernel_rfl)) ?_
    refine sem_block (by kernel_rfl) ?_
    obtain ⟨x80, hx80, h⟩ := bindS h
    refine sem_loopS (fun (s55 : Int) => ⟨[(0, (.sl (List.map cI a))), (1, (.sl (List.map cI b))), (5, (vI s55))], []⟩) (fun (x80 : Unit ⊕ Unit) => match x80 with | .inl j81 => (.ret, ⟨[(4, (vB false))], []⟩) | .inr j82 => (.exit 0, ⟨[], []⟩)) (sheetmetalref01_SameInts_l1 a b) 0 x80 (by kernel_rfl) (here (by kernel_rfl)) hx80 ?_ ?_ ?_
    · intro s55 r h
      refine sem_seq (by kernel_rfl) ?_
      refine sem_seq (by kernel_rfl) ?_
      refine sem_region (by kernel_rfl) ?_
      refine evs_run 2 (by kernel_rfl) ?_
      refine evs_op (st_len (c := cI) (l := a) (x := (.sl (List.map cI a))) (by kernel_rfl) (by kernel_rfl)) ?_
      refine evs_run 1 (by kernel_rfl) ?_
      refine evs_endS (by kernel_rfl) (fun τ hτ => ?_)
      refine th_normalS hτ ⟨[(0, (.sl (List.map cI a))), (1, (.sl (List.map cI b))), (5, (vI s55)), (14, (vB (decide (s55 < (a.length : Int)))))], []⟩ (here (by kernel_rfl)) ?_
      refine sem_cond (decide (s55 < (a.length : Int))) (by kernel_rfl) (by kernel_rfl) (fun hb => ?_) (fun hb => ?_)
      · replace h := iteT hb h
        refine sem_skipS (by kernel_rfl) (fun τ hτ => ?_)
        refine th_normalS hτ ⟨[(0, (.sl (List.map cI a))), (1, (.sl (List.map cI b))), (5, (vI s55))], []⟩ (here (by kernel_rfl)) ?_
        refine sem_seq (by kernel_rfl) ?_
        refine sem_block (by kernel_rfl) ?_
        refine sem_seq (by kernel_rfl) ?_
        refine sem_drawN [] [] [] [] [] 8 (by kernel_rfl) (by kernel_rfl) (by kernel_rfl) ?_
        refine evd_run 2 (by kernel_rfl) ?_
        obtain ⟨x78, hx78, h⟩ := bindS h
        refine evd_val (by kernel_rfl) (st_idx (c := cI) (l := a) (i := s55) (kd := .i64) (sz := 1) (by kernel_rfl) hx78 rfl) (by kernel_rfl) (by kernel_rfl) ?_
        refine evd_run 3 (by kernel_rfl) ?_
        obtain ⟨x79, hx79, h⟩ := bindS h
        refine evd_val (by kernel_rfl) (st_idx (c := cI) (l := b) (i := s55) (kd := .i64) (sz := 1) (by kernel_rfl) hx79 rfl) (by kernel_rfl) (by kernel_rfl) ?_
        refine evd_run 1 (by kernel_rfl) ?_
        refine evd_end (by kernel_rfl) ?_
        refine evo_run 1 (by kernel_rfl) ?_
        refine evo_endS (by kernel_rfl) (fun τ hτ => ?_)
        refine th_normalS hτ ⟨[(0, (.sl (List.map cI a))), (1, (.sl (List.map cI b))), (5, (vI s55)), (25, (vB (x78 != x79)))], []⟩ (here (by kernel_rfl)) ?_
        refine sem_cond (x78 != x79) (by kernel_rfl) (by kernel_rfl) (fun hb => ?_) (fun hb => ?_)
        · replace h := iteT hb h
          refine sem_seq (by kernel_rfl) ?_
          refine sem_region (by kernel_rfl) ?_
          refine evs_run 1 (by kernel_rfl) ?_
          refine evs_endS (by kernel_rfl) (fun τ hτ => ?_)
          refine th_normalS hτ ⟨[(4, (vB false))], []⟩ (here (by kernel_rfl)) ?_
          refine sem_retS (by kernel_rfl) (fun τ hτ => ?_)
          refine bl_ret ?_
          refine th_ret ?_
          obtain rfl := Option.some.inj h
          exact lk_outS hτ rfl (here (by kernel_rfl))
        · replace h := iteF hb h
          refine sem_skipS (by kernel_rfl) (fun τ hτ => ?_)
          refine bl_normal ?_
          refine th_normalS hτ ⟨[(0, (.sl (List.map cI a))), (1, (.sl (List.map cI b))), (5, (vI s55))], []⟩ (here (by kernel_rfl)) ?_
          refine sem_region (by kernel_rfl) ?_
          refine evs_run 3 (by kernel_rfl) ?_
          refine evs_endS (by kernel_rfl) (fun τ hτ => ?_)
          obtain rfl := Option.some.inj h
          exact lk_nextS hτ (here (by kernel_rfl))
      · replace h := iteF hb h
        refine sem_exitS 0 (by kernel_rfl) rfl (fun τ hτ => ?_)
        refine th_exit ?_
        obtain rfl := Option.some.inj h
        exact lk_outS hτ rfl (here (by kernel_rfl))
    · intro x
      rcases x with _ | _ <;> rfl
    · intro τ hτ
      rcases x80 with j81 | j82
      · refine bl_ret ?_
        refine th_ret ?_
        obtain rfl := Option.some.inj h
        exact rk_ret hτ [(4, (vB false))] (here (by kernel_rfl)) (by kernel_rfl)
      · refine bl_hit (by kernel_rfl) ?_
        refine th_normalS hτ ⟨[], []⟩ (here (by kernel_rfl)) ?_
        refine sem_seq (by kernel_rfl) ?_
        refine sem_region (by kernel_rfl) ?_
        refine evs_run 1 (by kernel_rfl) ?_
        refine evs_endS (by kernel_rfl) (fun τ hτ => ?_)
        refine th_normalS hτ ⟨[(4, (vB true))], []⟩ (here (by kernel_rfl)) ?_
        refine sem_retS (by kernel_rfl) (fun τ hτ => ?_)
        obtain rfl := Option.some.inj h
        exact rk_ret hτ [(4, (vB true))] (here (by kernel_rfl)) (by kernel_rfl)
theorem W.sheetmetallaw05_wide_ok {jobs : (List (List (List Int)))} {r : Bool} (h : sheetmetallaw05_wide jobs = some r) : PC G.P 27 [(.sl (List.map (cS (cS cI)) jobs))] [] (vB r) [] := by
  refine pc_of G (fn := Try.f27) Try.func27 (by kernel_rfl) (by kernel_rfl) (by kernel_rfl) (by kernel_rfl) (by kernel_rfl) ?_
  refine sem_set ⟨[(0, (.sl (List.map (cS (cS cI)) jobs)))], []⟩ (by kernel_rfl) ?_
  refine sem_seq (by kernel_rfl) ?_
  refine sem_region (by kernel_rfl) ?_
  refine evs_run 1 (by kernel_rfl) ?_
  refine evs_endS (by kernel_rfl) (fun τ hτ => ?_)
  refine th_normalS hτ ⟨[(0, (.sl (List.map (cS (cS cI)) jobs)))], []⟩ (here (by kernel_rfl)) ?_
  refine sem_seq (by kernel_rfl) ?_
  refine sem_seq (by kernel_rfl) ?_
  refine sem_region (by kernel_rfl) ?_
  refine evs_run 1 (by kernel_rfl) ?_
  refine evs_op (st_len (c := (cS (cS cI))) (l := jobs) (x := (.sl (List.map (cS (cS cI)) jobs))) (by kernel_rfl) (by kernel_rfl)) ?_
  refine evs_run 1 (by kernel_rfl) ?_
  refine evs_endS (by kernel_rfl) (fun τ hτ => ?_)
  refine th_normalS hτ ⟨[(0, (.sl (List.map (cS (cS cI)) jobs))), (6, (vB (decide ((jobs.length : Int) > 20))))], []⟩ (here (by kernel_rfl)) ?_
  refine sem_cond (decide ((jobs.length : Int) > 20)) (by kernel_rfl) (by kernel_rfl) (fun hb => ?_) (fun hb => ?_)
  · replace h := iteT hb h
    refine sem_seq (by kernel_rfl) ?_
    refine sem_region (by kernel_rfl) ?_
    refine evs_run 1 (by kernel_rfl) ?_
    refine evs_endS (by kernel_rfl) (fun τ hτ => ?_)
    refine th_normalS hτ ⟨[(2, (vB true))], []⟩ (here (by kernel_rfl)) ?_
    refine sem_retS (by kernel_rfl) (fun τ hτ => ?_)
    refine th_ret ?_
    obtain rfl := Option.some.inj h
    exact rk_ret hτ [(2, (vB true))] (here (by kernel_rfl)) (by kernel_rfl)
  · replace h := iteF hb h
    refine sem_skipS (by kernel_rfl) (fun τ hτ => ?_)
    refine th_normalS hτ ⟨[(0, (.sl (List.map (cS (cS cI)) jobs)))], []⟩ (here (by kernel_rfl)) ?_
    refine sem_seq (by kernel_rfl) ?_
    refine sem_seq (by kernel_rfl) ?_
    refine sem_region (by kernel_rfl) ?_
    refine evs_run 1 (by kernel_rfl) ?_
    refine evs_endS (by kernel_rfl) (fun τ hτ => ?_)
    refine th_normalS hτ ⟨[(0, (.sl (List.map (cS (cS cI)) jobs))), (3, (vI 0))], []⟩ (here (by kernel_rfl)) ?_
    refine sem_block (by kernel_rfl) ?_
    obtain ⟨x56, hx56, h⟩ := bindS h
    refine sem_loopS (fun (s39 : Int) => ⟨[(0, (.sl (List.map (cS (cS cI)) jobs))), (3, (vI s39))], []⟩) (fun (x56 : Unit ⊕ Unit) => match x56 with | .inl j57 => (.ret, ⟨[(2, (vB true))], []⟩) | .inr j58 => (.exit 0, ⟨[], []⟩)) (sheetmetallaw05_wide_l1 jobs) 0 x56 (by kernel_rfl) (here (by kernel_rfl)) hx56 ?_ ?_ ?_
    · intro s39 r h
      refine sem_seq (by kernel_rfl) ?_
      refine sem_seq (by kernel_rfl) ?_
      refine sem_region (by kernel_rfl) ?_
      refine evs_run 2 (by kernel_rfl) ?_
      refine evs_op (st_len (c := (cS (cS cI))) (l := jobs) (x := (.sl (List.map (cS (cS cI)) jobs))) (by kernel_rfl) (by kernel_rfl)) ?_
      refine evs_run 1 (by kernel_rfl) ?_
      refine evs_endS (by kernel_rfl) (fun τ hτ => ?_)
      refine th_normalS hτ ⟨[(0, (.sl (List.map (cS (cS cI)) jobs))), (3, (vI s39)), (10, (vB (decide (s39 < (jobs.length : Int)))))], []⟩ (here (by kernel_rfl)) ?_
      refine sem_cond (decide (s39 < (jobs.length : Int))) (by kernel_rfl) (by kernel_rfl) (fun hb => ?_) (fun hb => ?_)
      · replace h := iteT hb h
        refine sem_skipS (by kernel_rfl) (fun τ hτ => ?_)
        refine th_normalS hτ ⟨[(0, (.sl (List.map (cS (cS cI)) jobs))), (3, (vI s39))], []⟩ (here (by kernel_rfl)) ?_
        refine sem_seq (by kernel_rfl) ?_
        refine sem_block (by kernel_rfl) ?_
        refine sem_seq (by kernel_rfl) ?_
        refine sem_region (by kernel_rfl) ?_
        refine evs_run 2 (by kernel_rfl) ?_
        obtain ⟨x54, hx54, h⟩ := bindS h
        refine evs_op (st_idx (c := (cS (cS cI))) (l := jobs) (i := s39) (kd := .i64) (sz := 1) (by kernel_rfl) hx54 rfl) ?_
        refine evs_run 1 (by kernel_rfl) ?_
        obtain ⟨r55, hr55, h⟩ := bindS h
        refine evs_callP [] (by kernel_rfl) (W.sheetmetallaw05_Long_ok hr55) (by kernel_rfl) (.inl rfl) (by kernel_rfl) ?_
        refine evs_endS (by kernel_rfl) (fun τ hτ => ?_)
        refine th_normalS hτ ⟨[(0, (.sl (List.map (cS (cS cI)) jobs))), (3, (vI s39)), (17, (vB r55))], []⟩ (here (by kernel_rfl)) ?_
        refine sem_cond r55 (by kernel_rfl) (by kernel_rfl) (fun hb => ?_) (fun hb => ?_)
        · replace h := iteT hb h
          refine sem_seq (by kernel_rfl) ?_
          refine sem_region (by kernel_rfl) ?_
          refine evs_run 1 (by kernel_rfl) ?_
          refine evs_endS (by kernel_rfl) (fun τ hτ => ?_)
          refine th_normalS hτ ⟨[(2, (vB true))], []⟩ (here (by kernel_rfl)) ?_
          refine sem_retS (by kernel_rfl) (fun τ hτ => ?_)
          refine bl_ret ?_
          refine th_ret ?_
          obtain rfl := Option.some.inj h
          exact lk_outS hτ rfl (here (by kernel_rfl))
        · replace h := iteF hb h
          refine sem_skipS (by kernel_rfl) (fun τ hτ => ?_)
          refine bl_normal ?_
          refine th_normalS hτ ⟨[(0, (.sl (List.map (cS (cS cI)) jobs))), (3, (vI s39))], []⟩ (here (by kernel_rfl)) ?_
          refine sem_region (by kernel_rfl) ?_
          refine evs_run 3 (by kernel_rfl) ?_
          refine evs_endS (by kernel_rfl) (fun τ hτ => ?_)
          obtain rfl := Option.some.inj h
          exact lk_nextS hτ (here (by kernel_rfl))
      · replace h := iteF hb h
        refine sem_exitS 0 (by kernel_rfl) rfl (fun τ hτ => ?_)
        refine th_exit ?_
        obtain rfl := Option.some.inj h
        exact lk_outS hτ rfl (here (by kernel_rfl))
    · intro x
      rcases x with _ | _ <;> rfl
    · intro τ hτ
      rcases x56 with j57 | j58
      · refine bl_ret ?_
        refine th_ret ?_
        obtain rfl := Option.some.inj h
        exact rk_ret hτ [(2, (vB true))] (here (by kernel_rfl)) (by kernel_rfl)
      · refine bl_hit (by kernel_rfl) ?_
        refine th_normalS hτ ⟨[], []⟩ (here (by kernel_rfl)) ?_
        refine sem_seq (by kernel_rfl) ?_
        refine sem_region (by kernel_rfl) ?_
        refine evs_run 1 (by kernel_rfl) ?_
        refine evs_endS (by kernel_rfl) (fun τ hτ => ?_)
        refine th_normalS hτ ⟨[(2, (vB false))], []⟩ (here (by kernel_rfl)) ?_
        refine sem_retS (by kernel_rfl) (fun τ hτ => ?_)
        obtain rfl := Option.some.inj h
        exact rk_ret hτ [(2, (vB false))] (here (by kernel_rfl)) (by kernel_rfl)
theorem W.setup_checkJobs_ok {jobs : (List (List (List Int)))} {r : Int} (h : setup_checkJobs jobs = some r) : PC G.P 55 [(.sl (List.map (cS (cS cI)) jobs))] [] (vI r) [] := by
  refine pc_of G (fn := Try.f55) Try.func55 (by kernel_rfl) (by kernel_rfl) (by kernel_rfl) (by kernel_rfl) (by kernel_rfl) ?_
  refine sem_set ⟨[(0, (.sl (List.map (cS (cS cI)) jobs)))], []⟩ (by kernel_rfl) ?_
  refine sem_seq (by kernel_rfl) ?_
  refine sem_region (by kernel_rfl) ?_
  refine evs_run 1 (by kernel_rfl) ?_
  refine evs_endS (by kernel_rfl) (fun τ hτ => ?_)
  refine th_normalS hτ ⟨[(0, (.sl (List.map (cS (cS cI)) jobs)))], []⟩ (here (by kernel_rfl)) ?_
  refine sem_seq (by kernel_rfl) ?_
  refine sem_seq (by kernel_rfl) ?_
  refine sem_region (by kernel_rfl) ?_
  refine evs_run 1 (by kernel_rfl) ?_
  refine evs_op (st_len (c := (cS (cS cI))) (l := jobs) (x := (.sl (List.map (cS (cS cI)) jobs))) (by kernel_rfl) (by kernel_rfl)) ?_
  refine evs_run 1 (by kernel_rfl) ?_
  refine evs_endS (by kernel_rfl) (fun τ hτ => ?_)
  refine th_normalS hτ ⟨[(0, (.sl (List.map (cS (cS cI)) jobs))), (8, (vB (decide ((jobs.length : Int) > 4))))], []⟩ (here (by kernel_rfl)) ?_
  refine sem_cond (decide ((jobs.length : Int) > 4)) (by kernel_rfl) (by kernel_rfl) (fun hb => ?_) (fun hb => ?_)
  · replace h := iteT hb h
    refine sem_seq (by kernel_rfl) ?_
    refine sem_region (by kernel_rfl) ?_
    refine evs_run 1 (by kernel_rfl) ?_
    refine evs_endS (by kernel_rfl) (fun τ hτ => ?_)
    refine th_normalS hτ ⟨[(2, (vI 4))], []⟩ (here (by kernel_rfl)) ?_
    refine sem_retS (by kernel_rfl) (fun τ hτ => ?_)
    refine th_ret ?_
    obtain rfl := Option.some.inj h
    exact rk_ret hτ [(2, (vI 4))] (here (by kernel_rfl)) (by kernel_rfl)
  · replace h := iteF hb h
    refine sem_skipS (by kernel_rfl) (fun τ hτ => ?_)
    refine th_normalS hτ ⟨[(0, (.sl (List.map (cS (cS cI)) jobs)))], []⟩ (here (by kernel_rfl)) ?_
    refine sem_seq (by kernel_rfl) ?_
    refine sem_seq (by kernel_rfl) ?_
    refine sem_region (by kernel_rfl) ?_
    refine evs_run 1 (by kernel_rfl) ?_
    refine evs_op (st_len (c := (cS (cS cI))) (l := jobs) (x := (.sl (List.map (cS (cS cI)) jobs))) (by kernel_rfl) (by kernel_rfl)) ?_
    refine evs_run 1 (by kernel_rfl) ?_
    refine evs_endS (by kernel_rfl) (fun τ hτ => ?_)
    refine th_normalS hτ ⟨[(9, (.sl (List.map (cS (cS cI)) jobs))), (10, (vI (jobs.length : Int))), (11, (vI 0))], []⟩ (here (by kernel_rfl)) ?_
    refine sem_block (by kernel_rfl) ?_
    obtain ⟨x56, hx56, h⟩ := bindS h
    refine sem_loopS (fun (s39 : Int) => ⟨[(9, (.sl (List.map (cS (cS cI)) jobs))), (10, (vI (jobs.length : Int))), (11, (vI s39))], []⟩) (fun (x56 : Int ⊕ Unit) => match x56 with | .inl j57 => (.ret, ⟨[(2, (vI j57))], []⟩) | .inr j58 => (.exit 0, ⟨[], []⟩)) (setup_checkJobs_l1 jobs) 0 x56 (by kernel_rfl) (here (by kernel_rfl)) hx56 ?_ ?_ ?_
    · intro s39 r h
      refine sem_seq (by kernel_rfl) ?_
      refine sem_region (by kernel_rfl) ?_
      refine evs_run 1 (by kernel_rfl) ?_
      refine evs_endS (by kernel_rfl) (fun τ hτ => ?_)
      refine th_normalS hτ ⟨[(9, (.sl (List.map (cS (cS cI)) jobs))), (10, (vI (jobs.length : Int))), (11, (vI s39)), (12, (vB (decide (s39 < (jobs.length : Int)))))], []⟩ (here (by kernel_rfl)) ?_
      refine sem_seq (by kernel_rfl) ?_
      refine sem_cond (decide (s39 < (jobs.length : Int))) (by kernel_rfl) (by kernel_rfl) (fun hb => ?_) (fun hb => ?_)
      · replace h := iteT hb h
        refine sem_skipS (by kernel_rfl) (fun τ hτ => ?_)
        refine th_normalS hτ ⟨[(9, (.sl (List.map (cS (cS cI)) jobs))), (10, (vI (jobs.length : Int))), (11, (vI s39))], []⟩ (here (by kernel_rfl)) ?_
        refine sem_seq (by kernel_rfl) ?_
        refine sem_block (by kernel_rfl) ?_
        refine sem_seq (by kernel_rfl) ?_
        refine sem_region (by kernel_rfl) ?_
        obtain ⟨x53, hx53, h⟩ := bindS h
        refine evs_op (st_idx (c := (cS (cS cI))) (l := jobs) (i := s39) (kd := .i64) (sz := 1) (by kernel_rfl) hx53 rfl) ?_
        refine evs_run 2 (by kernel_rfl) ?_
        refine evs_endS (by kernel_rfl) (fun τ hτ => ?_)
        refine th_normalS hτ ⟨[(4, (.sl (List.map (cS cI) x53))), (9, (.sl (List.map (cS (cS cI)) jobs))), (10, (vI (jobs.length : Int))), (11, (vI s39))], []⟩ (here (by kernel_rfl)) ?_
        refine sem_seq (by kernel_rfl) ?_
        refine sem_region (by kernel_rfl) ?_
        refine evs_run 1 (by kernel_rfl) ?_
        obtain ⟨r55, hr55, h⟩ := bindS h
        refine evs_callP [] (by kernel_rfl) (W.setup_Validate_ok hr55) (by kernel_rfl) (.inl rfl) (by kernel_rfl) ?_
        refine evs_run 1 (by kernel_rfl) ?_
        refine evs_endS (by kernel_rfl) (fun τ hτ => ?_)
        refine th_normalS hτ ⟨[(5, (vI r55)), (9, (.sl (List.map (cS (cS cI)) jobs))), (10, (vI (jobs.length : Int))), (11, (vI s39))], []⟩ (here (by kernel_rfl)) ?_
        refine sem_seq (by kernel_rfl) ?_
        refine sem_region (by kernel_rfl) ?_
        refine evs_run 2 (by kernel_rfl) ?_
        refine evs_endS (by kernel_rfl) (fun τ hτ => ?_)
        refine th_normalS hτ ⟨[(5, (vI r55)), (9, (.sl (List.map (cS (cS cI)) jobs))), (10, (vI (jobs.length : Int))), (11, (vI s39)), (18, (vB (r55 != 0)))], []⟩ (here (by kernel_rfl)) ?_
        refine sem_cond (r55 != 0) (by kernel_rfl) (by kernel_rfl) (fun hb => ?_) (fun hb => ?_)
        · replace h := iteT hb h
          refine sem_seq (by kernel_rfl) ?_
          refine sem_region (by kernel_rfl) ?_
          refine evs_run 2 (by kernel_rfl) ?_
          refine evs_endS (by kernel_rfl) (fun τ hτ => ?_)
          refine th_normalS hτ ⟨[(2, (vI r55))], []⟩ (here (by kernel_rfl)) ?_
          refine sem_retS (by kernel_rfl) (fun τ hτ => ?_)
          refine bl_ret ?_
          refine th_ret ?_
          obtain rfl := Option.some.inj h
          exact lk_outS hτ rfl (here (by kernel_rfl))
        · replace h := iteF hb h
          refine sem_skipS (by kernel_rfl) (fun τ hτ => ?_)
          refine bl_normal ?_
          refine th_normalS hτ ⟨[(9, (.sl (List.map (cS (cS cI)) jobs))), (10, (vI (jobs.length : Int))), (11, (vI s39))], []⟩ (here (by kernel_rfl)) ?_
          refine sem_region (by kernel_rfl) ?_
          refine evs_run 2 (by kernel_rfl) ?_
          refine evs_endS (by kernel_rfl) (fun τ hτ => ?_)
          obtain rfl := Option.some.inj h
          exact lk_nextS hτ (here (by kernel_rfl))
      · replace h := iteF hb h
        refine sem_exitS 0 (by kernel_rfl) rfl (fun τ hτ => ?_)
        refine th_exit ?_
        obtain rfl := Option.some.inj h
        exact lk_outS hτ rfl (here (by kernel_rfl))
    · intro x
      rcases x with _ | _ <;> rfl
    · intro τ hτ
      rcases x56 with j57 | j58
      · refine bl_ret ?_
        refine th_ret ?_
        obtain rfl := Option.some.inj h
        exact rk_ret hτ [(2, (vI j57))] (here (by kernel_rfl)) (by kernel_rfl)
      · refine bl_hit (by kernel_rfl) ?_
        refine th_normalS hτ ⟨[], []⟩ (here (by kernel_rfl)) ?_
        refine sem_seq (by kernel_rfl) ?_
        refine sem_region (by kernel_rfl) ?_
        refine evs_run 1 (by kernel_rfl) ?_
        refine evs_endS (by kernel_rfl) (fun τ hτ => ?_)
        refine th_normalS hτ ⟨[(2, (vI 0))], []⟩ (here (by kernel_rfl)) ?_
        refine sem_retS (by kernel_rfl) (fun τ hτ => ?_)
        obtain rfl := Option.some.inj h
        exact rk_ret hτ [(2, (vI 0))] (here (by kernel_rfl)) (by kernel_rfl)
theorem W.setup_tooMany_ok {jobs : (List (List (List Int)))} {r : Bool} (h : setup_tooMany jobs = some r) : PC G.P 57 [(.sl (List.map (cS (cS cI)) jobs))] [] (vB r) [] := by
  refine pc_of G (fn := Try.f57) Try.func57 (by kernel_rfl) (by kernel_rfl) (by kernel_rfl) (by kernel_rfl) (by kernel_rfl) ?_
  refine sem_set ⟨[(0, (.sl (List.map (cS (cS cI)) jobs)))], []⟩ (by kernel_rfl) ?_
  refine sem_seq (by kernel_rfl) ?_
  refine sem_region (by kernel_rfl) ?_
  refine evs_run 1 (by kernel_rfl) ?_
  refine evs_endS (by kernel_rfl) (fun τ hτ => ?_)
  refine th_normalS hτ ⟨[(0, (.sl (List.map (cS (cS cI)) jobs)))], []⟩ (here (by kernel_rfl)) ?_
  refine sem_seq (by kernel_rfl) ?_
  refine sem_region (by kernel_rfl) ?_
  refine evs_run 1 (by kernel_rfl) ?_
  refine evs_endS (by kernel_rfl) (fun τ hτ => ?_)
  refine th_normalS hτ ⟨[(0, (.sl (List.map (cS (cS cI)) jobs))), (3, (vI 0))], []⟩ (here (by kernel_rfl)) ?_
  refine sem_seq (by kernel_rfl) ?_
  refine sem_seq (by kernel_rfl) ?_
  refine sem_region (by kernel_rfl) ?_
  refine evs_run 1 (by kernel_rfl) ?_
  refine evs_op (st_len (c := (cS (cS cI))) (l := jobs) (x := (.sl (List.map (cS (cS cI)) jobs))) (by kernel_rfl) (by kernel_rfl)) ?_
  refine evs_run 1 (by kernel_rfl) ?_
  refine evs_endS (by kernel_rfl) (fun τ hτ => ?_)
  refine th_normalS hτ ⟨[(3, (vI 0)), (6, (.sl (List.map (cS (cS cI)) jobs))), (7, (vI (jobs.length : Int))), (8, (vI 0))], []⟩ (here (by kernel_rfl)) ?_
  refine sem_block (by kernel_rfl) ?_
  obtain ⟨x30, hx30, h⟩ := bindS h
  refine sem_loopS (fun (s21 : Int × Int) => ⟨[(3, (vI s21.1)), (6, (.sl (List.map (cS (cS cI)) jobs))), (7, (vI (jobs.length : Int))), (8, (vI s21.2))], []⟩) (fun (x30 : Int) => (.exit 0, ⟨[(3, (vI x30))], []⟩)) (setup_tooMany_l1 jobs) (0, 0) x30 (by kernel_rfl) (here (by kernel_rfl)) hx30 ?_ ?_ ?_
  · intro s21 r h
    refine sem_seq (by kernel_rfl) ?_
    refine sem_region (by kernel_rfl) ?_
    refine evs_run 1 (by kernel_rfl) ?_
    refine evs_endS (by kernel_rfl) (fun τ hτ => ?_)
    refine th_normalS hτ ⟨[(3, (vI s21.1)), (6, (.sl (List.map (cS (cS cI)) jobs))), (7, (vI (jobs.length : Int))), (8, (vI s21.2)), (9, (vB (decide (s21.2 < (jobs.length : Int)))))], []⟩ (here (by kernel_rfl)) ?_
    refine sem_seq (by kernel_rfl) ?_
    refine sem_cond (decide (s21.2 < (jobs.length : Int))) (by kernel_rfl) (by kernel_rfl) (fun hb => ?_) (fun hb => ?_)
    · replace h := iteT hb h
      refine sem_skipS (by kernel_rfl) (fun τ hτ => ?_)
      refine th_normalS hτ ⟨[(3, (vI s21.1)), (6, (.sl (List.map (cS (cS cI)) jobs))), (7, (vI (jobs.length : Int))), (8, (vI s21.2))], []⟩ (here (by kernel_rfl)) ?_
      refine sem_seq (by kernel_rfl) ?_
      refine sem_block (by kernel_rfl) ?_
      refine sem_seq (by kernel_rfl) ?_
      refine sem_region (by kernel_rfl) ?_
      obtain ⟨x29, hx29, h⟩ := bindS h
      refine evs_op (st_idx (c := (cS (cS cI))) (l := jobs) (i := s21.2) (kd := .i64) (sz := 1) (by kernel_rfl) hx29 rfl) ?_
      refine evs_run 2 (by kernel_rfl) ?_
      refine evs_endS (by kernel_rfl) (fun τ hτ => ?_)
      refine th_normalS hτ ⟨[(3, (vI s21.1)), (5, (.sl (List.map (cS cI) x29))), (6, (.sl (List.map (cS (cS cI)) jobs))), (7, (vI (jobs.length : Int))), (8, (vI s21.2))], []⟩ (here (by kernel_rfl)) ?_
      refine sem_region (by kernel_rfl) ?_
      refine evs_run 2 (by kernel_rfl) ?_
      refine evs_op (st_len (c := (cS cI)) (l := x29) (x := (.sl (List.map (cS cI) x29))) (by kernel_rfl) (by kernel_rfl)) ?_
      refine evs_run 2 (by kernel_rfl) ?_
      refine evs_endS (by kernel_rfl) (fun τ hτ => ?_)
      refine bl_normal ?_
      refine th_normalS hτ ⟨[(3, (vI (iadd s21.1 (x29.length : Int)))), (6, (.sl (List.map (cS (cS cI)) jobs))), (7, (vI (jobs.length : Int))), (8, (vI s21.2))], []⟩ (here (by kernel_rfl)) ?_
      refine sem_region (by kernel_rfl) ?_
      refine evs_run 2 (by kernel_rfl) ?_
      refine evs_endS (by kernel_rfl) (fun τ hτ => ?_)
      obtain rfl := Option.some.inj h
      exact lk_nextS hτ (here (by kernel_rfl))
    · replace h := iteF hb h
      refine sem_exitS 0 (by kernel_rfl) rfl (fun τ hτ => ?_)
      refine th_exit ?_
      obtain rfl := Option.some.inj h
      exact lk_outS hτ rfl (here (by kernel_rfl))
  · intro x
    rfl
  · intro τ hτ
    refine bl_hit (by kernel_rfl) ?_
    refine th_normalS hτ ⟨[(3, (vI x30))], []⟩ (here (by kernel_rfl)) ?_
    refine sem_seq (by kernel_rfl) ?_
    refine sem_region (by kernel_rfl) ?_
    refine evs_run 3 (by kernel_rfl) ?_
    refine evs_endS (by kernel_rfl) (fun τ hτ => ?_)
    refine th_normalS hτ ⟨[(2, (vB (decide (x30 > 24))))], []⟩ (here (by kernel_rfl)) ?_
    refine sem_retS (by kernel_rfl) (fun τ hτ => ?_)
    obtain rfl := Option.some.inj h
    exact rk_ret hτ [(2, (vB (decide (x30 > 24))))] (here (by kernel_rfl)) (by kernel_rfl)
theorem W.slices_Clone_Lint_int_ok {s r : (List Int)} (h : slices_Clone_Lint_int s = some r) : PC G.P 65 [.sl (List.map cI s)] [] (.row (.top 0) 3) [(0, .row 3 [] (List.map cI r))] := by
  replace h : app [] s = some r := h
  refine pc_of G (fn := Try.f65) Try.func65 (by kernel_rfl) (by kernel_rfl) (by kernel_rfl) (by kernel_rfl) (by kernel_rfl) ?_
  refine sem_seq (by kernel_rfl) ?_
  refine sem_region (by kernel_rfl) ?_
  refine evs_run 1 (by kernel_rfl) ?_
  refine evs_endS (by kernel_rfl) (fun τ hτ => ?_)
  refine th_normalS hτ ⟨[(0, .sl (List.map cI s))], []⟩ (here (by kernel_rfl)) ?_
  refine sem_seq (by kernel_rfl) ?_
  refine sem_seq (by kernel_rfl) ?_
  refine sem_region (by kernel_rfl) ?_
  refine evs_run 1 (by kernel_rfl) ?_
  refine evs_isnil (es := List.map cI s) (by kernel_rfl) (fun hn => ?_) ?_
  · obtain rfl : s = [] := List.map_eq_nil_iff.1 hn
    obtain rfl : [] = r := Option.some.inj ((app_eq (by simp [LIM])).symm.trans h)
    refine evs_endS (by kernel_rfl) (fun τ hτ => ?_)
    refine th_normalS hτ ⟨[(0, .sl (List.map cI [])), (4, vB true)], []⟩ (here (by kernel_rfl)) ?_
    refine sem_condT (by kernel_rfl) (by kernel_rfl) ?_
    refine sem_seq (by kernel_rfl) ?_
    refine sem_region (by kernel_rfl) ?_
    refine evs_run 1 (by kernel_rfl) ?_
    refine evs_endS (by kernel_rfl) (fun τ hτ => ?_)
    refine th_normalS hτ ⟨[(2, .row (.top 2) 3)], [(2, .row 3 [] (List.map cI []))]⟩ (here (by kernel_rfl)) ?_
    refine sem_retS (by kernel_rfl) (fun τ hτ => ?_)
    refine th_ret ?_
    exact rk_ret hτ [(2, .row (.top 0) 3)] (subR_of [(2, 0)] rfl rfl (by kernel_rfl)) (by kernel_rfl)
  · refine evs_endS (by kernel_rfl) (fun τ hτ => ?_)
    refine th_normalS hτ ⟨[(0, .sl (List.map cI s)), (4, vB false)], []⟩ (here (by kernel_rfl)) ?_
    refine sem_condF (by kernel_rfl) (by kernel_rfl) ?_
    refine sem_skipS (by kernel_rfl) (fun τ hτ => ?_)
    refine th_normalS hτ ⟨[(0, .sl (List.map cI s))], []⟩ (here (by kernel_rfl)) ?_
    refine sem_seq (by kernel_rfl) ?_
    refine sem_region (by kernel_rfl) ?_
    refine evs_at (at_build (es := List.map cI []) (e := 3) (d := 5) (by kernel_rfl)) ?_
    refine evs_run 1 (by kernel_rfl) ?_
    refine evs_op (st_app (c := cI) (l := []) (l2 := s) (x := .sl (List.map cI s)) (g := 5) (e := 3) (sz := 1) (d := 7) (by kernel_rfl) (by kernel_rfl) (by kernel_rfl) (by kernel_rfl) (fun _ => rfl) rfl h) ?_
    refine evs_run 1 (by kernel_rfl) ?_
    refine evs_endS (by kernel_rfl) (fun τ hτ => ?_)
    refine th_normalS hτ ⟨[(2, .row (.top 5) 3)], [(5, .row 3 [] (List.map cI r))]⟩ (here (by kernel_rfl)) ?_
    refine sem_retS (by kernel_rfl) (fun τ hτ => ?_)
    exact rk_ret hτ [(2, .row (.top 0) 3)] (subR_of [(5, 0)] rfl rfl (by kernel_rfl)) (by kernel_rfl)
theorem W.setup_join_ok {jobs : (List (List (List Int)))} {order : (List Int)} {r : (List (List Int))} (h : setup_join jobs order = some r) : PC G.P 58 [(.sl (List.map (cS (cS cI)) jobs)), (.sl (List.map cI order))] [] (.row (.top 0) 38) [(0, .row 38 [(0, 3)] (List.map (cS cI) r))] := by
  refine pc_of G (fn := Try.f58) Try.func58 (by kernel_rfl) (by kernel_rfl) (by kernel_rfl) (by kernel_rfl) (by kernel_rfl) ?_
  refine sem_set ⟨[(0, (.sl (List.map (cS (cS cI)) jobs))), (1, (.sl (List.map cI order)))], []⟩ (by kernel_rfl) ?_
  refine sem_seq (by kernel_rfl) ?_
  refine sem_region (by kernel_rfl) ?_
  refine evs_run 1 (by kernel_rfl) ?_
  refine evs_endS (by kernel_rfl) (fun τ hτ => ?_)
  refine th_normalS hτ ⟨[(0, (.sl (List.map (cS (cS cI)) jobs))), (1, (.sl (List.map cI order)))], []⟩ (here (by kernel_rfl)) ?_
  refine sem_seq (by kernel_rfl) ?_
  refine sem_region (by kernel_rfl) ?_
  refine evs_run 1 (by kernel_rfl) ?_
  refine evs_endS (by kernel_rfl) (fun τ hτ => ?_)
  refine th_normalS hτ ⟨[(0, (.sl (List.map (cS (cS cI)) jobs))), (1, (.sl (List.map cI order))), (5, (.row (.top 5) 38))], [(5, .row 38 [] (List.map (cS cI) []))]⟩ (here (by kernel_rfl)) ?_
  refine sem_seq (by kernel_rfl) ?_
  refine sem_seq (by kernel_rfl) ?_
  refine sem_region (by kernel_rfl) ?_
  refine evs_run 1 (by kernel_rfl) ?_
  refine evs_op (st_len (c := cI) (l := order) (x := (.sl (List.map cI order))) (by kernel_rfl) (by kernel_rfl)) ?_
  refine evs_run 1 (by kernel_rfl) ?_
  refine evs_endS (by kernel_rfl) (fun τ hτ => ?_)
  refine th_normalS hτ ⟨[(0, (.sl (List.map (cS (cS cI)) jobs))), (5, (.row (.top 5) 38)), (10, (.sl (List.map cI order))), (11, (vI (order.length : Int))), (12, (vI 0))], [(5, .row 38 [] (List.map (cS cI) []))]⟩ (here (by kernel_rfl)) ?_
  refine sem_block (by kernel_rfl) ?_
  obtain ⟨x522, hx522, h⟩ := bindS h
  refine sem_loopS (fun (s349 : Int × (List (List Int))) => ⟨[(0, (.sl (List.map (cS (cS cI)) jobs))), (5, (.row (.top 500000) 38)), (10, (.sl (List.map cI order))), (11, (vI (order.length : Int))), (12, (vI s349.1))], [(500000, .row 38 [(0, 3)] (List.map (cS cI) s349.2))]⟩) (fun (x522 : (List (List Int))) => (.exit 0, ⟨[(5, (.row (.top 500000) 38))], [(500000, .row 38 [(0, 3)] (List.map (cS cI) x522))]⟩)) (setup_join_l2 jobs order) (0, []) x522 (by kernel_rfl) (subR_prep [.jrow 5 [(0, 3)]] [(5, 500000)] (by kernel_rfl) rfl rfl (by kernel_rfl)) hx522 ?_ ?_ ?_
  · intro s349 r h
    refine sem_seq (by kernel_rfl) ?_
    refine sem_region (by kernel_rfl) ?_
    refine evs_run 1 (by kernel_rfl) ?_
    refine evs_endS (by kernel_rfl) (fun τ hτ => ?_)
    refine th_normalS hτ ⟨[(0, (.sl (List.map (cS (cS cI)) jobs))), (5, (.row (.top 500000) 38)), (10, (.sl (List.map cI order))), (11, (vI (order.length : Int))), (12, (vI s349.1)), (13, (vB (decide (s349.1 < (order.length : Int)))))], [(500000, .row 38 [(0, 3)] (List.map (cS cI) s349.2))]⟩ (here (by kernel_rfl)) ?_
    refine sem_seq (by kernel_rfl) ?_
    refine sem_cond (decide (s349.1 < (order.length : Int))) (by kernel_rfl) (by kernel_rfl) (fun hb => ?_) (fun hb => ?_)
    · replace h := iteT hb h
      refine sem_skipS (by kernel_rfl) (fun τ hτ => ?_)
      refine th_normalS hτ ⟨[(0, (.sl (List.map (cS (cS cI)) jobs))), (5, (.row (.top 500000) 38)), (10, (.sl (List.map cI order))), (11, (vI (order.length : Int))), (12, (vI s349.1))], [(500000, .row 38 [(0, 3)] (List.map (cS cI) s349.2))]⟩ (here (by kernel_rfl)) ?_
      refine sem_seq (by kernel_rfl) ?_
      refine sem_block (by kernel_rfl) ?_
      refine sem_seq (by kernel_rfl) ?_
      refine sem_region (by kernel_rfl) ?_
      obtain ⟨x480, hx480, h⟩ := bindS h
      refine evs_op (st_idx (c := cI) (l := order) (i := s349.1) (kd := .i64) (sz := 1) (by kernel_rfl) hx480 rfl) ?_
      refine evs_run 2 (by kernel_rfl) ?_
      refine evs_endS (by kernel_rfl) (fun τ hτ => ?_)
      refine th_normalS hτ ⟨[(0, (.sl (List.map (cS (cS cI)) jobs))), (5, (.row (.top 500000) 38)), (7, (vI x480)), (10, (.sl (List.map cI order))), (11, (vI (order.length : Int))), (12, (vI s349.1))], [(500000, .row 38 [(0, 3)] (List.map (cS cI) s349.2))]⟩ (here (by kernel_rfl)) ?_
      refine sem_seq (by kernel_rfl) ?_
      refine sem_region (by kernel_rfl) ?_
      refine evs_run 2 (by kernel_rfl) ?_
      obtain ⟨x482, hx482, h⟩ := bindS h
      refine evs_op (st_idx (c := (cS (cS cI))) (l := jobs) (i := x480) (kd := .i64) (sz := 1) (by kernel_rfl) hx482 rfl) ?_
      refine evs_run 1 (by kernel_rfl) ?_
      refine evs_op (st_len (c := (cS cI)) (l := x482) (x := (.sl (List.map (cS cI) x482))) (by kernel_rfl) (by kernel_rfl)) ?_
      refine evs_run 1 (by kernel_rfl) ?_
      refine evs_endS (by kernel_rfl) (fun τ hτ => ?_)
      refine th_normalS hτ ⟨[(0, (.sl (List.map (cS (cS cI)) jobs))), (5, (.row (.top 500000) 38)), (10, (.sl (List.map cI order))), (11, (vI (order.length : Int))), (12, (vI s349.1)), (19, (.sl (List.map (cS cI) x482))), (20, (vI (x482.length : Int))), (21, (vI 0))], [(500000, .row 38 [(0, 3)] (List.map (cS cI) s349.2))]⟩ (here (by kernel_rfl)) ?_
      refine sem_block (by kernel_rfl) ?_
      obtain ⟨x521, hx521, h⟩ := bindS h
      refine sem_loopS (fun (s496 : Int × (List (List Int))) => ⟨[(0, (.sl (List.map (cS (cS cI)) jobs))), (5, (.row (.top 500000) 38)), (10, (.sl (List.map cI order))), (11, (vI (order.length : Int))), (12, (vI s349.1)), (19, (.sl (List.map (cS cI) x482))), (20, (vI (x482.length : Int))), (21, (vI s496.1))], [(500000, .row 38 [(0, 3)] (List.map (cS cI) s496.2))]⟩) (fun (x521 : (List (List Int))) => (.exit 2, ⟨[(0, (.sl (List.map (cS (cS cI)) jobs))), (5, (.row (.top 500000) 38)), (10, (.sl (List.map cI order))), (11, (vI (order.length : Int))), (12, (vI s349.1))], [(500000, .row 38 [(0, 3)] (List.map (cS cI) x521))]⟩)) (setup_join_l1 x482) (0, s349.2) x521 (by kernel_rfl) (here (by kernel_rfl)) hx521 ?_ ?_ ?_
      · intro s496 r h
        refine sem_seq (by kernel_rfl) ?_
        refine sem_region (by kernel_rfl) ?_
        refine evs_run 1 (by kernel_rfl) ?_
        refine evs_endS (by kernel_rfl) (fun τ hτ => ?_)
        refine th_normalS hτ ⟨[(0, (.sl (List.map (cS (cS cI)) jobs))), (5, (.row (.top 500000) 38)), (10, (.sl (List.map cI order))), (11, (vI (order.length : Int))), (12, (vI s349.1)), (19, (.sl (List.map (cS cI) x482))), (20, (vI (x482.length : Int))), (21, (vI s496.1)), (22, (vB (decide (s496.1 < (x482.length : Int)))))], [(500000, .row 38 [(0, 3)] (List.map (cS cI) s496.2))]⟩ (here (by kernel_rfl)) ?_
        refine sem_seq (by kernel_rfl) ?_
        refine sem_cond (decide (s496.1 < (x482.length : Int))) (by kernel_rfl) (by kernel_rfl) (fun hb => ?_) (fun hb => ?_)
        · replace h := iteT hb h
          refine sem_skipS (by kernel_rfl) (fun τ hτ => ?_)
          refine th_normalS hτ ⟨[(0, (.sl (List.map (cS (cS cI)) jobs))), (5, (.row (.top 500000) 38)), (10, (.sl (List.map cI order))), (11, (vI (order.length : Int))), (12, (vI s349.1)), (19, (.sl (List.map (cS cI) x482))), (20, (vI (x482.length : Int))), (21, (vI s496.1))], [(500000, .row 38 [(0, 3)] (List.map (cS cI) s496.2))]⟩ (here (by kernel_rfl)) ?_
          refine sem_seq (by kernel_rfl) ?_
          refine sem_block (by kernel_rfl) ?_
          refine sem_seq (by kernel_rfl) ?_
          refine sem_region (by kernel_rfl) ?_
          obtain ⟨x516, hx516, h⟩ := bindS h
          refine evs_op (st_idx (c := (cS cI)) (l := x482) (i := s496.1) (kd := .i64) (sz := 1) (by kernel_rfl) hx516 rfl) ?_
          refine evs_run 2 (by kernel_rfl) ?_
          refine evs_endS (by kernel_rfl) (fun τ hτ => ?_)
          refine th_normalS hτ ⟨[(0, (.sl (List.map (cS (cS cI)) jobs))), (5, (.row (.top 500000) 38)), (9, (.sl (List.map cI x516))), (10, (.sl (List.map cI order))), (11, (vI (order.length : Int))), (12, (vI s349.1)), (19, (.sl (List.map (cS cI) x482))), (20, (vI (x482.length : Int))), (21, (vI s496.1))], [(500000, .row 38 [(0, 3)] (List.map (cS cI) s496.2))]⟩ (here (by kernel_rfl)) ?_
          refine sem_region (by kernel_rfl) ?_
          refine evs_run 2 (by kernel_rfl) ?_
          obtain ⟨r519, hr519, h⟩ := bindS h
          refine evs_callS [] [(0, 700100)] [] (by kernel_rfl) (W.slices_Clone_Lint_int_ok hr519) (by kernel_rfl) (by kernel_rfl) (.inl rfl) ?_
          refine evs_at (at_buildJ (c := (cS cI)) (c2 := cI) (e := 38) (e' := 3) (d := 700100) (T := 28) (l := r519) (x := r519) (by kernel_rfl) (by kernel_rfl) (by kernel_rfl) rfl) ?_
          obtain ⟨l520, hl520, h⟩ := bindS h
          refine evs_at (at_appJ (c := (cS cI)) (l := s496.2) (l2 := [r519]) (g := 500000) (T := 28) (e := 38) (J := [(0, 3)]) (sz := 1) (d := 29) (by kernel_rfl) (by kernel_rfl) (by kernel_rfl) (by kernel_rfl) hl520) ?_
          refine evs_run 1 (by kernel_rfl) ?_
          refine evs_endS (by kernel_rfl) (fun τ hτ => ?_)
          refine bl_normal ?_
          refine th_normalS hτ ⟨[(0, (.sl (List.map (cS (cS cI)) jobs))), (5, (.row (.top 500000) 38)), (10, (.sl (List.map cI order))), (11, (vI (order.length : Int))), (12, (vI s349.1)), (19, (.sl (List.map (cS cI) x482))), (20, (vI (x482.length : Int))), (21, (vI s496.1))], [(500000, .row 38 [(0, 3)] (List.map (cS cI) l520))]⟩ (here (by kernel_rfl)) ?_
          refine sem_region (by kernel_rfl) ?_
          refine evs_run 2 (by kernel_rfl) ?_
          refine evs_endS (by kernel_rfl) (fun τ hτ => ?_)
          obtain rfl := Option.some.inj h
          exact lk_nextS hτ (here (by kernel_rfl))
        · replace h := iteF hb h
          refine sem_exitS 2 (by kernel_rfl) rfl (fun τ hτ => ?_)
          refine th_exit ?_
          obtain rfl := Option.some.inj h
          exact lk_outS hτ rfl (here (by kernel_rfl))
      · intro x
        rfl
      · intro τ hτ
        refine bl_hit (by kernel_rfl) ?_
        refine bl_normal ?_
        refine th_normalS hτ ⟨[(0, (.sl (List.map (cS (cS cI)) jobs))), (5, (.row (.top 500000) 38)), (10, (.sl (List.map cI order))), (11, (vI (order.length : Int))), (12, (vI s349.1))], [(500000, .row 38 [(0, 3)] (List.map (cS cI) x521))]⟩ (here (by kernel_rfl)) ?_
        refine sem_region (by kernel_rfl) ?_
        refine evs_run 2 (by kernel_rfl) ?_
        refine evs_endS (by kernel_rfl) (fun τ hτ => ?_)
        obtain rfl := Option.some.inj h
        exact lk_nextS hτ (here (by kernel_rfl))
    · replace h := iteF hb h
      refine sem_exitS 0 (by kernel_rfl) rfl (fun τ hτ => ?_)
      refine th_exit ?_
      obtain rfl := Option.some.inj h
      exact lk_outS hτ rfl (here (by kernel_rfl))
  · intro x
    rfl
  · intro τ hτ
    refine bl_hit (by kernel_rfl) ?_
    refine th_normalS hτ ⟨[(5, (.row (.top 500000) 38))], [(500000, .row 38 [(0, 3)] (List.map (cS cI) x522))]⟩ (here (by kernel_rfl)) ?_
    refine sem_seq (by kernel_rfl) ?_
    refine sem_region (by kernel_rfl) ?_
    refine evs_run 2 (by kernel_rfl) ?_
    refine evs_endS (by kernel_rfl) (fun τ hτ => ?_)
    refine th_normalS hτ ⟨[(4, (.row (.top 500000) 38))], [(500000, .row 38 [(0, 3)] (List.map (cS cI) x522))]⟩ (here (by kernel_rfl)) ?_
    refine sem_retS (by kernel_rfl) (fun τ hτ => ?_)
    obtain rfl := Option.some.inj h
    exact rk_ret hτ [(4, (.row (.top 0) 38))] (subR_prep [] [(500000, 0)] (by kernel_rfl) rfl rfl (by kernel_rfl)) (by kernel_rfl)
theorem W.sheetmetalref05_jobsError_ok {jobs : (List (List (List Int)))} {r : Int} (h : sheetmetalref05_jobsError jobs = some r) : PC G.P 59 [(.sl (List.map (cS (cS cI)) jobs))] [] (vI r) [] := by
  refine pc_of G (fn := Try.f59) Try.func59 (by kernel_rfl) (by kernel_rfl) (by kernel_rfl) (by kernel_rfl) (by kernel_rfl) ?_
  refine sem_set ⟨[(0, (.sl (List.map (cS (cS cI)) jobs)))], []⟩ (by kernel_rfl) ?_
  refine sem_seq (by kernel_rfl) ?_
  refine sem_region (by kernel_rfl) ?_
  refine evs_run 1 (by kernel_rfl) ?_
  refine evs_endS (by kernel_rfl) (fun τ hτ => ?_)
  refine th_normalS hτ ⟨[(0, (.sl (List.map (cS (cS cI)) jobs)))], []⟩ (here (by kernel_rfl)) ?_
  refine sem_seq (by kernel_rfl) ?_
  refine sem_seq (by kernel_rfl) ?_
  refine sem_region (by kernel_rfl) ?_
  refine evs_run 1 (by kernel_rfl) ?_
  refine evs_op (st_len (c := (cS (cS cI))) (l := jobs) (x := (.sl (List.map (cS (cS cI)) jobs))) (by kernel_rfl) (by kernel_rfl)) ?_
  refine evs_run 1 (by kernel_rfl) ?_
  refine evs_endS (by kernel_rfl) (fun τ hτ => ?_)
  refine th_normalS hτ ⟨[(0, (.sl (List.map (cS (cS cI)) jobs))), (7, (vB (decide ((jobs.length : Int) > 4))))], []⟩ (here (by kernel_rfl)) ?_
  refine sem_cond (decide ((jobs.length : Int) > 4)) (by kernel_rfl) (by kernel_rfl) (fun hb => ?_) (fun hb => ?_)
  · replace h := iteT hb h
    refine sem_seq (by kernel_rfl) ?_
    refine sem_region (by kernel_rfl) ?_
    refine evs_run 1 (by kernel_rfl) ?_
    refine evs_endS (by kernel_rfl) (fun τ hτ => ?_)
    refine th_normalS hτ ⟨[(2, (vI 4))], []⟩ (here (by kernel_rfl)) ?_
    refine sem_retS (by kernel_rfl) (fun τ hτ => ?_)
    refine th_ret ?_
    obtain rfl := Option.some.inj h
    exact rk_ret hτ [(2, (vI 4))] (here (by kernel_rfl)) (by kernel_rfl)
  · replace h := iteF hb h
    refine sem_skipS (by kernel_rfl) (fun τ hτ => ?_)
    refine th_normalS hτ ⟨[(0, (.sl (List.map (cS (cS cI)) jobs)))], []⟩ (here (by kernel_rfl)) ?_
    refine sem_seq (by kernel_rfl) ?_
    refine sem_seq (by kernel_rfl) ?_
    refine sem_region (by kernel_rfl) ?_
    refine evs_run 1 (by kernel_rfl) ?_
    refine evs_endS (by kernel_rfl) (fun τ hτ => ?_)
    refine th_normalS hτ ⟨[(0, (.sl (List.map (cS (cS cI)) jobs))), (3, (vI 0))], []⟩ (here (by kernel_rfl)) ?_
    refine sem_block (by kernel_rfl) ?_
    obtain ⟨x56, hx56, h⟩ := bindS h
    refine sem_loopS (fun (s39 : Int) => ⟨[(0, (.sl (List.map (cS (cS cI)) jobs))), (3, (vI s39))], []⟩) (fun (x56 : Int ⊕ Unit) => match x56 with | .inl j57 => (.ret, ⟨[(2, (vI j57))], []⟩) | .inr j58 => (.exit 0, ⟨[], []⟩)) (sheetmetalref05_jobsError_l1 jobs) 0 x56 (by kernel_rfl) (here (by kernel_rfl)) hx56 ?_ ?_ ?_
    · intro s39 r h
      refine sem_seq (by kernel_rfl) ?_
      refine sem_seq (by kernel_rfl) ?_
      refine sem_region (by kernel_rfl) ?_
      refine evs_run 2 (by kernel_rfl) ?_
      refine evs_op (st_len (c := (cS (cS cI))) (l := jobs) (x := (.sl (List.map (cS (cS cI)) jobs))) (by kernel_rfl) (by kernel_rfl)) ?_
      refine evs_run 1 (by kernel_rfl) ?_
      refine evs_endS (by kernel_rfl) (fun τ hτ => ?_)
      refine th_normalS hτ ⟨[(0, (.sl (List.map (cS (cS cI)) jobs))), (3, (vI s39)), (11, (vB (decide (s39 < (jobs.length : Int)))))], []⟩ (here (by kernel_rfl)) ?_
      refine sem_cond (decide (s39 < (jobs.length : Int))) (by kernel_rfl) (by kernel_rfl) (fun hb => ?_) (fun hb => ?_)
      · replace h := iteT hb h
        refine sem_skipS (by kernel_rfl) (fun τ hτ => ?_)
        refine th_normalS hτ ⟨[(0, (.sl (List.map (cS (cS cI)) jobs))), (3, (vI s39))], []⟩ (here (by kernel_rfl)) ?_
        refine sem_seq (by kernel_rfl) ?_
        refine sem_block (by kernel_rfl) ?_
        refine sem_seq (by kernel_rfl) ?_
        refine sem_region (by kernel_rfl) ?_
        refine evs_run 2 (by kernel_rfl) ?_
        obtain ⟨x54, hx54, h⟩ := bindS h
        refine evs_op (st_idx (c := (cS (cS cI))) (l := jobs) (i := s39) (kd := .i64) (sz := 1) (by kernel_rfl) hx54 rfl) ?_
        refine evs_run 1 (by kernel_rfl) ?_
        obtain ⟨r55, hr55, h⟩ := bindS h
        refine evs_callP [] (by kernel_rfl) (W.sheetmetalref05_Validate_ok hr55) (by kernel_rfl) (.inl rfl) (by kernel_rfl) ?_
        refine evs_run 1 (by kernel_rfl) ?_
        refine evs_endS (by kernel_rfl) (fun τ hτ => ?_)
        refine th_normalS hτ ⟨[(0, (.sl (List.map (cS (cS cI)) jobs))), (3, (vI s39)), (4, (vI r55))], []⟩ (here (by kernel_rfl)) ?_
        refine sem_seq (by kernel_rfl) ?_
        refine sem_region (by kernel_rfl) ?_
        refine evs_run 2 (by kernel_rfl) ?_
        refine evs_endS (by kernel_rfl) (fun τ hτ => ?_)
        refine th_normalS hτ ⟨[(0, (.sl (List.map (cS (cS cI)) jobs))), (3, (vI s39)), (4, (vI r55)), (20, (vB (r55 != 0)))], []⟩ (here (by kernel_rfl)) ?_
        refine sem_cond (r55 != 0) (by kernel_rfl) (by kernel_rfl) (fun hb => ?_) (fun hb => ?_)
        · replace h := iteT hb h
          refine sem_seq (by kernel_rfl) ?_
          refine sem_region (by kernel_rfl) ?_
          refine evs_run 2 (by kernel_rfl) ?_
          refine evs_endS (by kernel_rfl) (fun τ hτ => ?_)
          refine th_normalS hτ ⟨[(2, (vI r55))], []⟩ (here (by kernel_rfl)) ?_
          refine sem_retS (by kernel_rfl) (fun τ hτ => ?_)
          refine bl_ret ?_
          refine th_ret ?_
          obtain rfl := Option.some.inj h
          exact lk_outS hτ rfl (here (by kernel_rfl))
        · replace h := iteF hb h
          refine sem_skipS (by kernel_rfl) (fun τ hτ => ?_)
          refine bl_normal ?_
          refine th_normalS hτ ⟨[(0, (.sl (List.map (cS (cS cI)) jobs))), (3, (vI s39))], []⟩ (here (by kernel_rfl)) ?_
          refine sem_region (by kernel_rfl) ?_
          refine evs_run 3 (by kernel_rfl) ?_
          refine evs_endS (by kernel_rfl) (fun τ hτ => ?_)
          obtain rfl := Option.some.inj h
          exact lk_nextS hτ (here (by kernel_rfl))
      · replace h := iteF hb h
        refine sem_exitS 0 (by kernel_rfl) rfl (fun τ hτ => ?_)
        refine th_exit ?_
        obtain rfl := Option.some.inj h
        exact lk_outS hτ rfl (here (by kernel_rfl))
    · intro x
      rcases x with _ | _ <;> rfl
    · intro τ hτ
      rcases x56 with j57 | j58
      · refine bl_ret ?_
        refine th_ret ?_
        obtain rfl := Option.some.inj h
        exact rk_ret hτ [(2, (vI j57))] (here (by kernel_rfl)) (by kernel_rfl)
      · refine bl_hit (by kernel_rfl) ?_
        refine th_normalS hτ ⟨[], []⟩ (here (by kernel_rfl)) ?_
        refine sem_seq (by kernel_rfl) ?_
        refine sem_region (by kernel_rfl) ?_
        refine evs_run 1 (by kernel_rfl) ?_
        refine evs_endS (by kernel_rfl) (fun τ hτ => ?_)
        refine th_normalS hτ ⟨[(2, (vI 0))], []⟩ (here (by kernel_rfl)) ?_
        refine sem_retS (by kernel_rfl) (fun τ hτ => ?_)
        obtain rfl := Option.some.inj h
        exact rk_ret hτ [(2, (vI 0))] (here (by kernel_rfl)) (by kernel_rfl)
theorem W.sheetmetalref05_permutation_ok {order : (List Int)} {n : Int} {r : Bool} (h : sheetmetalref05_permutation order n = some r) : PC G.P 60 [(.sl (List.map cI order)), (vI n)] [] (vB r) [] := by
  refine pc_of G (fn := Try.f60) Try.func60 (by kernel_rfl) (by kernel_rfl) (by kernel_rfl) (by kernel_rfl) (by kernel_rfl) ?_
  refine sem_set ⟨[(0, (.sl (List.map cI order))), (1, (vI n))], []⟩ (by kernel_rfl) ?_
  refine sem_seq (by kernel_rfl) ?_
  refine sem_region (by kernel_rfl) ?_
  refine evs_run 1 (by kernel_rfl) ?_
  refine evs_endS (by kernel_rfl) (fun τ hτ => ?_)
  refine th_normalS hτ ⟨[(0, (.sl (List.map cI order))), (1, (vI n))], []⟩ (here (by kernel_rfl)) ?_
  refine sem_seq (by kernel_rfl) ?_
  refine sem_seq (by kernel_rfl) ?_
  refine sem_region (by kernel_rfl) ?_
  refine evs_run 1 (by kernel_rfl) ?_
  refine evs_op (st_len (c := cI) (l := order) (x := (.sl (List.map cI order))) (by kernel_rfl) (by kernel_rfl)) ?_
  refine evs_run 2 (by kernel_rfl) ?_
  refine evs_endS (by kernel_rfl) (fun τ hτ => ?_)
  refine th_normalS hτ ⟨[(0, (.sl (List.map cI order))), (1, (vI n)), (10, (vB ((order.length : Int) != n)))], []⟩ (here (by kernel_rfl)) ?_
  refine sem_cond ((order.length : Int) != n) (by kernel_rfl) (by kernel_rfl) (fun hb => ?_) (fun hb => ?_)
  · replace h := iteT hb h
    refine sem_seq (by kernel_rfl) ?_
    refine sem_region (by kernel_rfl) ?_
    refine evs_run 1 (by kernel_rfl) ?_
    refine evs_endS (by kernel_rfl) (fun τ hτ => ?_)
    refine th_normalS hτ ⟨[(4, (vB false))], []⟩ (here (by kernel_rfl)) ?_
    refine sem_retS (by kernel_rfl) (fun τ hτ => ?_)
    refine th_ret ?_
    obtain rfl := Option.some.inj h
    exact rk_ret hτ [(4, (vB false))] (here (by kernel_rfl)) (by kernel_rfl)
  · replace h := iteF hb h
    refine sem_skipS (by kernel_rfl) (fun τ hτ => ?_)
    refine th_normalS hτ ⟨[(0, (.sl (List.map cI order))), (1, (vI n))], []⟩ (here (by kernel_rfl)) ?_
    refine sem_seq (by kernel_rfl) ?_
    refine sem_region (by kernel_rfl) ?_
    refine evs_run 1 (by kernel_rfl) ?_
    obtain ⟨l2, hl2, h⟩ := bindS h
    refine evs_op (st_mk (c := cB) (z := false) (n := n) (e := 4) (d := 12) (zs := [(vB false)]) (k1 := .i64) (k2 := .i64) (by kernel_rfl) rfl hl2) ?_
    refine evs_run 1 (by kernel_rfl) ?_
    refine evs_endS (by kernel_rfl) (fun τ hτ => ?_)
    refine th_normalS hτ ⟨[(0, (.sl (List.map cI order))), (1, (vI n)), (5, (.row (.top 12) 4))], [(12, .row 4 [] (List.map cB l2))]⟩ (here (by kernel_rfl)) ?_
    refine sem_seq (by kernel_rfl) ?_
    refine sem_seq (by kernel_rfl) ?_
    refine sem_region (by kernel_rfl) ?_
    refine evs_run 1 (by kernel_rfl) ?_
    refine evs_endS (by kernel_rfl) (fun τ hτ => ?_)
    refine th_normalS hτ ⟨[(0, (.sl (List.map cI order))), (1, (vI n)), (5, (.row (.top 12) 4)), (6, (vI 0))], [(12, .row 4 [] (List.map cB l2))]⟩ (here (by kernel_rfl)) ?_
    refine sem_block (by kernel_rfl) ?_
    obtain ⟨x274, hx274, h⟩ := bindS h
    refine sem_loopS (fun (s185 : Int × (List Bool)) => ⟨[(0, (.sl (List.map cI order))), (1, (vI n)), (5, (.row (.top 500000) 4)), (6, (vI s185.1))], [(500000, .row 4 [] (List.map cB s185.2))]⟩) (fun (x274 : Unit ⊕ Unit) => match x274 with | .inl j275 => (.ret, ⟨[(4, (vB false))], []⟩) | .inr j276 => (.exit 0, ⟨[], []⟩)) (sheetmetalref05_permutation_l1 order n) (0, l2) x274 (by kernel_rfl) (subR_prep [] [(12, 500000)] (by kernel_rfl) rfl rfl (by kernel_rfl)) hx274 ?_ ?_ ?_
    · intro s185 r h
      refine sem_seq (by kernel_rfl) ?_
      refine sem_seq (by kernel_rfl) ?_
      refine sem_region (by kernel_rfl) ?_
      refine evs_run 3 (by kernel_rfl) ?_
      refine evs_endS (by kernel_rfl) (fun τ hτ => ?_)
      refine th_normalS hτ ⟨[(0, (.sl (List.map cI order))), (1, (vI n)), (5, (.row (.top 500000) 4)), (6, (vI s185.1)), (15, (vB (decide (s185.1 < n))))], [(500000, .row 4 [] (List.map cB s185.2))]⟩ (here (by kernel_rfl)) ?_
      refine sem_cond (decide (s185.1 < n)) (by kernel_rfl) (by kernel_rfl) (fun hb => ?_) (fun hb => ?_)
      · replace h := iteT hb h
        refine sem_skipS (by kernel_rfl) (fun τ hτ => ?_)
        refine th_normalS hτ ⟨[(0, (.sl (List.map cI order))), (1, (vI n)), (5, (.row (.top 500000) 4)), (6, (vI s185.1))], [(500000, .row 4 [] (List.map cB s185.2))]⟩ (here (by kernel_rfl)) ?_
        refine sem_seq (by kernel_rfl) ?_
        refine sem_block (by kernel_rfl) ?_
        refine sem_seq (by kernel_rfl) ?_
        refine sem_seq (by kernel_rfl) ?_
        obtain ⟨j265, hj265, h⟩ := bindS h
        refine sem_regionC ⟨[(0, (.sl (List.map cI order))), (1, (vI n)), (5, (.row (.top 500000) 4)), (6, (vI s185.1)), (34, (vB j265))], [(500000, .row 4 [] (List.map cB s185.2))]⟩ (by kernel_rfl) ?_ (fun τ hτ => ?_)
        · replace h := hj265
          refine evs_run 2 (by kernel_rfl) ?_
          obtain ⟨x266, hx266, h⟩ := bindS h
          refine evs_op (st_idx (c := cI) (l := order) (i := s185.1) (kd := .i64) (sz := 1) (by kernel_rfl) hx266 rfl) ?_
          refine evs_run 3 (by kernel_rfl) ?_
          obtain ⟨r267, hr267, h⟩ := bindS h
          refine evs_callP [] (by kernel_rfl) (W.sheetmetalref05_within_ok hr267) (by kernel_rfl) (.inl rfl) (by kernel_rfl) ?_
          refine evs_run 2 (by kernel_rfl) ?_
          refine evs_split r267 (fun b0 => ⟨[(0, (.sl (List.map cI order))), (1, (vI n)), (5, (.row (.top 500000) 4)), (6, (vI s185.1)), (26, (vB (!b0)))], [(500000, .row 4 [] (List.map cB s185.2))]⟩) (by kernel_rfl) (fun hb => ?_) (fun hb => ?_)
          · replace h := iteT hb h
            refine evs_run 3 (by kernel_rfl) ?_
            obtain ⟨x268, hx268, h⟩ := bindS h
            refine evs_op (st_idx (c := cI) (l := order) (i := s185.1) (kd := .i64) (sz := 1) (by kernel_rfl) hx268 rfl) ?_
            refine evs_run 1 (by kernel_rfl) ?_
            obtain ⟨x269, hx269, h⟩ := bindS h
            refine evs_op (st_idxO (c := cB) (l := s185.2) (i := x268) (kd := .i64) (kk := (.top 500000)) (e := 4) (sz := 1) (by kernel_rfl) (by kernel_rfl) hx269 rfl) ?_
            refine evs_op (st_ldO (c := cB) (l := s185.2) (i := (Int.toNat x268)) (v := (vB x269)) (agg := false) (sz := 1) (kk := (.top 500000)) (e := 4) (off := 0) (J := []) (by kernel_rfl) (by kernel_rfl) (by kernel_rfl) ((idxS hx269).2) (by kernel_rfl)) ?_
            refine evs_run 1 (by kernel_rfl) ?_
            refine evs_endS (by kernel_rfl) (fun τ hτ => ?_)
            obtain rfl := Option.some.inj h
            exact leafC hτ (here (by kernel_rfl))
          · replace h := iteF hb h
            refine evs_run 8 (by kernel_rfl) ?_
            refine evs_endS (by kernel_rfl) (fun τ hτ => ?_)
            obtain rfl := Option.some.inj h
            exact leafC hτ (here (by kernel_rfl))
        refine th_normalS hτ ⟨[(0, (.sl (List.map cI order))), (1, (vI n)), (5, (.row (.top 500000) 4)), (6, (vI s185.1)), (34, (vB j265))], [(500000, .row 4 [] (List.map cB s185.2))]⟩ (here (by kernel_rfl)) ?_
        refine sem_cond j265 (by kernel_rfl) (by kernel_rfl) (fun hb => ?_) (fun hb => ?_)
        · replace h := iteT hb h
          refine sem_seq (by kernel_rfl) ?_
          refine sem_region (by kernel_rfl) ?_
          refine evs_run 1 (by kernel_rfl) ?_
          refine evs_endS (by kernel_rfl) (fun τ hτ => ?_)
          refine th_normalS hτ ⟨[(4, (vB false))], []⟩ (here (by kernel_rfl)) ?_
          refine sem_retS (by kernel_rfl) (fun τ hτ => ?_)
          refine th_ret ?_
          refine bl_ret ?_
          refine th_ret ?_
          obtain rfl := Option.some.inj h
          exact lk_outS hτ rfl (here (by kernel_rfl))
        · replace h := iteF hb h
          refine sem_skipS (by kernel_rfl) (fun τ hτ => ?_)
          refine th_normalS hτ ⟨[(0, (.sl (List.map cI order))), (1, (vI n)), (5, (.row (.top 500000) 4)), (6, (vI s185.1))], [(500000, .row 4 [] (List.map cB s185.2))]⟩ (here (by kernel_rfl)) ?_
          refine sem_region (by kernel_rfl) ?_
          refine evs_run 3 (by kernel_rfl) ?_
          obtain ⟨x272, hx272, h⟩ := bindS h
          refine evs_op (st_idx (c := cI) (l := order) (i := s185.1) (kd := .i64) (sz := 1) (by kernel_rfl) hx272 rfl) ?_
          refine evs_run 1 (by kernel_rfl) ?_
          obtain ⟨x273, hx273, h⟩ := bindS h
          refine evs_op (st_idxO (c := cB) (l := s185.2) (i := x272) (kd := .i64) (kk := (.top 500000)) (e := 4) (sz := 1) (by kernel_rfl) (by kernel_rfl) hx273 rfl) ?_
          refine evs_op (st_stO (c := cB) (l := s185.2) (i := (Int.toNat x272)) (x := x273) (x' := true) (v := (vB true)) (agg := false) (sz := 1) (kk := (.top 500000)) (e := 4) (off := 0) (J := []) (o := .row 4 [] (List.map cB (List.set s185.2 (Int.toNat x272) true))) (by kernel_rfl) (by kernel_rfl) (by kernel_rfl) ((idxS hx273).2) (by kernel_rfl) (by kernel_rfl) (by kernel_rfl)) ?_
          refine evs_endS (by kernel_rfl) (fun τ hτ => ?_)
          refine bl_normal ?_
          refine th_normalS hτ ⟨[(0, (.sl (List.map cI order))), (1, (vI n)), (5, (.row (.top 500000) 4)), (6, (vI s185.1))], [(500000, .row 4 [] (List.map cB (List.set s185.2 (Int.toNat x272) true)))]⟩ (here (by kernel_rfl)) ?_
          refine sem_region (by kernel_rfl) ?_
          refine evs_run 3 (by kernel_rfl) ?_
          refine evs_endS (by kernel_rfl) (fun τ hτ => ?_)
          obtain rfl := Option.some.inj h
          exact lk_nextS hτ (here (by kernel_rfl))
      · replace h := iteF hb h
        refine sem_exitS 0 (by kernel_rfl) rfl (fun τ hτ => ?_)
        refine th_exit ?_
        obtain rfl := Option.some.inj h
        exact lk_outS hτ rfl (here (by kernel_rfl))
    · intro x
      rcases x with _ | _ <;> rfl
    · intro τ hτ
      rcases x274 with j275 | j276
      · refine bl_ret ?_
        refine th_ret ?_
        obtain rfl := Option.some.inj h
        exact rk_ret hτ [(4, (vB false))] (here (by kernel_rfl)) (by kernel_rfl)
      · refine bl_hit (by kernel_rfl) ?_
        refine th_normalS hτ ⟨[], []⟩ (here (by kernel_rfl)) ?_
        refine sem_seq (by kernel_rfl) ?_
        refine sem_region (by kernel_rfl) ?_
        refine evs_run 1 (by kernel_rfl) ?_
        refine evs_endS (by kernel_rfl) (fun τ hτ => ?_)
        refine th_normalS hτ ⟨[(4, (vB true))], []⟩ (here (by kernel_rfl)) ?_
        refine sem_retS (by kernel_rfl) (fun τ hτ => ?_)
        obtain rfl := Option.some.inj h
        exact rk_ret hτ [(4, (vB true))] (here (by kernel_rfl)) (by kernel_rfl)
theorem W.sheetmetalref05_total_ok {jobs : (List (List (List Int)))} {r : Int} (h : sheetmetalref05_total jobs = some r) : PC G.P 61 [(.sl (List.map (cS (cS cI)) jobs))] [] (vI r) [] := by
  refine pc_of G (fn := Try.f61) Try.func61 (by kernel_rfl) (by kernel_rfl) (by kernel_rfl) (by kernel_rfl) (by kernel_rfl) ?_
  refine sem_set ⟨[(0, (.sl (List.map (cS (cS cI)) jobs)))], []⟩ (by kernel_rfl) ?_
  refine sem_seq (by kernel_rfl) ?_
  refine sem_region (by kernel_rfl) ?_
  refine evs_run 1 (by kernel_rfl) ?_
  refine evs_endS (by kernel_rfl) (fun τ hτ => ?_)
  refine th_normalS hτ ⟨[(0, (.sl (List.map (cS (cS cI)) jobs)))], []⟩ (here (by kernel_rfl)) ?_
  refine sem_seq (by kernel_rfl) ?_
  refine sem_region (by kernel_rfl) ?_
  refine evs_run 1 (by kernel_rfl) ?_
  refine evs_endS (by kernel_rfl) (fun τ hτ => ?_)
  refine th_normalS hτ ⟨[(0, (.sl (List.map (cS (cS cI)) jobs))), (3, (vI 0))], []⟩ (here (by kernel_rfl)) ?_
  refine sem_seq (by kernel_rfl) ?_
  refine sem_seq (by kernel_rfl) ?_
  refine sem_region (by kernel_rfl) ?_
  refine evs_run 1 (by kernel_rfl) ?_
  refine evs_endS (by kernel_rfl) (fun τ hτ => ?_)
  refine th_normalS hτ ⟨[(0, (.sl (List.map (cS (cS cI)) jobs))), (3, (vI 0)), (4, (vI 0))], []⟩ (here (by kernel_rfl)) ?_
  refine sem_block (by kernel_rfl) ?_
  obtain ⟨x30, hx30, h⟩ := bindS h
  refine sem_loopS (fun (s21 : Int × Int) => ⟨[(0, (.sl (List.map (cS (cS cI)) jobs))), (3, (vI s21.1)), (4, (vI s21.2))], []⟩) (fun (x30 : Int) => (.exit 0, ⟨[(3, (vI x30))], []⟩)) (sheetmetalref05_total_l1 jobs) (0, 0) x30 (by kernel_rfl) (here (by kernel_rfl)) hx30 ?_ ?_ ?_
  · intro s21 r h
    refine sem_seq (by kernel_rfl) ?_
    refine sem_seq (by kernel_rfl) ?_
    refine sem_region (by kernel_rfl) ?_
    refine evs_run 2 (by kernel_rfl) ?_
    refine evs_op (st_len (c := (cS (cS cI))) (l := jobs) (x := (.sl (List.map (cS (cS cI)) jobs))) (by kernel_rfl) (by kernel_rfl)) ?_
    refine evs_run 1 (by kernel_rfl) ?_
    refine evs_endS (by kernel_rfl) (fun τ hτ => ?_)
    refine th_normalS hτ ⟨[(0, (.sl (List.map (cS (cS cI)) jobs))), (3, (vI s21.1)), (4, (vI s21.2)), (8, (vB (decide (s21.2 < (jobs.length : Int)))))], []⟩ (here (by kernel_rfl)) ?_
    refine sem_cond (decide (s21.2 < (jobs.length : Int))) (by kernel_rfl) (by kernel_rfl) (fun hb => ?_) (fun hb => ?_)
    · replace h := iteT hb h
      refine sem_skipS (by kernel_rfl) (fun τ hτ => ?_)
      refine th_normalS hτ ⟨[(0, (.sl (List.map (cS (cS cI)) jobs))), (3, (vI s21.1)), (4, (vI s21.2))], []⟩ (here (by kernel_rfl)) ?_
      refine sem_seq (by kernel_rfl) ?_
      refine sem_block (by kernel_rfl) ?_
      refine sem_region (by kernel_rfl) ?_
      refine evs_run 3 (by kernel_rfl) ?_
      obtain ⟨x29, hx29, h⟩ := bindS h
      refine evs_op (st_idx (c := (cS (cS cI))) (l := jobs) (i := s21.2) (kd := .i64) (sz := 1) (by kernel_rfl) hx29 rfl) ?_
      refine evs_run 1 (by kernel_rfl) ?_
      refine evs_op (st_len (c := (cS cI)) (l := x29) (x := (.sl (List.map (cS cI) x29))) (by kernel_rfl) (by kernel_rfl)) ?_
      refine evs_run 2 (by kernel_rfl) ?_
      refine evs_endS (by kernel_rfl) (fun τ hτ => ?_)
      refine bl_normal ?_
      refine th_normalS hτ ⟨[(0, (.sl (List.map (cS (cS cI)) jobs))), (3, (vI (iadd s21.1 (x29.length : Int)))), (4, (vI s21.2))], []⟩ (here (by kernel_rfl)) ?_
      refine sem_region (by kernel_rfl) ?_
      refine evs_run 3 (by kernel_rfl) ?_
      refine evs_endS (by kernel_rfl) (fun τ hτ => ?_)
      obtain rfl := Option.some.inj h
      exact lk_nextS hτ (here (by kernel_rfl))
    · replace h := iteF hb h
      refine sem_exitS 0 (by kernel_rfl) rfl (fun τ hτ => ?_)
      refine th_exit ?_
      obtain rfl := Option.some.inj h
      exact lk_outS hτ rfl (here (by kernel_rfl))
  · intro x
    rfl
  · intro τ hτ
    refine bl_hit (by kernel_rfl) ?_
    refine th_normalS hτ ⟨[(3, (vI x30))], []⟩ (here (by kernel_rfl)) ?_
    refine sem_seq (by kernel_rfl) ?_
    refine sem_region (by kernel_rfl) ?_
    refine evs_run 2 (by kernel_rfl) ?_
    refine evs_endS (by kernel_rfl) (fun τ hτ => ?_)
    refine th_normalS hτ ⟨[(2, (vI x30))], []⟩ (here (by kernel_rfl)) ?_
    refine sem_retS (by kernel_rfl) (fun τ hτ => ?_)
    obtain rfl := Option.some.inj h
    exact rk_ret hτ [(2, (vI x30))] (here (by kernel_rfl)) (by kernel_rfl)
theorem W.sheetmetalref05_CopySet_ok {l : (List Int)} {r : (List Int)} (h : sheetmetalref05_CopySet l = some r) : PC G.P 80 [(.sl (List.map cI l))] [] (.row (.top 0) 3) [(0, .row 3 [] (List.map cI r))] := by
  refine pc_of G (fn := Try.f80) Try.func80 (by kernel_rfl) (by kernel_rfl) (by kernel_rfl) (by kernel_rfl) (by kernel_rfl) ?_
  refine sem_set ⟨[(0, (.sl (List.map cI l)))], []⟩ (by kernel_rfl) ?_
  refine sem_seq (by kernel_rfl) ?_
  refine sem_region (by kernel_rfl) ?_
  refine evs_run 1 (by kernel_rfl) ?_
  refine evs_endS (by kernel_rfl) (fun τ hτ => ?_)
  refine th_normalS hτ ⟨[(0, (.sl (List.map cI l)))], []⟩ (here (by kernel_rfl)) ?_
  refine sem_seq (by kernel_rfl) ?_
  refine sem_region (by kernel_rfl) ?_
  refine evs_run 1 (by kernel_rfl) ?_
  refine evs_endS (by kernel_rfl) (fun τ hτ => ?_)
  refine th_normalS hτ ⟨[(0, (.sl (List.map cI l))), (3, (.row (.top 3) 3))], [(3, .row 3 [] (List.map cI []))]⟩ (here (by kernel_rfl)) ?_
  refine sem_seq (by kernel_rfl) ?_
  refine sem_seq (by kernel_rfl) ?_
  refine sem_region (by kernel_rfl) ?_
  refine evs_run 1 (by kernel_rfl) ?_
  refine evs_endS (by kernel_rfl) (fun τ hτ => ?_)
  refine th_normalS hτ ⟨[(0, (.sl (List.map cI l))), (3, (.row (.top 3) 3)), (4, (vI 0))], [(3, .row 3 [] (List.map cI []))]⟩ (here (by kernel_rfl)) ?_
  refine sem_block (by kernel_rfl) ?_
  obtain ⟨x54, hx54, h⟩ := bindS h
  refine sem_loopS (fun (s37 : Int × (List Int)) => ⟨[(0, (.sl (List.map cI l))), (3, (.row (.top 500000) 3)), (4, (vI s37.1))], [(500000, .row 3 [] (List.map cI s37.2))]⟩) (fun (x54 : (List Int)) => (.exit 0, ⟨[(3, (.row (.top 500000) 3))], [(500000, .row 3 [] (List.map cI x54))]⟩)) (sheetmetalref05_CopySet_l1 l) (0, []) x54 (by kernel_rfl) (subR_prep [] [(3, 500000)] (by kernel_rfl) rfl rfl (by kernel_rfl)) hx54 ?_ ?_ ?_
  · intro s37 r h
    refine sem_seq (by kernel_rfl) ?_
    refine sem_seq (by kernel_rfl) ?_
    refine sem_region (by kernel_rfl) ?_
    refine evs_run 2 (by kernel_rfl) ?_
    refine evs_op (st_len (c := cI) (l := l) (x := (.sl (List.map cI l))) (by kernel_rfl) (by kernel_rfl)) ?_
    refine evs_run 1 (by kernel_rfl) ?_
    refine evs_endS (by kernel_rfl) (fun τ hτ => ?_)
    refine th_normalS hτ ⟨[(0, (.sl (List.map cI l))), (3, (.row (.top 500000) 3)), (4, (vI s37.1)), (8, (vB (decide (s37.1 < (l.length : Int)))))], [(500000, .row 3 [] (List.map cI s37.2))]⟩ (here (by kernel_rfl)) ?_
    refine sem_cond (decide (s37.1 < (l.length : Int))) (by kernel_rfl) (by kernel_rfl) (fun hb => ?_) (fun hb => ?_)
    · replace h := iteT hb h
      refine sem_skipS (by kernel_rfl) (fun τ hτ => ?_)
      refine th_normalS hτ ⟨[(0, (.sl (List.map cI l))), (3, (.row (.top 500000) 3)), (4, (vI s37.1))], [(500000, .row 3 [] (List.map cI s37.2))]⟩ (here (by kernel_rfl)) ?_
      refine sem_seq (by kernel_rfl) ?_
      refine sem_block (by kernel_rfl) ?_
      refine sem_region (by kernel_rfl) ?_
      refine evs_run 3 (by kernel_rfl) ?_
      obtain ⟨x52, hx52, h⟩ := bindS h
      refine evs_op (st_idx (c := cI) (l := l) (i := s37.1) (kd := .i64) (sz := 1) (by kernel_rfl) hx52 rfl) ?_
      refine evs_run 2 (by kernel_rfl) ?_
      obtain ⟨l53, hl53, h⟩ := bindS h
      refine evs_op (st_app (c := cI) (l := s37.2) (l2 := [x52]) (x := (.sl (List.map cI [x52]))) (g := 500000) (e := 3) (sz := 1) (d := 17) (by kernel_rfl) (by kernel_rfl) (by kernel_rfl) (by kernel_rfl) (fun _ => rfl) rfl hl53) ?_
      refine evs_run 1 (by kernel_rfl) ?_
      refine evs_endS (by kernel_rfl) (fun τ hτ => ?_)
      refine bl_normal ?_
      refine th_normalS hτ ⟨[(0, (.sl (List.map cI l))), (3, (.row (.top 500000) 3)), (4, (vI s37.1))], [(500000, .row 3 [] (List.map cI l53))]⟩ (here (by kernel_rfl)) ?_
      refine sem_region (by kernel_rfl) ?_
      refine evs_run 3 (by kernel_rfl) ?_
      refine evs_endS (by kernel_rfl) (fun τ hτ => ?_)
      obtain rfl := Option.some.inj h
      exact lk_nextS hτ (here (by kernel_rfl))
    · replace h := iteF hb h
      refine sem_exitS 0 (by kernel_rfl) rfl (fun τ hτ => ?_)
      refine th_exit ?_
      obtain rfl := Option.some.inj h
      exact lk_outS hτ rfl (here (by kernel_rfl))
  · intro x
    rfl
  · intro τ hτ
    refine bl_hit (by kernel_rfl) ?_
    refine th_normalS hτ ⟨[(3, (.row (.top 500000) 3))], [(500000, .row 3 [] (List.map cI x54))]⟩ (here (by kernel_rfl)) ?_
    refine sem_seq (by kernel_rfl) ?_
    refine sem_region (by kernel_rfl) ?_
    refine evs_run 2 (by kernel_rfl) ?_
    refine evs_endS (by kernel_rfl) (fun τ hτ => ?_)
    refine th_normalS hτ ⟨[(2, (.row (.top 500000) 3))], [(500000, .row 3 [] (List.map cI x54))]⟩ (here (by kernel_rfl)) ?_
    refine sem_retS (by kernel_rfl) (fun τ hτ => ?_)
    obtain rfl := Option.some.inj h
    exact rk_ret hτ [(2, (.row (.top 0) 3))] (subR_prep [] [(500000, 0)] (by kernel_rfl) rfl rfl (by kernel_rfl)) (by kernel_rfl)
theorem W.sheetmetalref05_join_ok {jobs : (List (List (List Int)))} {order : (List Int)} {r : (List (List Int))} (h : sheetmetalref05_join jobs order = some r) : PC G.P 62 [(.sl (List.map (cS (cS cI)) jobs)), (.sl (List.map cI order))] [] (.row (.top 0) 38) [(0, .row 38 [] (List.map (cS cI) r))] := by
  refine pc_of G (fn := Try.f62) Try.func62 (by kernel_rfl) (by kernel_rfl) (by kernel_rfl) (by kernel_rfl) (by kernel_rfl) ?_
  refine sem_set ⟨[(0, (.sl (List.map (cS (cS cI)) jobs))), (1, (.sl (List.map cI order)))], []⟩ (by kernel_rfl) ?_
  refine sem_seq (by kernel_rfl) ?_
  refine sem_region (by kernel_rfl) ?_
  refine evs_run 1 (by kernel_rfl) ?_
  refine evs_endS (by kernel_rfl) (fun τ hτ => ?_)
  refine th_normalS hτ ⟨[(0, (.sl (List.map (cS (cS cI)) jobs))), (1, (.sl (List.map cI order)))], []⟩ (here (by kernel_rfl)) ?_
  refine sem_seq (by kernel_rfl) ?_
  refine sem_region (by kernel_rfl) ?_
  refine evs_run 1 (by kernel_rfl) ?_
  refine evs_endS (by kernel_rfl) (fun τ hτ => ?_)
  refine th_normalS hτ ⟨[(0, (.sl (List.map (cS (cS cI)) jobs))), (1, (.sl (List.map cI order))), (5, (.row (.top 5) 38))], [(5, .row 38 [] (List.map (cS cI) []))]⟩ (here (by kernel_rfl)) ?_
  refine sem_seq (by kernel_rfl) ?_
  refine sem_seq (by kernel_rfl) ?_
  refine sem_region (by kernel_rfl) ?_
  refine evs_run 1 (by kernel_rfl) ?_
  refine evs_endS (by kernel_rfl) (fun τ hτ => ?_)
  refine th_normalS hτ ⟨[(0, (.sl (List.map (cS (cS cI)) jobs))), (1, (.sl (List.map cI order))), (5, (.row (.top 5) 38)), (6, (vI 0))], [(5, .row 38 [] (List.map (cS cI) []))]⟩ (here (by kernel_rfl)) ?_
  refine sem_block (by kernel_rfl) ?_
  obtain ⟨x522, hx522, h⟩ := bindS h
  refine sem_loopS (fun (s349 : Int × (List (List Int))) => ⟨[(0, (.sl (List.map (cS (cS cI)) jobs))), (1, (.sl (List.map cI order))), (5, (.row (.top 500000) 38)), (6, (vI s349.1))], [(500000, .row 38 [] (List.map (cS cI) s349.2))]⟩) (fun (x522 : (List (List Int))) => (.exit 0, ⟨[(5, (.row (.top 500000) 38))], [(500000, .row 38 [] (List.map (cS cI) x522))]⟩)) (sheetmetalref05_join_l2 jobs order) (0, []) x522 (by kernel_rfl) (subR_prep [] [(5, 500000)] (by kernel_rfl) rfl rfl (by kernel_rfl)) hx522 ?_ ?_ ?_
  · intro s349 r h
    refine sem_seq (by kernel_rfl) ?_
    refine sem_seq (by kernel_rfl) ?_
    refine sem_region (by kernel_rfl) ?_
    refine evs_run 2 (by kernel_rfl) ?_
    refine evs_op (st_len (c := cI) (l := order) (x := (.sl (List.map cI order))) (by kernel_rfl) (by kernel_rfl)) ?_
    refine evs_run 1 (by kernel_rfl) ?_
    refine evs_endS (by kernel_rfl) (fun τ hτ => ?_)
    refine th_normalS hτ ⟨[(0, (.sl (List.map (cS (cS cI)) jobs))), (1, (.sl (List.map cI order))), (5, (.row (.top 500000) 38)), (6, (vI s349.1)), (12, (vB (decide (s349.1 < (order.length : Int)))))], [(500000, .row 38 [] (List.map (cS cI) s349.2))]⟩ (here (by kernel_rfl)) ?_
    refine sem_cond (decide (s349.1 < (order.length : Int))) (by kernel_rfl) (by kernel_rfl) (fun hb => ?_) (fun hb => ?_)
    · replace h := iteT hb h
      refine sem_skipS (by kernel_rfl) (fun τ hτ => ?_)
      refine th_normalS hτ ⟨[(0, (.sl (List.map (cS (cS cI)) jobs))), (1, (.sl (List.map cI order))), (5, (.row (.top 500000) 38)), (6, (vI s349.1))], [(500000, .row 38 [] (List.map (cS cI) s349.2))]⟩ (here (by kernel_rfl)) ?_
      refine sem_seq (by kernel_rfl) ?_
      refine sem_block (by kernel_rfl) ?_
      refine sem_seq (by kernel_rfl) ?_
      refine sem_region (by kernel_rfl) ?_
      refine evs_run 3 (by kernel_rfl) ?_
      obtain ⟨x481, hx481, h⟩ := bindS h
      refine evs_op (st_idx (c := cI) (l := order) (i := s349.1) (kd := .i64) (sz := 1) (by kernel_rfl) hx481 rfl) ?_
      refine evs_run 1 (by kernel_rfl) ?_
      obtain ⟨x482, hx482, h⟩ := bindS h
      refine evs_op (st_idx (c := (cS (cS cI))) (l := jobs) (i := x481) (kd := .i64) (sz := 1) (by kernel_rfl) hx482 rfl) ?_
      refine evs_run 2 (by kernel_rfl) ?_
      refine evs_endS (by kernel_rfl) (fun τ hτ => ?_)
      refine th_normalS hτ ⟨[(0, (.sl (List.map (cS (cS cI)) jobs))), (1, (.sl (List.map cI order))), (5, (.row (.top 500000) 38)), (6, (vI s349.1)), (7, (.sl (List.map (cS cI) x482)))], [(500000, .row 38 [] (List.map (cS cI) s349.2))]⟩ (here (by kernel_rfl)) ?_
      refine sem_seq (by kernel_rfl) ?_
      refine sem_region (by kernel_rfl) ?_
      refine evs_run 1 (by kernel_rfl) ?_
      refine evs_endS (by kernel_rfl) (fun τ hτ => ?_)
      refine th_normalS hτ ⟨[(0, (.sl (List.map (cS (cS cI)) jobs))), (1, (.sl (List.map cI order))), (5, (.row (.top 500000) 38)), (6, (vI s349.1)), (7, (.sl (List.map (cS cI) x482))), (8, (vI 0))], [(500000, .row 38 [] (List.map (cS cI) s349.2))]⟩ (here (by kernel_rfl)) ?_
      refine sem_block (by kernel_rfl) ?_
      obtain ⟨x521, hx521, h⟩ := bindS h
      refine sem_loopS (fun (s496 : Int × (List (List Int))) => ⟨[(0, (.sl (List.map (cS (cS cI)) jobs))), (1, (.sl (List.map cI order))), (5, (.row (.top 500000) 38)), (6, (vI s349.1)), (7, (.sl (List.map (cS cI) x482))), (8, (vI s496.1))], [(500000, .row 38 [] (List.map (cS cI) s496.2))]⟩) (fun (x521 : (List (List Int))) => (.exit 2, ⟨[(0, (.sl (List.map (cS (cS cI)) jobs))), (1, (.sl (List.map cI order))), (5, (.row (.top 500000) 38)), (6, (vI s349.1))], [(500000, .row 38 [] (List.map (cS cI) x521))]⟩)) (sheetmetalref05_join_l1 x482) (0, s349.2) x521 (by kernel_rfl) (here (by kernel_rfl)) hx521 ?_ ?_ ?_
      · intro s496 r h
        refine sem_seq (by kernel_rfl) ?_
        refine sem_seq (by kernel_rfl) ?_
        refine sem_region (by kernel_rfl) ?_
        refine evs_run 2 (by kernel_rfl) ?_
        refine evs_op (st_len (c := (cS cI)) (l := x482) (x := (.sl (List.map (cS cI) x482))) (by kernel_rfl) (by kernel_rfl)) ?_
        refine evs_run 1 (by kernel_rfl) ?_
        refine evs_endS (by kernel_rfl) (fun τ hτ => ?_)
        refine th_normalS hτ ⟨[(0, (.sl (List.map (cS (cS cI)) jobs))), (1, (.sl (List.map cI order))), (5, (.row (.top 500000) 38)), (6, (vI s349.1)), (7, (.sl (List.map (cS cI) x482))), (8, (vI s496.1)), (25, (vB (decide (s496.1 < (x482.length : Int)))))], [(500000, .row 38 [] (List.map (cS cI) s496.2))]⟩ (here (by kernel_rfl)) ?_
        refine sem_cond (decide (s496.1 < (x482.length : Int))) (by kernel_rfl) (by kernel_rfl) (fun hb => ?_) (fun hb => ?_)
        · replace h := iteT hb h
          refine sem_skipS (by kernel_rfl) (fun τ hτ => ?_)
          refine th_normalS hτ ⟨[(0, (.sl (List.map (cS (cS cI)) jobs))), (1, (.sl (List.map cI order))), (5, (.row (.top 500000) 38)), (6, (vI s349.1)), (7, (.sl (List.map (cS cI) x482))), (8, (vI s496.1))], [(500000, .row 38 [] (List.map (cS cI) s496.2))]⟩ (here (by kernel_rfl)) ?_
          refine sem_seq (by kernel_rfl) ?_
          refine sem_block (by kernel_rfl) ?_
          refine sem_region (by kernel_rfl) ?_
          refine evs_run 3 (by kernel_rfl) ?_
          obtain ⟨x518, hx518, h⟩ := bindS h
          refine evs_op (st_idx (c := (cS cI)) (l := x482) (i := s496.1) (kd := .i64) (sz := 1) (by kernel_rfl) hx518 rfl) ?_
          refine evs_run 1 (by kernel_rfl) ?_
          obtain ⟨r519, hr519, h⟩ := bindS h
          refine evs_callS [] [(0, 700250)] [] (by kernel_rfl) (W.sheetmetalref05_CopySet_ok hr519) (by kernel_rfl) (by kernel_rfl) (.inl rfl) ?_
          refine evs_prep [.frz 700250] (by kernel_rfl) ?_
          refine evs_run 1 (by kernel_rfl) ?_
          obtain ⟨l520, hl520, h⟩ := bindS h
          refine evs_op (st_app (c := (cS cI)) (l := s496.2) (l2 := [r519]) (x := (.sl (List.map (cS cI) [r519]))) (g := 500000) (e := 38) (sz := 1) (d := 35) (by kernel_rfl) (by kernel_rfl) (by kernel_rfl) (by kernel_rfl) (fun _ => rfl) rfl hl520) ?_
          refine evs_run 1 (by kernel_rfl) ?_
          refine evs_endS (by kernel_rfl) (fun τ hτ => ?_)
          refine bl_normal ?_
          refine th_normalS hτ ⟨[(0, (.sl (List.map (cS (cS cI)) jobs))), (1, (.sl (List.map cI order))), (5, (.row (.top 500000) 38)), (6, (vI s349.1)), (7, (.sl (List.map (cS cI) x482))), (8, (vI s496.1))], [(500000, .row 38 [] (List.map (cS cI) l520))]⟩ (here (by kernel_rfl)) ?_
          refine sem_region (by kernel_rfl) ?_
          refine evs_run 3 (by kernel_rfl) ?_
          refine evs_endS (by kernel_rfl) (fun τ hτ => ?_)
          obtain rfl := Option.some.inj h
          exact lk_nextS hτ (here (by kernel_rfl))
        · replace h := iteF hb h
          refine sem_exitS 2 (by kernel_rfl) rfl (fun τ hτ => ?_)
          refine th_exit ?_
          obtain rfl := Option.some.inj h
          exact lk_outS hτ rfl (here (by kernel_rfl))
      · intro x
        rfl
      · intro τ hτ
        refine bl_hit (by kernel_rfl) ?_
        refine bl_normal ?_
        refine th_normalS hτ ⟨[(0, (.sl (List.map (cS (cS cI)) jobs))), (1, (.sl (List.map cI order))), (5, (.row (.top 500000) 38)), (6, (vI s349.1))], [(500000, .row 38 [] (List.map (cS cI) x521))]⟩ (here (by kernel_rfl)) ?_
        refine sem_region (by kernel_rfl) ?_
        refine evs_run 3 (by kernel_rfl) ?_
        refine evs_endS (by kernel_rfl) (fun τ hτ => ?_)
        obtain rfl := Option.some.inj h
        exact lk_nextS hτ (here (by kernel_rfl))
    · replace h := iteF hb h
      refine sem_exitS 0 (by kernel_rfl) rfl (fun τ hτ => ?_)
      refine th_exit ?_
      obtain rfl := Option.some.inj h
      exact lk_outS hτ rfl (here (by kernel_rfl))
  · intro x
    rfl
  · intro τ hτ
    refine bl_hit (by kernel_rfl) ?_
    refine th_normalS hτ ⟨[(5, (.row (.top 500000) 38))], [(500000, .row 38 [] (List.map (cS cI) x522))]⟩ (here (by kernel_rfl)) ?_
    refine sem_seq (by kernel_rfl) ?_
    refine sem_region (by kernel_rfl) ?_
    refine evs_run 2 (by kernel_rfl) ?_
    refine evs_endS (by kernel_rfl) (fun τ hτ => ?_)
    refine th_normalS hτ ⟨[(4, (.row (.top 500000) 38))], [(500000, .row 38 [] (List.map (cS cI) x522))]⟩ (here (by kernel_rfl)) ?_
    refine sem_retS (by kernel_rfl) (fun τ hτ => ?_)
    obtain rfl := Option.some.inj h
    exact rk_ret hτ [(4, (.row (.top 0) 38))] (subR_prep [] [(500000, 0)] (by kernel_rfl) rfl rfl (by kernel_rfl)) (by kernel_rfl)
theorem W.sheetmetallaw05_total_ok {jobs : (List (List (List Int)))} {r : Int} (h : sheetmetallaw05_total jobs = some r) : PC G.P 31 [(.sl (List.map (cS (cS cI)) jobs))] [] (vI r) [] := by
  refine pc_of G (fn := Try.f31) Try.func31 (by kernel_rfl) (by kernel_rfl) (by kernel_rfl) (by kernel_rfl) (by kernel_rfl) ?_
  refine sem_set ⟨[(0, (.sl (List.map (cS (cS cI)) jobs)))], []⟩ (by kernel_rfl) ?_
  refine sem_seq (by kernel_rfl) ?_
  refine sem_region (by kernel_rfl) ?_
  refine evs_run 1 (by kernel_rfl) ?_
  refine evs_endS (by kernel_rfl) (fun τ hτ => ?_)
  refine th_normalS hτ ⟨[(0, (.sl (List.map (cS (cS cI)) jobs)))], []⟩ (here (by kernel_rfl)) ?_
  refine sem_seq (by kernel_rfl) ?_
  refine sem_region (by kernel_rfl) ?_
  refine evs_run 1 (by kernel_rfl) ?_
  refine evs_endS (by kernel_rfl) (fun τ hτ => ?_)
  refine th_normalS hτ ⟨[(0, (.sl (List.map (cS (cS cI)) jobs))), (3, (vI 0))], []⟩ (here (by kernel_rfl)) ?_
  refine sem_seq (by kernel_rfl) ?_
  refine sem_seq (by kernel_rfl) ?_
  refine sem_region (by kernel_rfl) ?_
  refine evs_run 1 (by kernel_rfl) ?_
  refine evs_endS (by kernel_rfl) (fun τ hτ => ?_)
  refine th_normalS hτ ⟨[(0, (.sl (List.map (cS (cS cI)) jobs))), (3, (vI 0)), (4, (vI 0))], []⟩ (here (by kernel_rfl)) ?_
  refine sem_block (by kernel_rfl) ?_
  obtain ⟨x30, hx30, h⟩ := bindS h
  refine sem_loopS (fun (s21 : Int × Int) => ⟨[(0, (.sl (List.map (cS (cS cI)) jobs))), (3, (vI s21.1)), (4, (vI s21.2))], []⟩) (fun (x30 : Int) => (.exit 0, ⟨[(3, (vI x30))], []⟩)) (sheetmetallaw05_total_l1 jobs) (0, 0) x30 (by kernel_rfl) (here (by kernel_rfl)) hx30 ?_ ?_ ?_
  · intro s21 r h
    refine sem_seq (by kernel_rfl) ?_
    refine sem_seq (by kernel_rfl) ?_
    refine sem_region (by kernel_rfl) ?_
    refine evs_run 2 (by kernel_rfl) ?_
    refine evs_op (st_len (c := (cS (cS cI))) (l := jobs) (x := (.sl (List.map (cS (cS cI)) jobs))) (by kernel_rfl) (by kernel_rfl)) ?_
    refine evs_run 1 (by kernel_rfl) ?_
    refine evs_endS (by kernel_rfl) (fun τ hτ => ?_)
    refine th_normalS hτ ⟨[(0, (.sl (List.map (cS (cS cI)) jobs))), (3, (vI s21.1)), (4, (vI s21.2)), (8, (vB (decide (s21.2 < (jobs.length : Int)))))], []⟩ (here (by kernel_rfl)) ?_
    refine sem_cond (decide (s21.2 < (jobs.length : Int))) (by kernel_rfl) (by kernel_rfl) (fun hb => ?_) (fun hb => ?_)
    · replace h := iteT hb h
      refine sem_skipS (by kernel_rfl) (fun τ hτ => ?_)
      refine th_normalS hτ ⟨[(0, (.sl (List.map (cS (cS cI)) jobs))), (3, (vI s21.1)), (4, (vI s21.2))], []⟩ (here (by kernel_rfl)) ?_
      refine sem_seq (by kernel_rfl) ?_
      refine sem_block (by kernel_rfl) ?_
      refine sem_region (by kernel_rfl) ?_
      refine evs_run 3 (by kernel_rfl) ?_
      obtain ⟨x29, hx29, h⟩ := bindS h
      refine evs_op (st_idx (c := (cS (cS cI))) (l := jobs) (i := s21.2) (kd := .i64) (sz := 1) (by kernel_rfl) hx29 rfl) ?_
      refine evs_run 1 (by kernel_rfl) ?_
      refine evs_op (st_len (c := (cS cI)) (l := x29) (x := (.sl (List.map (cS cI) x29))) (by kernel_rfl) (by kernel_rfl)) ?_
      refine evs_run 2 (by kernel_rfl) ?_
      refine evs_endS (by kernel_rfl) (fun τ hτ => ?_)
      refine bl_normal ?_
      refine th_normalS hτ ⟨[(0, (.sl (List.map (cS (cS cI)) jobs))), (3, (vI (iadd s21.1 (x29.length : Int)))), (4, (vI s21.2))], []⟩ (here (by kernel_rfl)) ?_
      refine sem_region (by kernel_rfl) ?_
      refine evs_run 3 (by kernel_rfl) ?_
      refine evs_endS (by kernel_rfl) (fun τ hτ => ?_)
      obtain rfl := Option.some.inj h
      exact lk_nextS hτ (here (by kernel_rfl))
    · replace h := iteF hb h
      refine sem_exitS 0 (by kernel_rfl) rfl (fun τ hτ => ?_)
      refine th_exit ?_
      obtain rfl := Option.some.inj h
      exact lk_outS hτ rfl (here (by kernel_rfl))
  · intro x
    rfl
  · intro τ hτ
    refine bl_hit (by kernel_rfl) ?_
    refine th_normalS hτ ⟨[(3, (vI x30))], []⟩ (here (by kernel_rfl)) ?_
    refine sem_seq (by kernel_rfl) ?_
    refine sem_region (by kernel_rfl) ?_
    refine evs_run 2 (by kernel_rfl) ?_
    refine evs_endS (by kernel_rfl) (fun τ hτ => ?_)
    refine th_normalS hτ ⟨[(2, (vI x30))], []⟩ (here (by kernel_rfl)) ?_
    refine sem_retS (by kernel_rfl) (fun τ hτ => ?_)
    obtain rfl := Option.some.inj h
    exact rk_ret hτ [(2, (vI x30))] (here (by kernel_rfl)) (by kernel_rfl)
theorem W.setup_Best_1'_body_ok (self : (List Int) → Int → (List Int) → (List (List (List Int))) → Int → Option (Int × (List Int))) (hself : ∀ {order : (List Int)} {h0_0 : Int} {h1_0 : (List Int)} {h3_0 : (List (List (List Int)))} {h4_0 : Int} {r : Int × (List Int)}, self order h0_0 h1_0 h3_0 h4_0 = some r → PC G.P 63 [(.sl (List.map cI order)), (.ptr 1000003 0), (.ptr 1000004 0), (.ptr 1000000 0), (.ptr 1000001 0), (.ptr 1000002 0)] [(1000000, .box [(vI h0_0)]), (1000001, .box [(.sl (List.map cI h1_0))]), (1000002, .box [(.fn 63 [(.ptr 1000003 0), (.ptr 1000004 0), (.ptr 1000000 0), (.ptr 1000001 0), (.ptr 1000002 0)])]), (1000003, .box [(.sl (List.map (cS (cS cI)) h3_0))]), (1000004, .box [(vI h4_0)])] (.tup []) [(1000000, .box [(vI r.1)]), (1000001, .box [(.sl (List.map cI r.2))]), (1000002, .box [(.fn 63 [(.ptr 1000003 0), (.ptr 1000004 0), (.ptr 1000000 0), (.ptr 1000001 0), (.ptr 1000002 0)])]), (1000003, .box [(.sl (List.map (cS (cS cI)) h3_0))]), (1000004, .box [(vI h4_0)])]) {order : (List Int)} {h0_0 : Int} {h1_0 : (List Int)} {h3_0 : (List (List (List Int)))} {h4_0 : Int} {r : Int × (List Int)} (h : setup_Best_1'_body self order h0_0 h1_0 h3_0 h4_0 = some r) : PC G.P 63 [(.sl (List.map cI order)), (.ptr 1000003 0), (.ptr 1000004 0), (.ptr 1000000 0), (.ptr 1000001 0), (.ptr 1000002 0)] [(1000000, .box [(vI h0_0)]), (1000001, .box [(.sl (List.map cI h1_0))]), (1000002, .box [(.fn 63 [(.ptr 1000003 0), (.ptr 1000004 0), (.ptr 1000000 0), (.ptr 1000001 0), (.ptr 1000002 0)])]), (1000003, .box [(.sl (List.map (cS (cS cI)) h3_0))]), (1000004, .box [(vI h4_0)])] (.tup []) [(1000000, .box [(vI r.1)]), (1000001, .box [(.sl (List.map cI r.2))]), (1000002, .box [(.fn 63 [(.ptr 1000003 0), (.ptr 1000004 0), (.ptr 1000000 0), (.ptr 1000001 0), (.ptr 1000002 0)])]), (1000003, .box [(.sl (List.map (cS (cS cI)) h3_0))]), (1000004, .box [(vI h4_0)])] := by
  refine pc_of G (fn := Try.f63) Try.func63 (by kernel_rfl) (by kernel_rfl) (by kernel_rfl) (by kernel_rfl) (by kernel_rfl) ?_
  refine sem_set ⟨[(0, (.sl (List.map cI order))), (1, (.ptr 1000003 0)), (2, (.ptr 1000004 0)), (3, (.ptr 1000000 0)), (4, (.ptr 1000001 0)), (5, (.ptr 1000002 0))], [(1000000, .box [(vI h0_0)]), (1000001, .box [(.sl (List.map cI h1_0))]), (1000002, .box [(.fn 63 [(.ptr 1000003 0), (.ptr 1000004 0), (.ptr 1000000 0), (.ptr 1000001 0), (.ptr 1000002 0)])]), (1000003, .box [(.sl (List.map (cS (cS cI)) h3_0))]), (1000004, .box [(vI h4_0)])]⟩ (by kernel_rfl) ?_
  refine sem_seq (by kernel_rfl) ?_
  refine sem_seq (by kernel_rfl) ?_
  refine sem_region (by kernel_rfl) ?_
  refine evs_run 1 (by kernel_rfl) ?_
  refine evs_op (st_len (c := cI) (l := order) (x := (.sl (List.map cI order))) (by kernel_rfl) (by kernel_rfl)) ?_
  refine evs_run 1 (by kernel_rfl) ?_
  refine evs_op (st_len (c := (cS (cS cI))) (l := h3_0) (x := (.sl (List.map (cS (cS cI)) h3_0))) (by kernel_rfl) (by kernel_rfl)) ?_
  refine evs_run 1 (by kernel_rfl) ?_
  refine evs_endS (by kernel_rfl) (fun τ hτ => ?_)
  refine th_normalS hτ ⟨[(0, (.sl (List.map cI order))), (1, (.ptr 1000003 0)), (2, (.ptr 1000004 0)), (3, (.ptr 1000000 0)), (4, (.ptr 1000001 0)), (5, (.ptr 1000002 0)), (13, (vB ((order.length : Int) == (h3_0.length : Int))))], [(1000000, .box [(vI h0_0)]), (1000001, .box [(.sl (List.map cI h1_0))]), (1000002, .box [(.fn 63 [(.ptr 1000003 0), (.ptr 1000004 0), (.ptr 1000000 0), (.ptr 1000001 0), (.ptr 1000002 0)])]), (1000003, .box [(.sl (List.map (cS (cS cI)) h3_0))]), (1000004, .box [(vI h4_0)])]⟩ (here (by kernel_rfl)) ?_
  refine sem_cond ((order.length : Int) == (h3_0.length : Int)) (by kernel_rfl) (by kernel_rfl) (fun hb => ?_) (fun hb => ?_)
  · replace h := iteT hb h
    refine sem_seqJ (fun (j23 : Int × (List Int)) => ⟨[], [(1000000, .box [(vI j23.1)]), (1000001, .box [(.sl (List.map cI j23.2))]), (1000002, .box [(.fn 63 [(.ptr 1000003 0), (.ptr 1000004 0), (.ptr 1000000 0), (.ptr 1000001 0), (.ptr 1000002 0)])]), (1000003, .box [(.sl (List.map (cS (cS cI)) h3_0))]), (1000004, .box [(vI h4_0)])]⟩) (setup_Best_1'_k1) r (by kernel_rfl) (fun j23 h => ?_) ?_
    · refine sem_retS (by kernel_rfl) (fun τ hτ => ?_)
      refine th_ret ?_
      obtain rfl := Option.some.inj h
      exact rk_ret hτ [] (here (by kernel_rfl)) (by kernel_rfl)
    refine sem_seq (by kernel_rfl) ?_
    refine sem_draw [(2, [700100])] [(2, [700100])] [] [(3, [700100])] [(0, [700100]), (1, [700100]), (3, [700100])] 4 (by kernel_rfl) (by kernel_rfl) [700100] (by kernel_rfl) (by kernel_rfl) ?_
    refine evd_run 2 (by kernel_rfl) ?_
    obtain ⟨r28, hr28, h⟩ := bindS h
    refine evd_callS [(0, 700100)] [] (by kernel_rfl) (by kernel_rfl) (W.setup_join_ok hr28) (by kernel_rfl) (.inl rfl) (by kernel_rfl) (by kernel_rfl) ?_
    refine evd_run 1 (by kernel_rfl) ?_
    refine evd_end (by kernel_rfl) ?_
    obtain ⟨r29, hr29, h⟩ := bindS h
    refine evo_callP [700100] (by kernel_rfl) (W.setup_fewest_ok hr29) (by kernel_rfl) (.inr rfl) (by kernel_rfl) ?_
    refine evo_run 1 (by kernel_rfl) ?_
    refine evo_endS (by kernel_rfl) (fun τ hτ => ?_)
    refine th_normalS hτ ⟨[(0, (.sl (List.map cI order))), (3, (.ptr 1000000 0)), (4, (.ptr 1000001 0)), (7, (vI r29))], [(1000000, .box [(vI h0_0)]), (1000001, .box [(.sl (List.map cI h1_0))]), (1000002, .box [(.fn 63 [(.ptr 1000003 0), (.ptr 1000004 0), (.ptr 1000000 0), (.ptr 1000001 0), (.ptr 1000002 0)])]), (1000003, .box [(.sl (List.map (cS (cS cI)) h3_0))]), (1000004, .box [(vI h4_0)])]⟩ (here (by kernel_rfl)) ?_
    refine sem_seq (by kernel_rfl) ?_
    obtain ⟨j30, hj30, h⟩ := bindS h
    refine sem_regionC ⟨[(0, (.sl (List.map cI order))), (3, (.ptr 1000000 0)), (4, (.ptr 1000001 0)), (7, (vI r29)), (25, (vB j30))], [(1000000, .box [(vI h0_0)]), (1000001, .box [(.sl (List.map cI h1_0))]), (1000002, .box [(.fn 63 [(.ptr 1000003 0), (.ptr 1000004 0), (.ptr 1000000 0), (.ptr 1000001 0), (.ptr 1000002 0)])]), (1000003, .box [(.sl (List.map (cS (cS cI)) h3_0))]), (1000004, .box [(vI h4_0)])]⟩ (by kernel_rfl) ?_ (fun τ hτ => ?_)
    · replace h := hj30
      refine evs_run 3 (by kernel_rfl) ?_
      refine evs_split (decide (h0_0 < 0)) (fun b0 => ⟨[(0, (.sl (List.map cI order))), (3, (.ptr 1000000 0)), (4, (.ptr 1000001 0)), (7, (vI r29)), (21, (vB b0))], [(1000000, .box [(vI h0_0)]), (1000001, .box [(.sl (List.map cI h1_0))]), (1000002, .box [(.fn 63 [(.ptr 1000003 0), (.ptr 1000004 0), (.ptr 1000000 0), (.ptr 1000001 0), (.ptr 1000002 0)])]), (1000003, .box [(.sl (List.map (cS (cS cI)) h3_0))]), (1000004, .box [(vI h4_0)])]⟩) (by kernel_rfl) (fun hb => ?_) (fun hb => ?_)
      · replace h := iteT hb h
        refine evs_run 4 (by kernel_rfl) ?_
        refine evs_endS (by kernel_rfl) (fun τ hτ => ?_)
        obtain rfl := Option.some.inj h
        exact leafC hτ (here (by kernel_rfl))
      · replace h := iteF hb h
        refine evs_run 4 (by kernel_rfl) ?_
        refine evs_endS (by kernel_rfl) (fun τ hτ => ?_)
        obtain rfl := Option.some.inj h
        exact leafC hτ (here (by kernel_rfl))
    refine th_normalS hτ ⟨[(0, (.sl (List.map cI order))), (3, (.ptr 1000000 0)), (4, (.ptr 1000001 0)), (7, (vI r29)), (25, (vB j30))], [(1000000, .box [(vI h0_0)]), (1000001, .box [(.sl (List.map cI h1_0))]), (1000002, .box [(.fn 63 [(.ptr 1000003 0), (.ptr 1000004 0), (.ptr 1000000 0), (.ptr 1000001 0), (.ptr 1000002 0)])]), (1000003, .box [(.sl (List.map (cS (cS cI)) h3_0))]), (1000004, .box [(vI h4_0)])]⟩ (here (by kernel_rfl)) ?_
    refine sem_cond j30 (by kernel_rfl) (by kernel_rfl) (fun hb => ?_) (fun hb => ?_)
    · replace h := iteT hb h
      refine sem_region (by kernel_rfl) ?_
      refine evs_run 4 (by kernel_rfl) ?_
      refine evs_endS (by kernel_rfl) (fun τ hτ => ?_)
      exact jk_normal (r29, order) h hτ (here (by kernel_rfl))
    · replace h := iteF hb h
      refine sem_skipS (by kernel_rfl) (fun τ hτ => ?_)
      exact jk_normal (h0_0, h1_0) h hτ (here (by kernel_rfl))
  · replace h := iteF hb h
    refine sem_skipS (by kernel_rfl) (fun τ hτ => ?_)
    refine th_normalS hτ ⟨[(0, (.sl (List.map cI order))), (1, (.ptr 1000003 0)), (5, (.ptr 1000002 0))], [(1000000, .box [(vI h0_0)]), (1000001, .box [(.sl (List.map cI h1_0))]), (1000002, .box [(.fn 63 [(.ptr 1000003 0), (.ptr 1000004 0), (.ptr 1000000 0), (.ptr 1000001 0), (.ptr 1000002 0)])]), (1000003, .box [(.sl (List.map (cS (cS cI)) h3_0))]), (1000004, .box [(vI h4_0)])]⟩ (here (by kernel_rfl)) ?_
    refine sem_seq (by kernel_rfl) ?_
    refine sem_region (by kernel_rfl) ?_
    refine evs_run 1 (by kernel_rfl) ?_
    refine evs_op (st_len (c := (cS (cS cI))) (l := h3_0) (x := (.sl (List.map (cS (cS cI)) h3_0))) (by kernel_rfl) (by kernel_rfl)) ?_
    refine evs_run 1 (by kernel_rfl) ?_
    refine evs_endS (by kernel_rfl) (fun τ hτ => ?_)
    refine th_normalS hτ ⟨[(0, (.sl (List.map cI order))), (5, (.ptr 1000002 0)), (29, (vI (h3_0.length : Int))), (30, (vI 0))], [(1000000, .box [(vI h0_0)]), (1000001, .box [(.sl (List.map cI h1_0))]), (1000002, .box [(.fn 63 [(.ptr 1000003 0), (.ptr 1000004 0), (.ptr 1000000 0), (.ptr 1000001 0), (.ptr 1000002 0)])]), (1000003, .box [(.sl (List.map (cS (cS cI)) h3_0))]), (1000004, .box [(vI h4_0)])]⟩ (here (by kernel_rfl)) ?_
    refine sem_block (by kernel_rfl) ?_
    obtain ⟨x102, hx102, h⟩ := bindS h
    refine sem_loopS (fun (s55 : Int × Int × (List Int)) => ⟨[(0, (.sl (List.map cI order))), (5, (.ptr 1000002 0)), (29, (vI (h3_0.length : Int))), (30, (vI s55.1))], [(1000000, .box [(vI s55.2.1)]), (1000001, .box [(.sl (List.map cI s55.2.2))]), (1000002, .box [(.fn 63 [(.ptr 1000003 0), (.ptr 1000004 0), (.ptr 1000000 0), (.ptr 1000001 0), (.ptr 1000002 0)])]), (1000003, .box [(.sl (List.map (cS (cS cI)) h3_0))]), (1000004, .box [(vI h4_0)])]⟩) (fun (x102 : Int × (List Int)) => (.exit 0, ⟨[], [(1000000, .box [(vI x102.1)]), (1000001, .box [(.sl (List.map cI x102.2))]), (1000002, .box [(.fn 63 [(.ptr 1000003 0), (.ptr 1000004 0), (.ptr 1000000 0), (.ptr 1000001 0), (.ptr 1000002 0)])]), (1000003, .box [(.sl (List.map (cS (cS cI)) h3_0))]), (1000004, .box [(vI h4_0)])]⟩)) (setup_Best_1'_l3 self order h3_0 h4_0) (0, h0_0, h1_0) x102 (by kernel_rfl) (here (by kernel_rfl)) hx102 ?_ ?_ ?_
    · intro s55 r h
      refine sem_seq (by kernel_rfl) ?_
      refine sem_region (by kernel_rfl) ?_
      refine evs_run 1 (by kernel_rfl) ?_
      refine evs_endS (by kernel_rfl) (fun τ hτ => ?_)
      refine th_normalS hτ ⟨[(0, (.sl (List.map cI order))), (5, (.ptr 1000002 0)), (29, (vI (h3_0.length : Int))), (30, (vI s55.1)), (31, (vB (decide (s55.1 < (h3_0.length : Int)))))], [(1000000, .box [(vI s55.2.1)]), (1000001, .box [(.sl (List.map cI s55.2.2))]), (1000002, .box [(.fn 63 [(.ptr 1000003 0), (.ptr 1000004 0), (.ptr 1000000 0), (.ptr 1000001 0), (.ptr 1000002 0)])]), (1000003, .box [(.sl (List.map (cS (cS cI)) h3_0))]), (1000004, .box [(vI h4_0)])]⟩ (here (by kernel_rfl)) ?_
      refine sem_seq (by kernel_rfl) ?_
      refine sem_cond (decide (s55.1 < (h3_0.length : Int))) (by kernel_rfl) (by kernel_rfl) (fun hb => ?_) (fun hb => ?_)
      · replace h := iteT hb h
        refine sem_skipS (by kernel_rfl) (fun τ hτ => ?_)
        refine th_normalS hτ ⟨[(0, (.sl (List.map cI order))), (5, (.ptr 1000002 0)), (29, (vI (h3_0.length : Int))), (30, (vI s55.1))], [(1000000, .box [(vI s55.2.1)]), (1000001, .box [(.sl (List.map cI s55.2.2))]), (1000002, .box [(.fn 63 [(.ptr 1000003 0), (.ptr 1000004 0), (.ptr 1000000 0), (.ptr 1000001 0), (.ptr 1000002 0)])]), (1000003, .box [(.sl (List.map (cS (cS cI)) h3_0))]), (1000004, .box [(vI h4_0)])]⟩ (here (by kernel_rfl)) ?_
        refine sem_seqJ (fun (j90 : Int × (List Int)) => ⟨[(0, (.sl (List.map cI order))), (5, (.ptr 1000002 0)), (29, (vI (h3_0.length : Int))), (30, (vI s55.1))], [(1000000, .box [(vI j90.1)]), (1000001, .box [(.sl (List.map cI j90.2))]), (1000002, .box [(.fn 63 [(.ptr 1000003 0), (.ptr 1000004 0), (.ptr 1000000 0), (.ptr 1000001 0), (.ptr 1000002 0)])]), (1000003, .box [(.sl (List.map (cS (cS cI)) h3_0))]), (1000004, .box [(vI h4_0)])]⟩) (setup_Best_1'_k2 s55) r (by kernel_rfl) (fun j90 h => ?_) ?_
        · refine sem_region (by kernel_rfl) ?_
          refine evs_run 2 (by kernel_rfl) ?_
          refine evs_endS (by kernel_rfl) (fun τ hτ => ?_)
          obtain rfl := Option.some.inj h
          exact lk_nextS hτ (here (by kernel_rfl))
        refine sem_block (by kernel_rfl) ?_
        refine sem_seq (by kernel_rfl) ?_
        refine sem_region (by kernel_rfl) ?_
        refine evs_run 2 (by kernel_rfl) ?_
        refine evs_endS (by kernel_rfl) (fun τ hτ => ?_)
        refine th_normalS hτ ⟨[(0, (.sl (List.map cI order))), (5, (.ptr 1000002 0)), (8, (vI s55.1)), (29, (vI (h3_0.length : Int))), (30, (vI s55.1))], [(1000000, .box [(vI s55.2.1)]), (1000001, .box [(.sl (List.map cI s55.2.2))]), (1000002, .box [(.fn 63 [(.ptr 1000003 0), (.ptr 1000004 0), (.ptr 1000000 0), (.ptr 1000001 0), (.ptr 1000002 0)])]), (1000003, .box [(.sl (List.map (cS (cS cI)) h3_0))]), (1000004, .box [(vI h4_0)])]⟩ (here (by kernel_rfl)) ?_
        refine sem_seq (by kernel_rfl) ?_
        refine sem_region (by kernel_rfl) ?_
        refine evs_run 2 (by kernel_rfl) ?_
        obtain ⟨r92, hr92, h⟩ := bindS h
        refine evs_callP [] (by kernel_rfl) (W.slices_Contains_Lint_int_ok hr92) (by kernel_rfl) (.inl rfl) (by kernel_rfl) ?_
        refine evs_run 1 (by kernel_rfl) ?_
        refine evs_endS (by kernel_rfl) (fun τ hτ => ?_)
        refine th_normalS hτ ⟨[(0, (.sl (List.map cI order))), (5, (.ptr 1000002 0)), (8, (vI s55.1)), (29, (vI (h3_0.length : Int))), (30, (vI s55.1)), (36, (vB (!r92)))], [(1000000, .box [(vI s55.2.1)]), (1000001, .box [(.sl (List.map cI s55.2.2))]), (1000002, .box [(.fn 63 [(.ptr 1000003 0), (.ptr 1000004 0), (.ptr 1000000 0), (.ptr 1000001 0), (.ptr 1000002 0)])]), (1000003, .box [(.sl (List.map (cS (cS cI)) h3_0))]), (1000004, .box [(vI h4_0)])]⟩ (here (by kernel_rfl)) ?_
        refine sem_cond (!r92) (by kernel_rfl) (by kernel_rfl) (fun hb => ?_) (fun hb => ?_)
        · replace h := iteT hb h
          refine sem_draw [(2, [700100]), (5, [700100, 600005])] [(2, [700100]), (5, [600005])] [] [(0, [700100, 600005]), (3, [700100]), (4, [700100])] [(0, [700100, 600005]), (1, [700100, 600005]), (2, [600005]), (3, [700100, 600005]), (4, [700100, 600005])] 6 (by kernel_rfl) (by kernel_rfl) [700100, 600005] (by kernel_rfl) (by kernel_rfl) ?_
          refine evd_run 2 (by kernel_rfl) ?_
          obtain ⟨r99, hr99, h⟩ := bindS h
          refine evd_callS [(0, 700100)] [] (by kernel_rfl) (by kernel_rfl) (W.slices_Clone_Lint_int_ok hr99) (by kernel_rfl) (.inl rfl) (by kernel_rfl) (by kernel_rfl) ?_
          refine evd_run 2 (by kernel_rfl) ?_
          obtain ⟨l100, hl100, h⟩ := bindS h
          refine evd_app (c := cI) (l := r99) (l2 := [s55.1]) (x := (.sl (List.map cI [s55.1]))) (g := 700100) (g2 := 600005) (e := 3) (sz := 1) (d := 42) (by kernel_rfl) (by kernel_rfl) (by kernel_rfl) (by kernel_rfl) (by kernel_rfl) (fun _ => rfl) hl100 (by kernel_rfl) (by kernel_rfl) (by kernel_rfl) (by kernel_rfl) (by kernel_rfl) ?_
          refine evd_end (by kernel_rfl) ?_
          refine evo_prep [.frz 600005] (by kernel_rfl) ?_
          obtain ⟨r101, hr101, h⟩ := bindS h
          refine evo_callS [(1000000, 1000000), (1000001, 1000001), (1000002, 1000002), (1000003, 1000003), (1000004, 1000004)] [] [] (by kernel_rfl) (hself hr101) (by kernel_rfl) (by kernel_rfl) (.inl rfl) ?_
          refine evo_endS (by kernel_rfl) (fun τ hτ => ?_)
          refine bl_normal ?_
          exact jk_normal (r101.1, r101.2) h hτ (here (by kernel_rfl))
        · replace h := iteF hb h
          refine sem_skipS (by kernel_rfl) (fun τ hτ => ?_)
          refine bl_normal ?_
          exact jk_normal (s55.2.1, s55.2.2) h hτ (here (by kernel_rfl))
      · replace h := iteF hb h
        refine sem_exitS 0 (by kernel_rfl) rfl (fun τ hτ => ?_)
        refine th_exit ?_
        obtain rfl := Option.some.inj h
        exact lk_outS hτ rfl (here (by kernel_rfl))
    · intro x
      rfl
    · intro τ hτ
      refine bl_hit (by kernel_rfl) ?_
      obtain rfl := Option.some.inj h
      exact rk_normal hτ [] (here (by kernel_rfl)) (by kernel_rfl)
theorem W.setup_Best_1'_n_ok : ∀ (n : Nat) {order : (List Int)} {h0_0 : Int} {h1_0 : (List Int)} {h3_0 : (List (List (List Int)))} {h4_0 : Int} {r : Int × (List Int)}, setup_Best_1'_n n order h0_0 h1_0 h3_0 h4_0 = some r → PC G.P 63 [(.sl (List.map cI order)), (.ptr 1000003 0), (.ptr 1000004 0), (.ptr 1000000 0), (.ptr 1000001 0), (.ptr 1000002 0)] [(1000000, .box [(vI h0_0)]), (1000001, .box [(.sl (List.map cI h1_0))]), (1000002, .box [(.fn 63 [(.ptr 1000003 0), (.ptr 1000004 0), (.ptr 1000000 0), (.ptr 1000001 0), (.ptr 1000002 0)])]), (1000003, .box [(.sl (List.map (cS (cS cI)) h3_0))]), (1000004, .box [(vI h4_0)])] (.tup []) [(1000000, .box [(vI r.1)]), (1000001, .box [(.sl (List.map cI r.2))]), (1000002, .box [(.fn 63 [(.ptr 1000003 0), (.ptr 1000004 0), (.ptr 1000000 0), (.ptr 1000001 0), (.ptr 1000002 0)])]), (1000003, .box [(.sl (List.map (cS (cS cI)) h3_0))]), (1000004, .box [(vI h4_0)])]
  | 0, _, _, _, _, _, _, h => by simp [setup_Best_1'_n] at h
  | n + 1, _, _, _, _, _, _, h => W.setup_Best_1'_body_ok (setup_Best_1'_n n) (W.setup_Best_1'_n_ok n) h
theorem W.setup_Best_1'_ok {order : (List Int)} {h0_0 : Int} {h1_0 : (List Int)} {h3_0 : (List (List (List Int)))} {h4_0 : Int} {r : Int × (List Int)} (h : setup_Best_1' order h0_0 h1_0 h3_0 h4_0 = some r) : PC G.P 63 [(.sl (List.map cI order)), (.ptr 1000003 0), (.ptr 1000004 0), (.ptr 1000000 0), (.ptr 1000001 0), (.ptr 1000002 0)] [(1000000, .box [(vI h0_0)]), (1000001, .box [(.sl (List.map cI h1_0))]), (1000002, .box [(.fn 63 [(.ptr 1000003 0), (.ptr 1000004 0), (.ptr 1000000 0), (.ptr 1000001 0), (.ptr 1000002 0)])]), (1000003, .box [(.sl (List.map (cS (cS cI)) h3_0))]), (1000004, .box [(vI h4_0)])] (.tup []) [(1000000, .box [(vI r.1)]), (1000001, .box [(.sl (List.map cI r.2))]), (1000002, .box [(.fn 63 [(.ptr 1000003 0), (.ptr 1000004 0), (.ptr 1000000 0), (.ptr 1000001 0), (.ptr 1000002 0)])]), (1000003, .box [(.sl (List.map (cS (cS cI)) h3_0))]), (1000004, .box [(vI h4_0)])] := W.setup_Best_1'_n_ok 1000 h

theorem W.setup_Best_1_body_ok (self : (List Int) → Int → (List Int) → (List (List (List Int))) → Int → Option (Int × (List Int))) (hself : ∀ {order : (List Int)} {h0_0 : Int} {h2 : (List Int)} {h4_0 : (List (List (List Int)))} {h5_0 : Int} {r : Int × (List Int)}, self order h0_0 h2 h4_0 h5_0 = some r → PC G.P 63 [(.sl (List.map cI order)), (.ptr 1000004 0), (.ptr 1000005 0), (.ptr 1000000 0), (.ptr 1000001 0), (.ptr 1000003 0)] [(1000000, .box [(vI h0_0)]), (1000001, .box [(.row (.top 300002) 3)]), (300002, .row 3 [] (List.map cI h2)), (1000003, .box [(.fn 63 [(.ptr 1000004 0), (.ptr 1000005 0), (.ptr 1000000 0), (.ptr 1000001 0), (.ptr 1000003 0)])]), (1000004, .box [(.sl (List.map (cS (cS cI)) h4_0))]), (1000005, .box [(vI h5_0)])] (.tup []) [(1000000, .box [(vI r.1)]), (1000001, .box [(.sl (List.map cI r.2))]), (1000003, .box [(.fn 63 [(.ptr 1000004 0), (.ptr 1000005 0), (.ptr 1000000 0), (.ptr 1000001 0), (.ptr 1000003 0)])]), (1000004, .box [(.sl (List.map (cS (cS cI)) h4_0))]), (1000005, .box [(vI h5_0)])]) {order : (List Int)} {h0_0 : Int} {h2 : (List Int)} {h4_0 : (List (List (List Int)))} {h5_0 : Int} {r : Int × (List Int)} (h : setup_Best_1_body self order h0_0 h2 h4_0 h5_0 = some r) : PC G.P 63 [(.sl (List.map cI order)), (.ptr 1000004 0), (.ptr 1000005 0), (.ptr 1000000 0), (.ptr 1000001 0), (.ptr 1000003 0)] [(1000000, .box [(vI h0_0)]), (1000001, .box [(.row (.top 300002) 3)]), (300002, .row 3 [] (List.map cI h2)), (1000003, .box [(.fn 63 [(.ptr 1000004 0), (.ptr 1000005 0), (.ptr 1000000 0), (.ptr 1000001 0), (.ptr 1000003 0)])]), (1000004, .box [(.sl (List.map (cS (cS cI)) h4_0))]), (1000005, .box [(vI h5_0)])] (.tup []) [(1000000, .box [(vI r.1)]), (1000001, .box [(.sl (List.map cI r.2))]), (1000003, .box [(.fn 63 [(.ptr 1000004 0), (.ptr 1000005 0), (.ptr 1000000 0), (.ptr 1000001 0), (.ptr 1000003 0)])]), (1000004, .box [(.sl (List.map (cS (cS cI)) h4_0))]), (1000005, .box [(vI h5_0)])] := by
  refine pc_of G (fn := Try.f63) Try.func63 (by kernel_rfl) (by kernel_rfl) (by kernel_rfl) (by kernel_rfl) (by kernel_rfl) ?_
  refine sem_set ⟨[(0, (.sl (List.map cI order))), (1, (.ptr 1000004 0)), (2, (.ptr 1000005 0)), (3, (.ptr 1000000 0)), (4, (.ptr 1000001 0)), (5, (.ptr 1000003 0))], [(300002, .row 3 [] (List.map cI h2)), (1000000, .box [(vI h0_0)]), (1000001, .box [(.row (.top 300002) 3)]), (1000003, .box [(.fn 63 [(.ptr 1000004 0), (.ptr 1000005 0), (.ptr 1000000 0), (.ptr 1000001 0), (.ptr 1000003 0)])]), (1000004, .box [(.sl (List.map (cS (cS cI)) h4_0))]), (1000005, .box [(vI h5_0)])]⟩ (by kernel_rfl) ?_
  refine sem_seq (by kernel_rfl) ?_
  refine sem_seq (by kernel_rfl) ?_
  refine sem_region (by kernel_rfl) ?_
  refine evs_run 1 (by kernel_rfl) ?_
  refine evs_op (st_len (c := cI) (l := order) (x := (.sl (List.map cI order))) (by kernel_rfl) (by kernel_rfl)) ?_
  refine evs_run 1 (by kernel_rfl) ?_
  refine evs_op (st_len (c := (cS (cS cI))) (l := h4_0) (x := (.sl (List.map (cS (cS cI)) h4_0))) (by kernel_rfl) (by kernel_rfl)) ?_
  refine evs_run 1 (by kernel_rfl) ?_
  refine evs_endS (by kernel_rfl) (fun τ hτ => ?_)
  refine th_normalS hτ ⟨[(0, (.sl (List.map cI order))), (1, (.ptr 1000004 0)), (2, (.ptr 1000005 0)), (3, (.ptr 1000000 0)), (4, (.ptr 1000001 0)), (5, (.ptr 1000003 0)), (13, (vB ((order.length : Int) == (h4_0.length : Int))))], [(300002, .row 3 [] (List.map cI h2)), (1000000, .box [(vI h0_0)]), (1000001, .box [(.row (.top 300002) 3)]), (1000003, .box [(.fn 63 [(.ptr 1000004 0), (.ptr 1000005 0), (.ptr 1000000 0), (.ptr 1000001 0), (.ptr 1000003 0)])]), (1000004, .box [(.sl (List.map (cS (cS cI)) h4_0))]), (1000005, .box [(vI h5_0)])]⟩ (here (by kernel_rfl)) ?_
  refine sem_cond ((order.length : Int) == (h4_0.length : Int)) (by kernel_rfl) (by kernel_rfl) (fun hb => ?_) (fun hb => ?_)
  · replace h := iteT hb h
    refine sem_seqJ (fun (j23 : Int × (List Int)) => ⟨[], [(1000000, .box [(vI j23.1)]), (1000001, .box [(.sl (List.map cI j23.2))]), (1000003, .box [(.fn 63 [(.ptr 1000004 0), (.ptr 1000005 0), (.ptr 1000000 0), (.ptr 1000001 0), (.ptr 1000003 0)])]), (1000004, .box [(.sl (List.map (cS (cS cI)) h4_0))]), (1000005, .box [(vI h5_0)])]⟩) (setup_Best_1_k1) r (by kernel_rfl) (fun j23 h => ?_) ?_
    · refine sem_retS (by kernel_rfl) (fun τ hτ => ?_)
      refine th_ret ?_
      obtain rfl := Option.some.inj h
      exact rk_ret hτ [] (here (by kernel_rfl)) (by kernel_rfl)
    refine sem_seq (by kernel_rfl) ?_
    refine sem_draw [(2, [700100])] [(2, [700100])] [] [(3, [700100])] [(0, [700100]), (1, [700100]), (3, [700100])] 4 (by kernel_rfl) (by kernel_rfl) [700100] (by kernel_rfl) (by kernel_rfl) ?_
    refine evd_run 2 (by kernel_rfl) ?_
    obtain ⟨r28, hr28, h⟩ := bindS h
    refine evd_callS [(0, 700100)] [] (by kernel_rfl) (by kernel_rfl) (W.setup_join_ok hr28) (by kernel_rfl) (.inl rfl) (by kernel_rfl) (by kernel_rfl) ?_
    refine evd_run 1 (by kernel_rfl) ?_
    refine evd_end (by kernel_rfl) ?_
    obtain ⟨r29, hr29, h⟩ := bindS h
    refine evo_callP [700100] (by kernel_rfl) (W.setup_fewest_ok hr29) (by kernel_rfl) (.inr rfl) (by kernel_rfl) ?_
    refine evo_run 1 (by kernel_rfl) ?_
    refine evo_endS (by kernel_rfl) (fun τ hτ => ?_)
    refine th_normalS hτ ⟨[(0, (.sl (List.map cI order))), (3, (.ptr 1000000 0)), (4, (.ptr 1000001 0)), (7, (vI r29))], [(300002, .row 3 [] (List.map cI h2)), (1000000, .box [(vI h0_0)]), (1000001, .box [(.row (.top 300002) 3)]), (1000003, .box [(.fn 63 [(.ptr 1000004 0), (.ptr 1000005 0), (.ptr 1000000 0), (.ptr 1000001 0), (.ptr 1000003 0)])]), (1000004, .box [(.sl (List.map (cS (cS cI)) h4_0))]), (1000005, .box [(vI h5_0)])]⟩ (here (by kernel_rfl)) ?_
    refine sem_seq (by kernel_rfl) ?_
    obtain ⟨j30, hj30, h⟩ := bindS h
    refine sem_regionC ⟨[(0, (.sl (List.map cI order))), (3, (.ptr 1000000 0)), (4, (.ptr 1000001 0)), (7, (vI r29)), (25, (vB j30))], [(500000, .row 3 [] (List.map cI h2)), (1000000, .box [(vI h0_0)]), (1000001, .box [(.row (.top 500000) 3)]), (1000003, .box [(.fn 63 [(.ptr 1000004 0), (.ptr 1000005 0), (.ptr 1000000 0), (.ptr 1000001 0), (.ptr 1000003 0)])]), (1000004, .box [(.sl (List.map (cS (cS cI)) h4_0))]), (1000005, .box [(vI h5_0)])]⟩ (by kernel_rfl) ?_ (fun τ hτ => ?_)
    · replace h := hj30
      refine evs_run 3 (by kernel_rfl) ?_
      refine evs_split (decide (h0_0 < 0)) (fun b0 => ⟨[(0, (.sl (List.map cI order))), (3, (.ptr 1000000 0)), (4, (.ptr 1000001 0)), (7, (vI r29)), (21, (vB b0))], [(300002, .row 3 [] (List.map cI h2)), (1000000, .box [(vI h0_0)]), (1000001, .box [(.row (.top 300002) 3)]), (1000003, .box [(.fn 63 [(.ptr 1000004 0), (.ptr 1000005 0), (.ptr 1000000 0), (.ptr 1000001 0), (.ptr 1000003 0)])]), (1000004, .box [(.sl (List.map (cS (cS cI)) h4_0))]), (1000005, .box [(vI h5_0)])]⟩) (by kernel_rfl) (fun hb => ?_) (fun hb => ?_)
      · replace h := iteT hb h
        refine evs_run 4 (by kernel_rfl) ?_
        refine evs_endS (by kernel_rfl) (fun τ hτ => ?_)
        obtain rfl := Option.some.inj h
        exact leafC hτ (subR_prep [] [(300002, 500000), (1000000, 1000000), (1000001, 1000001), (1000003, 1000003), (1000004, 1000004), (1000005, 1000005)] (by kernel_rfl) rfl rfl (by kernel_rfl))
      · replace h := iteF hb h
        refine evs_run 4 (by kernel_rfl) ?_
        refine evs_endS (by kernel_rfl) (fun τ hτ => ?_)
        obtain rfl := Option.some.inj h
        exact leafC hτ (subR_prep [] [(300002, 500000), (1000000, 1000000), (1000001, 1000001), (1000003, 1000003), (1000004, 1000004), (1000005, 1000005)] (by kernel_rfl) rfl rfl (by kernel_rfl))
    refine th_normalS hτ ⟨[(0, (.sl (List.map cI order))), (3, (.ptr 1000000 0)), (4, (.ptr 1000001 0)), (7, (vI r29)), (25, (vB j30))], [(500000, .row 3 [] (List.map cI h2)), (1000000, .box [(vI h0_0)]), (1000001, .box [(.row (.top 500000) 3)]), (1000003, .box [(.fn 63 [(.ptr 1000004 0), (.ptr 1000005 0), (.ptr 1000000 0), (.ptr 1000001 0), (.ptr 1000003 0)])]), (1000004, .box [(.sl (List.map (cS (cS cI)) h4_0))]), (1000005, .box [(vI h5_0)])]⟩ (here (by kernel_rfl)) ?_
    refine sem_cond j30 (by kernel_rfl) (by kernel_rfl) (fun hb => ?_) (fun hb => ?_)
    · replace h := iteT hb h
      refine sem_region (by kernel_rfl) ?_
      refine evs_run 4 (by kernel_rfl) ?_
      refine evs_endS (by kernel_rfl) (fun τ hτ => ?_)
      exact jk_normal (r29, order) h hτ (here (by kernel_rfl))
    · replace h := iteF hb h
      refine sem_skipS (by kernel_rfl) (fun τ hτ => ?_)
      exact jk_normal (h0_0, h2) h hτ (subR_prep [.frz 500000] [(1000000, 1000000), (1000001, 1000001), (1000003, 1000003), (1000004, 1000004), (1000005, 1000005)] (by kernel_rfl) rfl rfl (by kernel_rfl))
  · replace h := iteF hb h
    refine sem_skipS (by kernel_rfl) (fun τ hτ => ?_)
    refine th_normalS hτ ⟨[(0, (.sl (List.map cI order))), (1, (.ptr 1000004 0)), (5, (.ptr 1000003 0))], [(300002, .row 3 [] (List.map cI h2)), (1000000, .box [(vI h0_0)]), (1000001, .box [(.row (.top 300002) 3)]), (1000003, .box [(.fn 63 [(.ptr 1000004 0), (.ptr 1000005 0), (.ptr 1000000 0), (.ptr 1000001 0), (.ptr 1000003 0)])]), (1000004, .box [(.sl (List.map (cS (cS cI)) h4_0))]), (1000005, .box [(vI h5_0)])]⟩ (here (by kernel_rfl)) ?_
    refine sem_seq (by kernel_rfl) ?_
    refine sem_region (by kernel_rfl) ?_
    refine evs_run 1 (by kernel_rfl) ?_
    refine evs_op (st_len (c := (cS (cS cI))) (l := h4_0) (x := (.sl (List.map (cS (cS cI)) h4_0))) (by kernel_rfl) (by kernel_rfl)) ?_
    refine evs_run 1 (by kernel_rfl) ?_
    refine evs_endS (by kernel_rfl) (fun τ hτ => ?_)
    refine th_normalS hτ ⟨[(0, (.sl (List.map cI order))), (5, (.ptr 1000003 0)), (29, (vI (h4_0.length : Int))), (30, (vI 0))], [(300002, .row 3 [] (List.map cI h2)), (1000000, .box [(vI h0_0)]), (1000001, .box [(.row (.top 300002) 3)]), (1000003, .box [(.fn 63 [(.ptr 1000004 0), (.ptr 1000005 0), (.ptr 1000000 0), (.ptr 1000001 0), (.ptr 1000003 0)])]), (1000004, .box [(.sl (List.map (cS (cS cI)) h4_0))]), (1000005, .box [(vI h5_0)])]⟩ (here (by kernel_rfl)) ?_
    refine sem_block (by kernel_rfl) ?_
    obtain ⟨x102, hx102, h⟩ := bindS h
    refine sem_loopS (fun (s55 : Int × Int × (List Int)) => ⟨[(0, (.sl (List.map cI order))), (5, (.ptr 1000003 0)), (29, (vI (h4_0.length : Int))), (30, (vI s55.1))], [(1000000, .box [(vI s55.2.1)]), (1000001, .box [(.sl (List.map cI s55.2.2))]), (1000003, .box [(.fn 63 [(.ptr 1000004 0), (.ptr 1000005 0), (.ptr 1000000 0), (.ptr 1000001 0), (.ptr 1000003 0)])]), (1000004, .box [(.sl (List.map (cS (cS cI)) h4_0))]), (1000005, .box [(vI h5_0)])]⟩) (fun (x102 : Int × (List Int)) => (.exit 0, ⟨[], [(1000000, .box [(vI x102.1)]), (1000001, .box [(.sl (List.map cI x102.2))]), (1000003, .box [(.fn 63 [(.ptr 1000004 0), (.ptr 1000005 0), (.ptr 1000000 0), (.ptr 1000001 0), (.ptr 1000003 0)])]), (1000004, .box [(.sl (List.map (cS (cS cI)) h4_0))]), (1000005, .box [(vI h5_0)])]⟩)) (setup_Best_1_l3 order h4_0 h5_0) (0, h0_0, h2) x102 (by kernel_rfl) (subR_prep [.frz 300002] [(1000000, 1000000), (1000001, 1000001), (1000003, 1000003), (1000004, 1000004), (1000005, 1000005)] (by kernel_rfl) rfl rfl (by kernel_rfl)) hx102 ?_ ?_ ?_
    · intro s55 r h
      refine sem_seq (by kernel_rfl) ?_
      refine sem_region (by kernel_rfl) ?_
      refine evs_run 1 (by kernel_rfl) ?_
      refine evs_endS (by kernel_rfl) (fun τ hτ => ?_)
      refine th_normalS hτ ⟨[(0, (.sl (List.map cI order))), (5, (.ptr 1000003 0)), (29, (vI (h4_0.length : Int))), (30, (vI s55.1)), (31, (vB (decide (s55.1 < (h4_0.length : Int)))))], [(1000000, .box [(vI s55.2.1)]), (1000001, .box [(.sl (List.map cI s55.2.2))]), (1000003, .box [(.fn 63 [(.ptr 1000004 0), (.ptr 1000005 0), (.ptr 1000000 0), (.ptr 1000001 0), (.ptr 1000003 0)])]), (1000004, .box [(.sl (List.map (cS (cS cI)) h4_0))]), (1000005, .box [(vI h5_0)])]⟩ (here (by kernel_rfl)) ?_
      refine sem_seq (by kernel_rfl) ?_
      refine sem_cond (decide (s55.1 < (h4_0.length : Int))) (by kernel_rfl) (by kernel_rfl) (fun hb => ?_) (fun hb => ?_)
      · replace h := iteT hb h
        refine sem_skipS (by kernel_rfl) (fun τ hτ => ?_)
        refine th_normalS hτ ⟨[(0, (.sl (List.map cI order))), (5, (.ptr 1000003 0)), (29, (vI (h4_0.length : Int))), (30, (vI s55.1))], [(1000000, .box [(vI s55.2.1)]), (1000001, .box [(.sl (List.map cI s55.2.2))]), (1000003, .box [(.fn 63 [(.ptr 1000004 0), (.ptr 1000005 0), (.ptr 1000000 0), (.ptr 1000001 0), (.ptr 1000003 0)])]), (1000004, .box [(.sl (List.map (cS (cS cI)) h4_0))]), (1000005, .box [(vI h5_0)])]⟩ (here (by kernel_rfl)) ?_
        refine sem_seqJ (fun (j90 : Int × (List Int)) => ⟨[(0, (.sl (List.map cI order))), (5, (.ptr 1000003 0)), (29, (vI (h4_0.length : Int))), (30, (vI s55.1))], [(1000000, .box [(vI j90.1)]), (1000001, .box [(.sl (List.map cI j90.2))]), (1000003, .box [(.fn 63 [(.ptr 1000004 0), (.ptr 1000005 0), (.ptr 1000000 0), (.ptr 1000001 0), (.ptr 1000003 0)])]), (1000004, .box [(.sl (List.map (cS (cS cI)) h4_0))]), (1000005, .box [(vI h5_0)])]⟩) (setup_Best_1_k2 s55) r (by kernel_rfl) (fun j90 h => ?_) ?_
        · refine sem_region (by kernel_rfl) ?_
          refine evs_run 2 (by kernel_rfl) ?_
          refine evs_endS (by kernel_rfl) (fun τ hτ => ?_)
          obtain rfl := Option.some.inj h
          exact lk_nextS hτ (here (by kernel_rfl))
        refine sem_block (by kernel_rfl) ?_
        refine sem_seq (by kernel_rfl) ?_
        refine sem_region (by kernel_rfl) ?_
        refine evs_run 2 (by kernel_rfl) ?_
        refine evs_endS (by kernel_rfl) (fun τ hτ => ?_)
        refine th_normalS hτ ⟨[(0, (.sl (List.map cI order))), (5, (.ptr 1000003 0)), (8, (vI s55.1)), (29, (vI (h4_0.length : Int))), (30, (vI s55.1))], [(1000000, .box [(vI s55.2.1)]), (1000001, .box [(.sl (List.map cI s55.2.2))]), (1000003, .box [(.fn 63 [(.ptr 1000004 0), (.ptr 1000005 0), (.ptr 1000000 0), (.ptr 1000001 0), (.ptr 1000003 0)])]), (1000004, .box [(.sl (List.map (cS (cS cI)) h4_0))]), (1000005, .box [(vI h5_0)])]⟩ (here (by kernel_rfl)) ?_
        refine sem_seq (by kernel_rfl) ?_
        refine sem_region (by kernel_rfl) ?_
        refine evs_run 2 (by kernel_rfl) ?_
        obtain ⟨r92, hr92, h⟩ := bindS h
        refine evs_callP [] (by kernel_rfl) (W.slices_Contains_Lint_int_ok hr92) (by kernel_rfl) (.inl rfl) (by kernel_rfl) ?_
        refine evs_run 1 (by kernel_rfl) ?_
        refine evs_endS (by kernel_rfl) (fun τ hτ => ?_)
        refine th_normalS hτ ⟨[(0, (.sl (List.map cI order))), (5, (.ptr 1000003 0)), (8, (vI s55.1)), (29, (vI (h4_0.length : Int))), (30, (vI s55.1)), (36, (vB (!r92)))], [(1000000, .box [(vI s55.2.1)]), (1000001, .box [(.sl (List.map cI s55.2.2))]), (1000003, .box [(.fn 63 [(.ptr 1000004 0), (.ptr 1000005 0), (.ptr 1000000 0), (.ptr 1000001 0), (.ptr 1000003 0)])]), (1000004, .box [(.sl (List.map (cS (cS cI)) h4_0))]), (1000005, .box [(vI h5_0)])]⟩ (here (by kernel_rfl)) ?_
        refine sem_cond (!r92) (by kernel_rfl) (by kernel_rfl) (fun hb => ?_) (fun hb => ?_)
        · replace h := iteT hb h
          refine sem_draw [(2, [700100]), (5, [700100, 600005])] [(2, [700100]), (5, [600005])] [] [(0, [700100, 600005]), (3, [700100]), (4, [700100])] [(0, [700100, 600005]), (1, [700100, 600005]), (2, [600005]), (3, [700100, 600005]), (4, [700100, 600005])] 6 (by kernel_rfl) (by kernel_rfl) [700100, 600005] (by kernel_rfl) (by kernel_rfl) ?_
          refine evd_run 2 (by kernel_rfl) ?_
          obtain ⟨r99, hr99, h⟩ := bindS h
          refine evd_callS [(0, 700100)] [] (by kernel_rfl) (by kernel_rfl) (W.slices_Clone_Lint_int_ok hr99) (by kernel_rfl) (.inl rfl) (by kernel_rfl) (by kernel_rfl) ?_
          refine evd_run 2 (by kernel_rfl) ?_
          obtain ⟨l100, hl100, h⟩ := bindS h
          refine evd_app (c := cI) (l := r99) (l2 := [s55.1]) (x := (.sl (List.map cI [s55.1]))) (g := 700100) (g2 := 600005) (e := 3) (sz := 1) (d := 42) (by kernel_rfl) (by kernel_rfl) (by kernel_rfl) (by kernel_rfl) (by kernel_rfl) (fun _ => rfl) hl100 (by kernel_rfl) (by kernel_rfl) (by kernel_rfl) (by kernel_rfl) (by kernel_rfl) ?_
          refine evd_end (by kernel_rfl) ?_
          refine evo_prep [.frz 600005] (by kernel_rfl) ?_
          obtain ⟨r101, hr101, h⟩ := bindS h
          refine evo_callS [(1000000, 1000000), (1000001, 1000001), (1000002, 1000003), (1000003, 1000004), (1000004, 1000005)] [] [] (by kernel_rfl) (W.setup_Best_1'_ok hr101) (by kernel_rfl) (by kernel_rfl) (.inl rfl) ?_
          refine evo_endS (by kernel_rfl) (fun τ hτ => ?_)
          refine bl_normal ?_
          exact jk_normal (r101.1, r101.2) h hτ (here (by kernel_rfl))
        · replace h := iteF hb h
          refine sem_skipS (by kernel_rfl) (fun τ hτ => ?_)
          refine bl_normal ?_
          exact jk_normal (s55.2.1, s55.2.2) h hτ (here (by kernel_rfl))
      · replace h := iteF hb h
        refine sem_exitS 0 (by kernel_rfl) rfl (fun τ hτ => ?_)
        refine th_exit ?_
        obtain rfl := Option.some.inj h
        exact lk_outS hτ rfl (here (by kernel_rfl))
    · intro x
      rfl
    · intro τ hτ
      refine bl_hit (by kernel_rfl) ?_
      obtain rfl := Option.some.inj h
      exact rk_normal hτ [] (here (by kernel_rfl)) (by kernel_rfl)
theorem W.setup_Best_1_n_ok : ∀ (n : Nat) {order : (List Int)} {h0_0 : Int} {h2 : (List Int)} {h4_0 : (List (List (List Int)))} {h5_0 : Int} {r : Int × (List Int)}, setup_Best_1_n n order h0_0 h2 h4_0 h5_0 = some r → PC G.P 63 [(.sl (List.map cI order)), (.ptr 1000004 0), (.ptr 1000005 0), (.ptr 1000000 0), (.ptr 1000001 0), (.ptr 1000003 0)] [(1000000, .box [(vI h0_0)]), (1000001, .box [(.row (.top 300002) 3)]), (300002, .row 3 [] (List.map cI h2)), (1000003, .box [(.fn 63 [(.ptr 1000004 0), (.ptr 1000005 0), (.ptr 1000000 0), (.ptr 1000001 0), (.ptr 1000003 0)])]), (1000004, .box [(.sl (List.map (cS (cS cI)) h4_0))]), (1000005, .box [(vI h5_0)])] (.tup []) [(1000000, .box [(vI r.1)]), (1000001, .box [(.sl (List.map cI r.2))]), (1000003, .box [(.fn 63 [(.ptr 1000004 0), (.ptr 1000005 0), (.ptr 1000000 0), (.ptr 1000001 0), (.ptr 1000003 0)])]), (1000004, .box [(.sl (List.map (cS (cS cI)) h4_0))]), (1000005, .box [(vI h5_0)])]
  | 0, _, _, _, _, _, _, h => by simp [setup_Best_1_n] at h
  | n + 1, _, _, _, _, _, _, h => W.setup_Best_1_body_ok (setup_Best_1_n n) (W.setup_Best_1_n_ok n) h
theorem W.setup_Best_1_ok {order : (List Int)} {h0_0 : Int} {h2 : (List Int)} {h4_0 : (List (List (List Int)))} {h5_0 : Int} {r : Int × (List Int)} (h : setup_Best_1 order h0_0 h2 h4_0 h5_0 = some r) : PC G.P 63 [(.sl (List.map cI order)), (.ptr 1000004 0), (.ptr 1000005 0), (.ptr 1000000 0), (.ptr 1000001 0), (.ptr 1000003 0)] [(1000000, .box [(vI h0_0)]), (1000001, .box [(.row (.top 300002) 3)]), (300002, .row 3 [] (List.map cI h2)), (1000003, .box [(.fn 63 [(.ptr 1000004 0), (.ptr 1000005 0), (.ptr 1000000 0), (.ptr 1000001 0), (.ptr 1000003 0)])]), (1000004, .box [(.sl (List.map (cS (cS cI)) h4_0))]), (1000005, .box [(vI h5_0)])] (.tup []) [(1000000, .box [(vI r.1)]), (1000001, .box [(.sl (List.map cI r.2))]), (1000003, .box [(.fn 63 [(.ptr 1000004 0), (.ptr 1000005 0), (.ptr 1000000 0), (.ptr 1000001 0), (.ptr 1000003 0)])]), (1000004, .box [(.sl (List.map (cS (cS cI)) h4_0))]), (1000005, .box [(vI h5_0)])] := W.setup_Best_1_n_ok 1000 h

theorem W.setup_Best_ok {jobs : (List (List (List Int)))} {stations : Int} {r : (List Int) × Int × Int} (h : setup_Best jobs stations = some r) : PC G.P 32 [(.sl (List.map (cS (cS cI)) jobs)), (vI stations)] [] (.tup [(.sl (List.map cI r.1)), (vI r.2.1), (vI r.2.2)]) [] := by
  refine pc_of G (fn := Try.f32) Try.func32 (by kernel_rfl) (by kernel_rfl) (by kernel_rfl) (by kernel_rfl) (by kernel_rfl) ?_
  refine sem_set ⟨[(0, (.sl (List.map (cS (cS cI)) jobs))), (1, (vI stations))], []⟩ (by kernel_rfl) ?_
  refine sem_seq (by kernel_rfl) ?_
  refine sem_region (by kernel_rfl) ?_
  refine evs_run 5 (by kernel_rfl) ?_
  refine evs_endS (by kernel_rfl) (fun τ hτ => ?_)
  refine th_normalS hτ ⟨[(2, (.ptr 2 0)), (3, (.ptr 3 0))], [(2, .box [(.sl (List.map (cS (cS cI)) jobs))]), (3, .box [(vI stations)])]⟩ (here (by kernel_rfl)) ?_
  refine sem_seq (by kernel_rfl) ?_
  refine sem_seq (by kernel_rfl) ?_
  refine sem_region (by kernel_rfl) ?_
  refine evs_run 1 (by kernel_rfl) ?_
  obtain ⟨r4, hr4, h⟩ := bindS h
  refine evs_callP [] (by kernel_rfl) (W.setup_checkJobs_ok hr4) (by kernel_rfl) (.inl rfl) (by kernel_rfl) ?_
  refine evs_run 1 (by kernel_rfl) ?_
  refine evs_endS (by kernel_rfl) (fun τ hτ => ?_)
  refine th_normalS hτ ⟨[(2, (.ptr 2 0)), (3, (.ptr 3 0)), (7, (vI r4))], [(2, .box [(.sl (List.map (cS (cS cI)) jobs))]), (3, .box [(vI stations)])]⟩ (here (by kernel_rfl)) ?_
  refine sem_seq (by kernel_rfl) ?_
  refine sem_region (by kernel_rfl) ?_
  refine evs_run 2 (by kernel_rfl) ?_
  refine evs_endS (by kernel_rfl) (fun τ hτ => ?_)
  refine th_normalS hτ ⟨[(2, (.ptr 2 0)), (3, (.ptr 3 0)), (7, (vI r4)), (14, (vB (r4 != 0)))], [(2, .box [(.sl (List.map (cS (cS cI)) jobs))]), (3, .box [(vI stations)])]⟩ (here (by kernel_rfl)) ?_
  refine sem_cond (r4 != 0) (by kernel_rfl) (by kernel_rfl) (fun hb => ?_) (fun hb => ?_)
  · replace h := iteT hb h
    refine sem_seq (by kernel_rfl) ?_
    refine sem_region (by kernel_rfl) ?_
    refine evs_run 4 (by kernel_rfl) ?_
    refine evs_endS (by kernel_rfl) (fun τ hτ => ?_)
    refine th_normalS hτ ⟨[(4, (.row (.top 4) 3)), (5, (vI 0)), (6, (vI r4))], [(4, .row 3 [] (List.map cI []))]⟩ (here (by kernel_rfl)) ?_
    refine sem_retS (by kernel_rfl) (fun τ hτ => ?_)
    refine th_ret ?_
    obtain rfl := Option.some.inj h
    exact rk_ret hτ [(4, (.sl (List.map cI []))), (5, (vI 0)), (6, (vI r4))] (subR_prep [.frz 4] [] (by kernel_rfl) rfl rfl (by kernel_rfl)) (by kernel_rfl)
  · replace h := iteF hb h
    refine sem_skipS (by kernel_rfl) (fun τ hτ => ?_)
    refine th_normalS hτ ⟨[(2, (.ptr 2 0)), (3, (.ptr 3 0))], [(2, .box [(.sl (List.map (cS (cS cI)) jobs))]), (3, .box [(vI stations)])]⟩ (here (by kernel_rfl)) ?_
    refine sem_seq (by kernel_rfl) ?_
    refine sem_seq (by kernel_rfl) ?_
    obtain ⟨j6, hj6, h⟩ := bindS h
    refine sem_regionC ⟨[(2, (.ptr 500000 0)), (3, (.ptr 500001 0)), (21, (vB j6))], [(500000, .box [(.sl (List.map (cS (cS cI)) jobs))]), (500001, .box [(vI stations)])]⟩ (by kernel_rfl) ?_ (fun τ hτ => ?_)
    · replace h := hj6
      refine evs_run 3 (by kernel_rfl) ?_
      refine evs_split (decide (stations < 1)) (fun b0 => ⟨[(2, (.ptr 2 0)), (3, (.ptr 3 0)), (18, (vB b0))], [(2, .box [(.sl (List.map (cS (cS cI)) jobs))]), (3, .box [(vI stations)])]⟩) (by kernel_rfl) (fun hb => ?_) (fun hb => ?_)
      · replace h := iteT hb h
        refine evs_run 3 (by kernel_rfl) ?_
        refine evs_endS (by kernel_rfl) (fun τ hτ => ?_)
        obtain rfl := Option.some.inj h
        exact leafC hτ (subR_prep [] [(2, 500000), (3, 500001)] (by kernel_rfl) rfl rfl (by kernel_rfl))
      · replace h := iteF hb h
        refine evs_run 3 (by kernel_rfl) ?_
        refine evs_endS (by kernel_rfl) (fun τ hτ => ?_)
        obtain rfl := Option.some.inj h
        exact leafC hτ (subR_prep [] [(2, 500000), (3, 500001)] (by kernel_rfl) rfl rfl (by kernel_rfl))
    refine th_normalS hτ ⟨[(2, (.ptr 500000 0)), (3, (.ptr 500001 0)), (21, (vB j6))], [(500000, .box [(.sl (List.map (cS (cS cI)) jobs))]), (500001, .box [(vI stations)])]⟩ (here (by kernel_rfl)) ?_
    refine sem_cond j6 (by kernel_rfl) (by kernel_rfl) (fun hb => ?_) (fun hb => ?_)
    · replace h := iteT hb h
      refine sem_seq (by kernel_rfl) ?_
      refine sem_region (by kernel_rfl) ?_
      refine evs_run 3 (by kernel_rfl) ?_
      refine evs_endS (by kernel_rfl) (fun τ hτ => ?_)
      refine th_normalS hτ ⟨[(4, (.row (.top 4) 3)), (5, (vI 0)), (6, (vI 1))], [(4, .row 3 [] (List.map cI []))]⟩ (here (by kernel_rfl)) ?_
      refine sem_retS (by kernel_rfl) (fun τ hτ => ?_)
      refine th_ret ?_
      obtain rfl := Option.some.inj h
      exact rk_ret hτ [(4, (.sl (List.map cI []))), (5, (vI 0)), (6, (vI 1))] (subR_prep [.frz 4] [] (by kernel_rfl) rfl rfl (by kernel_rfl)) (by kernel_rfl)
    · replace h := iteF hb h
      refine sem_skipS (by kernel_rfl) (fun τ hτ => ?_)
      refine th_normalS hτ ⟨[(2, (.ptr 500000 0)), (3, (.ptr 500001 0))], [(500000, .box [(.sl (List.map (cS (cS cI)) jobs))]), (500001, .box [(vI stations)])]⟩ (here (by kernel_rfl)) ?_
      refine sem_seq (by kernel_rfl) ?_
      refine sem_seq (by kernel_rfl) ?_
      refine sem_region (by kernel_rfl) ?_
      refine evs_run 1 (by kernel_rfl) ?_
      obtain ⟨r10, hr10, h⟩ := bindS h
      refine evs_callP [] (by kernel_rfl) (W.setup_tooMany_ok hr10) (by kernel_rfl) (.inl rfl) (by kernel_rfl) ?_
      refine evs_endS (by kernel_rfl) (fun τ hτ => ?_)
      refine th_normalS hτ ⟨[(2, (.ptr 500000 0)), (3, (.ptr 500001 0)), (23, (vB r10))], [(500000, .box [(.sl (List.map (cS (cS cI)) jobs))]), (500001, .box [(vI stations)])]⟩ (here (by kernel_rfl)) ?_
      refine sem_cond r10 (by kernel_rfl) (by kernel_rfl) (fun hb => ?_) (fun hb => ?_)
      · replace h := iteT hb h
        refine sem_seq (by kernel_rfl) ?_
        refine sem_region (by kernel_rfl) ?_
        refine evs_run 3 (by kernel_rfl) ?_
        refine evs_endS (by kernel_rfl) (fun τ hτ => ?_)
        refine th_normalS hτ ⟨[(4, (.row (.top 4) 3)), (5, (vI 0)), (6, (vI 4))], [(4, .row 3 [] (List.map cI []))]⟩ (here (by kernel_rfl)) ?_
        refine sem_retS (by kernel_rfl) (fun τ hτ => ?_)
        refine th_ret ?_
        obtain rfl := Option.some.inj h
        exact rk_ret hτ [(4, (.sl (List.map cI []))), (5, (vI 0)), (6, (vI 4))] (subR_prep [.frz 4] [] (by kernel_rfl) rfl rfl (by kernel_rfl)) (by kernel_rfl)
      · replace h := iteF hb h
        refine sem_skipS (by kernel_rfl) (fun τ hτ => ?_)
        refine th_normalS hτ ⟨[(2, (.ptr 500000 0)), (3, (.ptr 500001 0))], [(500000, .box [(.sl (List.map (cS (cS cI)) jobs))]), (500001, .box [(vI stations)])]⟩ (here (by kernel_rfl)) ?_
        refine sem_seq (by kernel_rfl) ?_
        refine sem_region (by kernel_rfl) ?_
        refine evs_run 1 (by kernel_rfl) ?_
        refine evs_prep [.row (.box 8 0) 800008 3 []] (by kernel_rfl) ?_
        refine evs_endS (by kernel_rfl) (fun τ hτ => ?_)
        refine th_normalS hτ ⟨[(2, (.ptr 500000 0)), (3, (.ptr 500001 0)), (8, (.ptr 8 0))], [(8, .box [(.row (.top 800008) 3)]), (500000, .box [(.sl (List.map (cS (cS cI)) jobs))]), (500001, .box [(vI stations)]), (800008, .row 3 [] (List.map cI []))]⟩ (here (by kernel_rfl)) ?_
        refine sem_seq (by kernel_rfl) ?_
        refine sem_region (by kernel_rfl) ?_
        refine evs_run 2 (by kernel_rfl) ?_
        refine evs_endS (by kernel_rfl) (fun τ hτ => ?_)
        refine th_normalS hτ ⟨[(2, (.ptr 500000 0)), (3, (.ptr 500001 0)), (8, (.ptr 8 0)), (9, (.ptr 9 0))], [(8, .box [(.row (.top 800008) 3)]), (9, .box [(vI (-1))]), (500000, .box [(.sl (List.map (cS (cS cI)) jobs))]), (500001, .box [(vI stations)]), (800008, .row 3 [] (List.map cI []))]⟩ (here (by kernel_rfl)) ?_
        refine sem_seq (by kernel_rfl) ?_
        refine sem_region (by kernel_rfl) ?_
        refine evs_run 1 (by kernel_rfl) ?_
        refine evs_endS (by kernel_rfl) (fun τ hτ => ?_)
        refine th_normalS hτ ⟨[(2, (.ptr 500000 0)), (3, (.ptr 500001 0)), (8, (.ptr 8 0)), (9, (.ptr 9 0)), (10, (.ptr 10 0))], [(8, .box [(.row (.top 800008) 3)]), (9, .box [(vI (-1))]), (10, .box [(.lit .nilFunc)]), (500000, .box [(.sl (List.map (cS (cS cI)) jobs))]), (500001, .box [(vI stations)]), (800008, .row 3 [] (List.map cI []))]⟩ (here (by kernel_rfl)) ?_
        refine sem_seq (by kernel_rfl) ?_
        refine sem_region (by kernel_rfl) ?_
        refine evs_run 2 (by kernel_rfl) ?_
        refine evs_endS (by kernel_rfl) (fun τ hτ => ?_)
        refine th_normalS hτ ⟨[(8, (.ptr 8 0)), (9, (.ptr 9 0)), (10, (.ptr 10 0))], [(8, .box [(.row (.top 800008) 3)]), (9, .box [(vI (-1))]), (10, .box [(.fn 63 [(.ptr 500000 0), (.ptr 500001 0), (.ptr 9 0), (.ptr 8 0), (.ptr 10 0)])]), (500000, .box [(.sl (List.map (cS (cS cI)) jobs))]), (500001, .box [(vI stations)]), (800008, .row 3 [] (List.map cI []))]⟩ (here (by kernel_rfl)) ?_
        refine sem_seq (by kernel_rfl) ?_
        refine sem_region (by kernel_rfl) ?_
        refine evs_run 1 (by kernel_rfl) ?_
        obtain ⟨r12, hr12, h⟩ := bindS h
        refine evs_callS [(1000000, 9), (1000001, 8), (300002, 800008), (1000003, 10), (1000004, 500000), (1000005, 500001)] [] [] (by kernel_rfl) (W.setup_Best_1_ok hr12) (by kernel_rfl) (by kernel_rfl) (.inl rfl) ?_
        refine evs_endS (by kernel_rfl) (fun τ hτ => ?_)
        refine th_normalS hτ ⟨[(8, (.ptr 8 0)), (9, (.ptr 9 0))], [(8, .box [(.sl (List.map cI r12.2))]), (9, .box [(vI r12.1)])]⟩ (here (by kernel_rfl)) ?_
        refine sem_seq (by kernel_rfl) ?_
        refine sem_drawN [] [] [] [] [] 3 (by kernel_rfl) (by kernel_rfl) (by kernel_rfl) ?_
        refine evd_run 3 (by kernel_rfl) ?_
        refine evd_end (by kernel_rfl) ?_
        refine evo_run 2 (by kernel_rfl) ?_
        refine evo_endS (by kernel_rfl) (fun τ hτ => ?_)
        refine th_normalS hτ ⟨[(4, (.sl (List.map cI r12.2))), (5, (vI r12.1)), (6, (vI 0))], []⟩ (here (by kernel_rfl)) ?_
        refine sem_retS (by kernel_rfl) (fun τ hτ => ?_)
        obtain rfl := Option.some.inj h
        exact rk_ret hτ [(4, (.sl (List.map cI r12.2))), (5, (vI r12.1)), (6, (vI 0))] (here (by kernel_rfl)) (by kernel_rfl)
end Go.Proofs.Ytppmnjiibmomoaa
