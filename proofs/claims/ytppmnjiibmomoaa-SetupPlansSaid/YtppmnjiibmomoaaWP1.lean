/- Each Go function does what its model says; written by a program out of the translation. -/
import Derived.Test.YtppmnjiibmomoaaWP
import Derived.Test.YtppmnjiibmomoaaSeMP
set_option linter.unusedVariables false
set_option linter.unusedSimpArgs false
set_option linter.unusedSectionVars false
namespace Go.Proofs.Ytppmnjiibmomoaa
open Go Go.VI Go.SM Go.Proofs
set_option maxRecDepth 100000
set_option maxHeartbeats 4000000
theorem W.sheetmetalref05_Check0_ok {needs : (List (List Int))} {stations : Int} {r : Int} (h : sheetmetalref05_Check0 needs stations = some r) : PC G.P 47 [(.sl (List.map (cS cI) needs)), (vI stations)] [] (vI r) [] := by
  refine pc_of G (fn := Try.f47) Try.func47 (by kernel_rfl) (by kernel_rfl) (by kernel_rfl) (by kernel_rfl) (by kernel_rfl) ?_
  refine sem_set ⟨[(0, (.sl (List.map (cS cI) needs))), (1, (vI stations))], []⟩ (by kernel_rfl) ?_
  refine sem_seq (by kernel_rfl) ?_
  refine sem_region (by kernel_rfl) ?_
  refine evs_run 1 (by kernel_rfl) ?_
  refine evs_endS (by kernel_rfl) (fun τ hτ => ?_)
  refine th_normalS hτ ⟨[(0, (.sl (List.map (cS cI) needs))), (1, (vI stations))], []⟩ (here (by kernel_rfl)) ?_
  refine sem_seq (by kernel_rfl) ?_
  refine sem_seq (by kernel_rfl) ?_
  refine sem_region (by kernel_rfl) ?_
  refine evs_run 1 (by kernel_rfl) ?_
  obtain ⟨r4, hr4, h⟩ := bindS h
  refine evs_callP [] (by kernel_rfl) (W.sheetmetalref05_Validate_ok hr4) (by kernel_rfl) (.inl rfl) (by kernel_rfl) ?_
  refine evs_run 1 (by kernel_rfl) ?_
  refine evs_endS (by kernel_rfl) (fun τ hτ => ?_)
  refine th_normalS hτ ⟨[(1, (vI stations)), (5, (vI r4))], []⟩ (here (by kernel_rfl)) ?_
  refine sem_seq (by kernel_rfl) ?_
  refine sem_region (by kernel_rfl) ?_
  refine evs_run 2 (by kernel_rfl) ?_
  refine evs_endS (by kernel_rfl) (fun τ hτ => ?_)
  refine th_normalS hτ ⟨[(1, (vI stations)), (5, (vI r4)), (9, (vB (r4 != 0)))], []⟩ (here (by kernel_rfl)) ?_
  refine sem_cond (r4 != 0) (by kernel_rfl) (by kernel_rfl) (fun hb => ?_) (fun hb => ?_)
  · replace h := iteT hb h
    refine sem_seq (by kernel_rfl) ?_
    refine sem_region (by kernel_rfl) ?_
    refine evs_run 2 (by kernel_rfl) ?_
    refine evs_endS (by kernel_rfl) (fun τ hτ => ?_)
    refine th_normalS hτ ⟨[(4, (vI r4))], []⟩ (here (by kernel_rfl)) ?_
    refine sem_retS (by kernel_rfl) (fun τ hτ => ?_)
    refine th_ret ?_
    obtain rfl := Option.some.inj h
    exact rk_ret hτ [(4, (vI r4))] (here (by kernel_rfl)) (by kernel_rfl)
  · replace h := iteF hb h
    refine sem_skipS (by kernel_rfl) (fun τ hτ => ?_)
    refine th_normalS hτ ⟨[(1, (vI stations))], []⟩ (here (by kernel_rfl)) ?_
    refine sem_seq (by kernel_rfl) ?_
    refine sem_seq (by kernel_rfl) ?_
    refine sem_region (by kernel_rfl) ?_
    refine evs_run 1 (by kernel_rfl) ?_
    obtain ⟨r8, hr8, h⟩ := bindS h
    refine evs_callP [] (by kernel_rfl) (W.sheetmetalref05_within_ok hr8) (by kernel_rfl) (.inl rfl) (by kernel_rfl) ?_
    refine evs_run 1 (by kernel_rfl) ?_
    refine evs_endS (by kernel_rfl) (fun τ hτ => ?_)
    refine th_normalS hτ ⟨[(13, (vB (!r8)))], []⟩ (here (by kernel_rfl)) ?_
    refine sem_cond (!r8) (by kernel_rfl) (by kernel_rfl) (fun hb => ?_) (fun hb => ?_)
    · replace h := iteT hb h
      refine sem_seq (by kernel_rfl) ?_
      refine sem_region (by kernel_rfl) ?_
      refine evs_run 1 (by kernel_rfl) ?_
      refine evs_endS (by kernel_rfl) (fun τ hτ => ?_)
      refine th_normalS hτ ⟨[(4, (vI 1))], []⟩ (here (by kernel_rfl)) ?_
      refine sem_retS (by kernel_rfl) (fun τ hτ => ?_)
      refine th_ret ?_
      obtain rfl := Option.some.inj h
      exact rk_ret hτ [(4, (vI 1))] (here (by kernel_rfl)) (by kernel_rfl)
    · replace h := iteF hb h
      refine sem_skipS (by kernel_rfl) (fun τ hτ => ?_)
      refine th_normalS hτ ⟨[], []⟩ (here (by kernel_rfl)) ?_
      refine sem_seq (by kernel_rfl) ?_
      refine sem_region (by kernel_rfl) ?_
      refine evs_run 1 (by kernel_rfl) ?_
      refine evs_endS (by kernel_rfl) (fun τ hτ => ?_)
      refine th_normalS hτ ⟨[(4, (vI 0))], []⟩ (here (by kernel_rfl)) ?_
      refine sem_retS (by kernel_rfl) (fun τ hτ => ?_)
      obtain rfl := Option.some.inj h
      exact rk_ret hτ [(4, (vI 0))] (here (by kernel_rfl)) (by kernel_rfl)
theorem W.sheetmetalref05_count_ok {n : Int} {r : Int} (h : sheetmetalref05_count n = some r) : PC G.P 79 [(vI n)] [] (vI r) [] := by
  refine pc_of G (fn := Try.f79) Try.func79 (by kernel_rfl) (by kernel_rfl) (by kernel_rfl) (by kernel_rfl) (by kernel_rfl) ?_
  refine sem_set ⟨[(0, (vI n))], []⟩ (by kernel_rfl) ?_
  refine sem_seq (by kernel_rfl) ?_
  refine sem_region (by kernel_rfl) ?_
  refine evs_run 1 (by kernel_rfl) ?_
  refine evs_endS (by kernel_rfl) (fun τ hτ => ?_)
  refine th_normalS hτ ⟨[(0, (vI n))], []⟩ (here (by kernel_rfl)) ?_
  refine sem_seq (by kernel_rfl) ?_
  refine sem_region (by kernel_rfl) ?_
  refine evs_run 1 (by kernel_rfl) ?_
  refine evs_endS (by kernel_rfl) (fun τ hτ => ?_)
  refine th_normalS hτ ⟨[(0, (vI n)), (3, (vI 0))], []⟩ (here (by kernel_rfl)) ?_
  refine sem_seq (by kernel_rfl) ?_
  refine sem_block (by kernel_rfl) ?_
  obtain ⟨x6, hx6, h⟩ := bindS h
  refine sem_loopS (fun (s5 : Int × Int) => ⟨[(0, (vI s5.1)), (3, (vI s5.2))], []⟩) (fun (x6 : Int) => (.exit 0, ⟨[(3, (vI x6))], []⟩)) (sheetmetalref05_count_l1) (n, 0) x6 (by kernel_rfl) (here (by kernel_rfl)) hx6 ?_ ?_ ?_
  · intro s5 r h
    refine sem_seq (by kernel_rfl) ?_
    refine sem_seq (by kernel_rfl) ?_
    refine sem_region (by kernel_rfl) ?_
    refine evs_run 2 (by kernel_rfl) ?_
    refine evs_endS (by kernel_rfl) (fun τ hτ => ?_)
    refine th_normalS hτ ⟨[(0, (vI s5.1)), (3, (vI s5.2)), (5, (vB (decide (s5.1 > 0))))], []⟩ (here (by kernel_rfl)) ?_
    refine sem_cond (decide (s5.1 > 0)) (by kernel_rfl) (by kernel_rfl) (fun hb => ?_) (fun hb => ?_)
    · replace h := iteT hb h
      refine sem_skipS (by kernel_rfl) (fun τ hτ => ?_)
      refine th_normalS hτ ⟨[(0, (vI s5.1)), (3, (vI s5.2))], []⟩ (here (by kernel_rfl)) ?_
      refine sem_block (by kernel_rfl) ?_
      refine sem_seq (by kernel_rfl) ?_
      refine sem_region (by kernel_rfl) ?_
      refine evs_run 5 (by kernel_rfl) ?_
      refine evs_endS (by kernel_rfl) (fun τ hτ => ?_)
      refine th_normalS hτ ⟨[(0, (vI s5.1)), (3, (vI (iadd s5.2 (kand .i64 s5.1 1))))], []⟩ (here (by kernel_rfl)) ?_
      refine sem_region (by kernel_rfl) ?_
      refine evs_run 3 (by kernel_rfl) ?_
      refine evs_endS (by kernel_rfl) (fun τ hτ => ?_)
      refine bl_normal ?_
      obtain rfl := Option.some.inj h
      exact lk_nextS hτ (here (by kernel_rfl))
    · replace h := iteF hb h
      refine sem_exitS 0 (by kernel_rfl) rfl (fun τ hτ => ?_)
      refine th_exit ?_
      obtain rfl := Option.some.inj h
      exact lk_outS hτ rfl (here (by kernel_rfl))
  · intro x
    rfl
  · intro τ hτ
    refine bl_hit (by kernel_rfl) ?_
    refine th_normalS hτ ⟨[(3, (vI x6))], []⟩ (here (by kernel_rfl)) ?_
    refine sem_seq (by kernel_rfl) ?_
    refine sem_region (by kernel_rfl) ?_
    refine evs_run 2 (by kernel_rfl) ?_
    refine evs_endS (by kernel_rfl) (fun τ hτ => ?_)
    refine th_normalS hτ ⟨[(2, (vI x6))], []⟩ (here (by kernel_rfl)) ?_
    refine sem_retS (by kernel_rfl) (fun τ hτ => ?_)
    obtain rfl := Option.some.inj h
    exact rk_ret hτ [(2, (vI x6))] (here (by kernel_rfl)) (by kernel_rfl)
theorem W.sheetmetalref05_bits_ok {l : (List Int)} {r : Int} (h : sheetmetalref05_bits l = some r) : PC G.P 54 [(.sl (List.map cI l))] [] (vI r) [] := by
  refine pc_of G (fn := Try.f54) Try.func54 (by kernel_rfl) (by kernel_rfl) (by kernel_rfl) (by kernel_rfl) (by kernel_rfl) ?_
  refine sem_set ⟨[(0, (.sl (List.map cI l)))], []⟩ (by kernel_rfl) ?_
  refine sem_seq (by kernel_rfl) ?_
  refine sem_region (by kernel_rfl) ?_
  refine evs_run 1 (by kernel_rfl) ?_
  refine evs_endS (by kernel_rfl) (fun τ hτ => ?_)
  refine th_normalS hτ ⟨[(0, (.sl (List.map cI l)))], []⟩ (here (by kernel_rfl)) ?_
  refine sem_seq (by kernel_rfl) ?_
  refine sem_region (by kernel_rfl) ?_
  refine evs_run 1 (by kernel_rfl) ?_
  refine evs_endS (by kernel_rfl) (fun τ hτ => ?_)
  refine th_normalS hτ ⟨[(0, (.sl (List.map cI l))), (3, (vI 0))], []⟩ (here (by kernel_rfl)) ?_
  refine sem_seq (by kernel_rfl) ?_
  refine sem_seq (by kernel_rfl) ?_
  refine sem_region (by kernel_rfl) ?_
  refine evs_run 1 (by kernel_rfl) ?_
  refine evs_endS (by kernel_rfl) (fun τ hτ => ?_)
  refine th_normalS hτ ⟨[(0, (.sl (List.map cI l))), (3, (vI 0)), (4, (vI 0))], []⟩ (here (by kernel_rfl)) ?_
  refine sem_block (by kernel_rfl) ?_
  obtain ⟨x30, hx30, h⟩ := bindS h
  refine sem_loopS (fun (s21 : Int × Int) => ⟨[(0, (.sl (List.map cI l))), (3, (vI s21.1)), (4, (vI s21.2))], []⟩) (fun (x30 : Int) => (.exit 0, ⟨[(3, (vI x30))], []⟩)) (sheetmetalref05_bits_l1 l) (0, 0) x30 (by kernel_rfl) (here (by kernel_rfl)) hx30 ?_ ?_ ?_
  · intro s21 r h
    refine sem_seq (by kernel_rfl) ?_
    refine sem_seq (by kernel_rfl) ?_
    refine sem_region (by kernel_rfl) ?_
    refine evs_run 2 (by kernel_rfl) ?_
    refine evs_op (st_len (c := cI) (l := l) (x := (.sl (List.map cI l))) (by kernel_rfl) (by kernel_rfl)) ?_
    refine evs_run 1 (by kernel_rfl) ?_
    refine evs_endS (by kernel_rfl) (fun τ hτ => ?_)
    refine th_normalS hτ ⟨[(0, (.sl (List.map cI l))), (3, (vI s21.1)), (4, (vI s21.2)), (8, (vB (decide (s21.2 < (l.length : Int)))))], []⟩ (here (by kernel_rfl)) ?_
    refine sem_cond (decide (s21.2 < (l.length : Int))) (by kernel_rfl) (by kernel_rfl) (fun hb => ?_) (fun hb => ?_)
    · replace h := iteT hb h
      refine sem_skipS (by kernel_rfl) (fun τ hτ => ?_)
      refine th_normalS hτ ⟨[(0, (.sl (List.map cI l))), (3, (vI s21.1)), (4, (vI s21.2))], []⟩ (here (by kernel_rfl)) ?_
      refine sem_seq (by kernel_rfl) ?_
      refine sem_block (by kernel_rfl) ?_
      refine sem_region (by kernel_rfl) ?_
      refine evs_run 3 (by kernel_rfl) ?_
      obtain ⟨x29, hx29, h⟩ := bindS h
      refine evs_op (st_idx (c := cI) (l := l) (i := s21.2) (kd := .i64) (sz := 1) (by kernel_rfl) hx29 rfl) ?_
      refine evs_run 2 (by kernel_rfl) ?_
      obtain ⟨hb, h⟩ := iteN h
      refine evs_op (st_shl (a := 1) (b := (IntKind.wrap .u64 x29)) (kd := .i64) (k2 := .u64) (by kernel_rfl) (of_decide_eq_true hb)) ?_
      refine evs_run 2 (by kernel_rfl) ?_
      refine evs_endS (by kernel_rfl) (fun τ hτ => ?_)
      refine bl_normal ?_
      refine th_normalS hτ ⟨[(0, (.sl (List.map cI l))), (3, (vI (kor .i64 s21.1 (IntKind.wrap .i64 (1 * 2 ^ (min (Int.toNat (IntKind.wrap .u64 x29)) 64)))))), (4, (vI s21.2))], []⟩ (here (by kernel_rfl)) ?_
      refine sem_region (by kernel_rfl) ?_
      refine evs_run 3 (by kernel_rfl) ?_
      refine evs_endS (by kernel_rfl) (fun τ hτ => ?_)
      obtain rfl := Option.some.inj h
      exact lk_nextS hτ (here (by kernel_rfl))
    · replace h := iteF hb h
      refine sem_exitS 0 (by kernel_rfl) rfl (fun τ hτ => ?_)
      refine th_exit ?_
      obtain rfl := Option.some.inj h
      exact lk_outS hτ rfl (here (by kernel_rfl))
  · intro x
    rfl
  · intro τ hτ
    refine bl_hit (by kernel_rfl) ?_
    refine th_normalS hτ ⟨[(3, (vI x30))], []⟩ (here (by kernel_rfl)) ?_
    refine sem_seq (by kernel_rfl) ?_
    refine sem_region (by kernel_rfl) ?_
    refine evs_run 2 (by kernel_rfl) ?_
    refine evs_endS (by kernel_rfl) (fun τ hτ => ?_)
    refine th_normalS hτ ⟨[(2, (vI x30))], []⟩ (here (by kernel_rfl)) ?_
    refine sem_retS (by kernel_rfl) (fun τ hτ => ?_)
    obtain rfl := Option.some.inj h
    exact rk_ret hτ [(2, (vI x30))] (here (by kernel_rfl)) (by kernel_rfl)
theorem W.sheetmetalref05_serves_ok {needs : (List (List Int))} {from1 : Int} {to2 : Int} {set3 : Int} {r : Bool} (h : sheetmetalref05_serves needs from1 to2 set3 = some r) : PC G.P 53 [(.sl (List.map (cS cI) needs)), (vI from1), (vI to2), (vI set3)] [] (vB r) [] := by
  refine pc_of G (fn := Try.f53) Try.func53 (by kernel_rfl) (by kernel_rfl) (by kernel_rfl) (by kernel_rfl) (by kernel_rfl) ?_
  refine sem_set ⟨[(0, (.sl (List.map (cS cI) needs))), (1, (vI from1)), (2, (vI to2)), (3, (vI set3))], []⟩ (by kernel_rfl) ?_
  refine sem_seq (by kernel_rfl) ?_
  refine sem_region (by kernel_rfl) ?_
  refine evs_run 1 (by kernel_rfl) ?_
  refine evs_endS (by kernel_rfl) (fun τ hτ => ?_)
  refine th_normalS hτ ⟨[(0, (.sl (List.map (cS cI) needs))), (1, (vI from1)), (2, (vI to2)), (3, (vI set3))], []⟩ (here (by kernel_rfl)) ?_
  refine sem_seq (by kernel_rfl) ?_
  refine sem_seq (by kernel_rfl) ?_
  refine sem_region (by kernel_rfl) ?_
  refine evs_run 2 (by kernel_rfl) ?_
  refine evs_endS (by kernel_rfl) (fun τ hτ => ?_)
  refine th_normalS hτ ⟨[(0, (.sl (List.map (cS cI) needs))), (2, (vI to2)), (3, (vI set3)), (9, (vI from1))], []⟩ (here (by kernel_rfl)) ?_
  refine sem_block (by kernel_rfl) ?_
  obtain ⟨x56, hx56, h⟩ := bindS h
  refine sem_loopS (fun (s39 : Int) => ⟨[(0, (.sl (List.map (cS cI) needs))), (2, (vI to2)), (3, (vI set3)), (9, (vI s39))], []⟩) (fun (x56 : Unit ⊕ Unit) => match x56 with | .inl j57 => (.ret, ⟨[(8, (vB false))], []⟩) | .inr j58 => (.exit 0, ⟨[], []⟩)) (sheetmetalref05_serves_l1 needs to2 set3) from1 x56 (by kernel_rfl) (here (by kernel_rfl)) hx56 ?_ ?_ ?_
  · intro s39 r h
    refine sem_seq (by kernel_rfl) ?_
    refine sem_seq (by kernel_rfl) ?_
    refine sem_region (by kernel_rfl) ?_
    refine evs_run 3 (by kernel_rfl) ?_
    refine evs_endS (by kernel_rfl) (fun τ hτ => ?_)
    refine th_normalS hτ ⟨[(0, (.sl (List.map (cS cI) needs))), (2, (vI to2)), (3, (vI set3)), (9, (vI s39)), (13, (vB (decide (s39 ≤ to2))))], []⟩ (here (by kernel_rfl)) ?_
    refine sem_cond (decide (s39 ≤ to2)) (by kernel_rfl) (by kernel_rfl) (fun hb => ?_) (fun hb => ?_)
    · replace h := iteT hb h
      refine sem_skipS (by kernel_rfl) (fun τ hτ => ?_)
      refine th_normalS hτ ⟨[(0, (.sl (List.map (cS cI) needs))), (2, (vI to2)), (3, (vI set3)), (9, (vI s39))], []⟩ (here (by kernel_rfl)) ?_
      refine sem_seq (by kernel_rfl) ?_
      refine sem_block (by kernel_rfl) ?_
      refine sem_seq (by kernel_rfl) ?_
      refine sem_region (by kernel_rfl) ?_
      refine evs_run 2 (by kernel_rfl) ?_
      obtain ⟨x54, hx54, h⟩ := bindS h
      refine evs_op (st_idx (c := (cS cI)) (l := needs) (i := s39) (kd := .i64) (sz := 1) (by kernel_rfl) hx54 rfl) ?_
      refine evs_run 1 (by kernel_rfl) ?_
      obtain ⟨r55, hr55, h⟩ := bindS h
      refine evs_callP [] (by kernel_rfl) (W.sheetmetalref05_bits_ok hr55) (by kernel_rfl) (.inl rfl) (by kernel_rfl) ?_
      refine evs_run 3 (by kernel_rfl) ?_
      refine evs_endS (by kernel_rfl) (fun τ hτ => ?_)
      refine th_normalS hτ ⟨[(0, (.sl (List.map (cS cI) needs))), (2, (vI to2)), (3, (vI set3)), (9, (vI s39)), (23, (vB ((kand .i64 r55 set3) == 0)))], []⟩ (here (by kernel_rfl)) ?_
      refine sem_cond ((kand .i64 r55 set3) == 0) (by kernel_rfl) (by kernel_rfl) (fun hb => ?_) (fun hb => ?_)
      · replace h := iteT hb h
        refine sem_seq (by kernel_rfl) ?_
        refine sem_region (by kernel_rfl) ?_
        refine evs_run 1 (by kernel_rfl) ?_
        refine evs_endS (by kernel_rfl) (fun τ hτ => ?_)
        refine th_normalS hτ ⟨[(8, (vB false))], []⟩ (here (by kernel_rfl)) ?_
        refine sem_retS (by kernel_rfl) (fun τ hτ => ?_)
        refine bl_ret ?_
        refine th_ret ?_
        obtain rfl := Option.some.inj h
        exact lk_outS hτ rfl (here (by kernel_rfl))
      · replace h := iteF hb h
        refine sem_skipS (by kernel_rfl) (fun τ hτ => ?_)
        refine bl_normal ?_
        refine th_normalS hτ ⟨[(0, (.sl (List.map (cS cI) needs))), (2, (vI to2)), (3, (vI set3)), (9, (vI s39))], []⟩ (here (by kernel_rfl)) ?_
        refine sem_region (by kernel_rfl) ?_
        refine evs_run 3 (by kernel_rfl) ?_
        refine evs_endS (by kernel_rfl) (fun τ hτ => ?_)
        obtain rfl := Option.some.inj h
        exact lk_nextS hτ (here (by kernel_rfl))
    · replace h := iteF hb h
      refine sem_exitS 0 (by kernel_rfl) rfl (fun τ hτ => ?_)
      refine th_exit ?_
      obtain rfl := Option.some.inj h
      exact lk_outS hτ rfl (here (by kernel_rfl))
  · intro x
    rcases x with _ | _ <;> rfl
  · intro τ hτ
    rcases x56 with j57 | j58
    · refine bl_ret ?_
      refine th_ret ?_
      obtain rfl := Option.some.inj h
      exact rk_ret hτ [(8, (vB false))] (here (by kernel_rfl)) (by kernel_rfl)
    · refine bl_hit (by kernel_rfl) ?_
      refine th_normalS hτ ⟨[], []⟩ (here (by kernel_rfl)) ?_
      refine sem_seq (by kernel_rfl) ?_
      refine sem_region (by kernel_rfl) ?_
      refine evs_run 1 (by kernel_rfl) ?_
      refine evs_endS (by kernel_rfl) (fun τ hτ => ?_)
      refine th_normalS hτ ⟨[(8, (vB true))], []⟩ (here (by kernel_rfl)) ?_
      refine sem_retS (by kernel_rfl) (fun τ hτ => ?_)
      obtain rfl := Option.some.inj h
      exact rk_ret hτ [(8, (vB true))] (here (by kernel_rfl)) (by kernel_rfl)
theorem W.slices_Index_Lint_int_ok {s0 : (List Int)} {v : Int} {r : Int} (h : slices_Index_Lint_int s0 v = some r) : PC G.P 81 [(.sl (List.map cI s0)), (vI v)] [] (vI r) [] := by
  refine pc_of G (fn := Try.f81) Try.func81 (by kernel_rfl) (by kernel_rfl) (by kernel_rfl) (by kernel_rfl) (by kernel_rfl) ?_
  refine sem_set ⟨[(0, (.sl (List.map cI s0))), (1, (vI v))], []⟩ (by kernel_rfl) ?_
  refine sem_seq (by kernel_rfl) ?_
  refine sem_region (by kernel_rfl) ?_
  refine evs_run 1 (by kernel_rfl) ?_
  refine evs_endS (by kernel_rfl) (fun τ hτ => ?_)
  refine th_normalS hτ ⟨[(0, (.sl (List.map cI s0))), (1, (vI v))], []⟩ (here (by kernel_rfl)) ?_
  refine sem_seq (by kernel_rfl) ?_
  refine sem_seq (by kernel_rfl) ?_
  refine sem_region (by kernel_rfl) ?_
  refine evs_run 1 (by kernel_rfl) ?_
  refine evs_op (st_len (c := cI) (l := s0) (x := (.sl (List.map cI s0))) (by kernel_rfl) (by kernel_rfl)) ?_
  refine evs_run 1 (by kernel_rfl) ?_
  refine evs_endS (by kernel_rfl) (fun τ hτ => ?_)
  refine th_normalS hτ ⟨[(0, (.sl (List.map cI s0))), (1, (vI v)), (7, (vI (s0.length : Int))), (8, (vI 0))], []⟩ (here (by kernel_rfl)) ?_
  refine sem_block (by kernel_rfl) ?_
  obtain ⟨x32, hx32, h⟩ := bindS h
  refine sem_loopS (fun (s23 : Int) => ⟨[(0, (.sl (List.map cI s0))), (1, (vI v)), (7, (vI (s0.length : Int))), (8, (vI s23))], []⟩) (fun (x32 : Int ⊕ Unit) => match x32 with | .inl j33 => (.ret, ⟨[(4, (vI j33))], []⟩) | .inr j34 => (.exit 0, ⟨[], []⟩)) (slices_Index_Lint_int_l1 s0 v) 0 x32 (by kernel_rfl) (here (by kernel_rfl)) hx32 ?_ ?_ ?_
  · intro s23 r h
    refine sem_seq (by kernel_rfl) ?_
    refine sem_region (by kernel_rfl) ?_
    refine evs_run 1 (by kernel_rfl) ?_
    refine evs_endS (by kernel_rfl) (fun τ hτ => ?_)
    refine th_normalS hτ ⟨[(0, (.sl (List.map cI s0))), (1, (vI v)), (7, (vI (s0.length : Int))), (8, (vI s23)), (9, (vB (decide (s23 < (s0.length : Int)))))], []⟩ (here (by kernel_rfl)) ?_
    refine sem_seq (by kernel_rfl) ?_
    refine sem_cond (decide (s23 < (s0.length : Int))) (by kernel_rfl) (by kernel_rfl) (fun hb => ?_) (fun hb => ?_)
    · replace h := iteT hb h
      refine sem_skipS (by kernel_rfl) (fun τ hτ => ?_)
      refine th_normalS hτ ⟨[(0, (.sl (List.map cI s0))), (1, (vI v)), (7, (vI (s0.length : Int))), (8, (vI s23))], []⟩ (here (by kernel_rfl)) ?_
      refine sem_seq (by kernel_rfl) ?_
      refine sem_block (by kernel_rfl) ?_
      refine sem_seq (by kernel_rfl) ?_
      refine sem_region (by kernel_rfl) ?_
      refine evs_run 2 (by kernel_rfl) ?_
      refine evs_endS (by kernel_rfl) (fun τ hτ => ?_)
      refine th_normalS hτ ⟨[(0, (.sl (List.map cI s0))), (1, (vI v)), (5, (vI s23)), (7, (vI (s0.length : Int))), (8, (vI s23))], []⟩ (here (by kernel_rfl)) ?_
      refine sem_seq (by kernel_rfl) ?_
      refine sem_region (by kernel_rfl) ?_
      refine evs_run 3 (by kernel_rfl) ?_
      obtain ⟨x31, hx31, h⟩ := bindS h
      refine evs_op (st_idx (c := cI) (l := s0) (i := s23) (kd := .i64) (sz := 1) (by kernel_rfl) hx31 rfl) ?_
      refine evs_run 2 (by kernel_rfl) ?_
      refine evs_endS (by kernel_rfl) (fun τ hτ => ?_)
      refine th_normalS hτ ⟨[(0, (.sl (List.map cI s0))), (1, (vI v)), (5, (vI s23)), (7, (vI (s0.length : Int))), (8, (vI s23)), (16, (vB (v == x31)))], []⟩ (here (by kernel_rfl)) ?_
      refine sem_cond (v == x31) (by kernel_rfl) (by kernel_rfl) (fun hb => ?_) (fun hb => ?_)
      · replace h := iteT hb h
        refine sem_seq (by kernel_rfl) ?_
        refine sem_region (by kernel_rfl) ?_
        refine evs_run 2 (by kernel_rfl) ?_
        refine evs_endS (by kernel_rfl) (fun τ hτ => ?_)
        refine th_normalS hτ ⟨[(4, (vI s23))], []⟩ (here (by kernel_rfl)) ?_
        refine sem_retS (by kernel_rfl) (fun τ hτ => ?_)
        refine bl_ret ?_
        refine th_ret ?_
        obtain rfl := Option.some.inj h
        exact lk_outS hτ rfl (here (by kernel_rfl))
      · replace h := iteF hb h
        refine sem_skipS (by kernel_rfl) (fun τ hτ => ?_)
        refine bl_normal ?_
        refine th_normalS hτ ⟨[(0, (.sl (List.map cI s0))), (1, (vI v)), (7, (vI (s0.length : Int))), (8, (vI s23))], []⟩ (here (by kernel_rfl)) ?_
        refine sem_region (by kernel_rfl) ?_
        refine evs_run 2 (by kernel_rfl) ?_
        refine evs_endS (by kernel_rfl) (fun τ hτ => ?_)
        obtain rfl := Option.some.inj h
        exact lk_nextS hτ (here (by kernel_rfl))
    · replace h := iteF hb h
      refine sem_exitS 0 (by kernel_rfl) rfl (fun τ hτ => ?_)
      refine th_exit ?_
      obtain rfl := Option.some.inj h
      exact lk_outS hτ rfl (here (by kernel_rfl))
  · intro x
    rcases x with _ | _ <;> rfl
  · intro τ hτ
    rcases x32 with j33 | j34
    · refine bl_ret ?_
      refine th_ret ?_
      obtain rfl := Option.some.inj h
      exact rk_ret hτ [(4, (vI j33))] (here (by kernel_rfl)) (by kernel_rfl)
    · refine bl_hit (by kernel_rfl) ?_
      refine th_normalS hτ ⟨[], []⟩ (here (by kernel_rfl)) ?_
      refine sem_seq (by kernel_rfl) ?_
      refine sem_region (by kernel_rfl) ?_
      refine evs_run 1 (by kernel_rfl) ?_
      refine evs_endS (by kernel_rfl) (fun τ hτ => ?_)
      refine th_normalS hτ ⟨[(4, (vI (-1)))], []⟩ (here (by kernel_rfl)) ?_
      refine sem_retS (by kernel_rfl) (fun τ hτ => ?_)
      obtain rfl := Option.some.inj h
      exact rk_ret hτ [(4, (vI (-1)))] (here (by kernel_rfl)) (by kernel_rfl)
theorem W.slices_Contains_Lint_int_ok {s0 : (List Int)} {v : Int} {r : Bool} (h : slices_Contains_Lint_int s0 v = some r) : PC G.P 64 [(.sl (List.map cI s0)), (vI v)] [] (vB r) [] := by
  refine pc_of G (fn := Try.f64) Try.func64 (by kernel_rfl) (by kernel_rfl) (by kernel_rfl) (by kernel_rfl) (by kernel_rfl) ?_
  refine sem_set ⟨[(0, (.sl (List.map cI s0))), (1, (vI v))], []⟩ (by kernel_rfl) ?_
  refine sem_seq (by kernel_rfl) ?_
  refine sem_region (by kernel_rfl) ?_
  refine evs_run 1 (by kernel_rfl) ?_
  refine evs_endS (by kernel_rfl) (fun τ hτ => ?_)
  refine th_normalS hτ ⟨[(0, (.sl (List.map cI s0))), (1, (vI v))], []⟩ (here (by kernel_rfl)) ?_
  refine sem_seq (by kernel_rfl) ?_
  refine sem_region (by kernel_rfl) ?_
  refine evs_run 2 (by kernel_rfl) ?_
  obtain ⟨r2, hr2, h⟩ := bindS h
  refine evs_callP [] (by kernel_rfl) (W.slices_Index_Lint_int_ok hr2) (by kernel_rfl) (.inl rfl) (by kernel_rfl) ?_
  refine evs_run 2 (by kernel_rfl) ?_
  refine evs_endS (by kernel_rfl) (fun τ hτ => ?_)
  refine th_normalS hτ ⟨[(4, (vB (decide (r2 ≥ 0))))], []⟩ (here (by kernel_rfl)) ?_
  refine sem_retS (by kernel_rfl) (fun τ hτ => ?_)
  obtain rfl := Option.some.inj h
  exact rk_ret hτ [(4, (vB (decide (r2 ≥ 0))))] (here (by kernel_rfl)) (by kernel_rfl)
theorem W.bits_Mul64_ok {x0 : Int} {y : Int} {r : Int × Int} (h : bits_Mul64 x0 y = some r) : PC G.P 95 [(vK .u64 x0), (vK .u64 y)] [] (.tup [(vK .u64 r.1), (vK .u64 r.2)]) [] := by
  refine pc_of G (fn := Try.f95) Try.func95 (by kernel_rfl) (by kernel_rfl) (by kernel_rfl) (by kernel_rfl) (by kernel_rfl) ?_
  refine sem_set ⟨[(0, (vK .u64 x0)), (1, (vK .u64 y))], []⟩ (by kernel_rfl) ?_
  refine sem_seq (by kernel_rfl) ?_
  refine sem_region (by kernel_rfl) ?_
  refine evs_run 2 (by kernel_rfl) ?_
  refine evs_endS (by kernel_rfl) (fun τ hτ => ?_)
  refine th_normalS hτ ⟨[(0, (vK .u64 x0)), (1, (vK .u64 y))], []⟩ (here (by kernel_rfl)) ?_
  refine sem_seq (by kernel_rfl) ?_
  refine sem_region (by kernel_rfl) ?_
  refine evs_run 3 (by kernel_rfl) ?_
  refine evs_endS (by kernel_rfl) (fun τ hτ => ?_)
  refine th_normalS hτ ⟨[(0, (vK .u64 x0)), (1, (vK .u64 y)), (6, (vK .u64 (kand .u64 x0 4294967295)))], []⟩ (here (by kernel_rfl)) ?_
  refine sem_seq (by kernel_rfl) ?_
  refine sem_region (by kernel_rfl) ?_
  refine evs_run 3 (by kernel_rfl) ?_
  refine evs_endS (by kernel_rfl) (fun τ hτ => ?_)
  refine th_normalS hτ ⟨[(0, (vK .u64 x0)), (1, (vK .u64 y)), (6, (vK .u64 (kand .u64 x0 4294967295))), (7, (vK .u64 (Int.fdiv x0 (2 ^ (min (Int.toNat 32) 64)))))], []⟩ (here (by kernel_rfl)) ?_
  refine sem_seq (by kernel_rfl) ?_
  refine sem_region (by kernel_rfl) ?_
  refine evs_run 3 (by kernel_rfl) ?_
  refine evs_endS (by kernel_rfl) (fun τ hτ => ?_)
  refine th_normalS hτ ⟨[(0, (vK .u64 x0)), (1, (vK .u64 y)), (6, (vK .u64 (kand .u64 x0 4294967295))), (7, (vK .u64 (Int.fdiv x0 (2 ^ (min (Int.toNat 32) 64))))), (8, (vK .u64 (kand .u64 y 4294967295)))], []⟩ (here (by kernel_rfl)) ?_
  refine sem_seq (by kernel_rfl) ?_
  refine sem_region (by kernel_rfl) ?_
  refine evs_run 3 (by kernel_rfl) ?_
  refine evs_endS (by kernel_rfl) (fun τ hτ => ?_)
  refine th_normalS hτ ⟨[(0, (vK .u64 x0)), (1, (vK .u64 y)), (6, (vK .u64 (kand .u64 x0 4294967295))), (7, (vK .u64 (Int.fdiv x0 (2 ^ (min (Int.toNat 32) 64))))), (8, (vK .u64 (kand .u64 y 4294967295))), (9, (vK .u64 (Int.fdiv y (2 ^ (min (Int.toNat 32) 64)))))], []⟩ (here (by kernel_rfl)) ?_
  refine sem_seq (by kernel_rfl) ?_
  refine sem_region (by kernel_rfl) ?_
  refine evs_run 4 (by kernel_rfl) ?_
  refine evs_endS (by kernel_rfl) (fun τ hτ => ?_)
  refine th_normalS hτ ⟨[(0, (vK .u64 x0)), (1, (vK .u64 y)), (6, (vK .u64 (kand .u64 x0 4294967295))), (7, (vK .u64 (Int.fdiv x0 (2 ^ (min (Int.toNat 32) 64))))), (8, (vK .u64 (kand .u64 y 4294967295))), (9, (vK .u64 (Int.fdiv y (2 ^ (min (Int.toNat 32) 64))))), (10, (vK .u64 (IntKind.wrap .u64 ((kand .u64 x0 4294967295) * (kand .u64 y 4294967295)))))], []⟩ (here (by kernel_rfl)) ?_
  refine sem_seq (by kernel_rfl) ?_
  refine sem_region (by kernel_rfl) ?_
  refine evs_run 7 (by kernel_rfl) ?_
  refine evs_endS (by kernel_rfl) (fun τ hτ => ?_)
  refine th_normalS hτ ⟨[(0, (vK .u64 x0)), (1, (vK .u64 y)), (6, (vK .u64 (kand .u64 x0 4294967295))), (7, (vK .u64 (Int.fdiv x0 (2 ^ (min (Int.toNat 32) 64))))), (9, (vK .u64 (Int.fdiv y (2 ^ (min (Int.toNat 32) 64))))), (11, (vK .u64 (IntKind.wrap .u64 ((IntKind.wrap .u64 ((Int.fdiv x0 (2 ^ (min (Int.toNat 32) 64))) * (kand .u64 y 4294967295))) + (Int.fdiv (IntKind.wrap .u64 ((kand .u64 x0 4294967295) * (kand .u64 y 4294967295))) (2 ^ (min (Int.toNat 32) 64)))))))], []⟩ (here (by kernel_rfl)) ?_
  refine sem_seq (by kernel_rfl) ?_
  refine sem_region (by kernel_rfl) ?_
  refine evs_run 3 (by kernel_rfl) ?_
  refine evs_endS (by kernel_rfl) (fun τ hτ => ?_)
  refine th_normalS hτ ⟨[(0, (vK .u64 x0)), (1, (vK .u64 y)), (6, (vK .u64 (kand .u64 x0 4294967295))), (7, (vK .u64 (Int.fdiv x0 (2 ^ (min (Int.toNat 32) 64))))), (9, (vK .u64 (Int.fdiv y (2 ^ (min (Int.toNat 32) 64))))), (11, (vK .u64 (IntKind.wrap .u64 ((IntKind.wrap .u64 ((Int.fdiv x0 (2 ^ (min (Int.toNat 32) 64))) * (kand .u64 y 4294967295))) + (Int.fdiv (IntKind.wrap .u64 ((kand .u64 x0 4294967295) * (kand .u64 y 4294967295))) (2 ^ (min (Int.toNat 32) 64))))))), (12, (vK .u64 (kand .u64 (IntKind.wrap .u64 ((IntKind.wrap .u64 ((Int.fdiv x0 (2 ^ (min (Int.toNat 32) 64))) * (kand .u64 y 4294967295))) + (Int.fdiv (IntKind.wrap .u64 ((kand .u64 x0 4294967295) * (kand .u64 y 4294967295))) (2 ^ (min (Int.toNat 32) 64))))) 4294967295)))], []⟩ (here (by kernel_rfl)) ?_
  refine sem_seq (by kernel_rfl) ?_
  refine sem_region (by kernel_rfl) ?_
  refine evs_run 3 (by kernel_rfl) ?_
  refine evs_endS (by kernel_rfl) (fun τ hτ => ?_)
  refine th_normalS hτ ⟨[(0, (vK .u64 x0)), (1, (vK .u64 y)), (6, (vK .u64 (kand .u64 x0 4294967295))), (7, (vK .u64 (Int.fdiv x0 (2 ^ (min (Int.toNat 32) 64))))), (9, (vK .u64 (Int.fdiv y (2 ^ (min (Int.toNat 32) 64))))), (12, (vK .u64 (kand .u64 (IntKind.wrap .u64 ((IntKind.wrap .u64 ((Int.fdiv x0 (2 ^ (min (Int.toNat 32) 64))) * (kand .u64 y 4294967295))) + (Int.fdiv (IntKind.wrap .u64 ((kand .u64 x0 4294967295) * (kand .u64 y 4294967295))) (2 ^ (min (Int.toNat 32) 64))))) 4294967295))), (13, (vK .u64 (Int.fdiv (IntKind.wrap .u64 ((IntKind.wrap .u64 ((Int.fdiv x0 (2 ^ (min (Int.toNat 32) 64))) * (kand .u64 y 4294967295))) + (Int.fdiv (IntKind.wrap .u64 ((kand .u64 x0 4294967295) * (kand .u64 y 4294967295))) (2 ^ (min (Int.toNat 32) 64))))) (2 ^ (min (Int.toNat 32) 64)))))], []⟩ (here (by kernel_rfl)) ?_
  refine sem_seq (by kernel_rfl) ?_
  refine sem_region (by kernel_rfl) ?_
  refine evs_run 6 (by kernel_rfl) ?_
  refine evs_endS (by kernel_rfl) (fun τ hτ => ?_)
  refine th_normalS hτ ⟨[(0, (vK .u64 x0)), (1, (vK .u64 y)), (7, (vK .u64 (Int.fdiv x0 (2 ^ (min (Int.toNat 32) 64))))), (9, (vK .u64 (Int.fdiv y (2 ^ (min (Int.toNat 32) 64))))), (12, (vK .u64 (IntKind.wrap .u64 ((kand .u64 (IntKind.wrap .u64 ((IntKind.wrap .u64 ((Int.fdiv x0 (2 ^ (min (Int.toNat 32) 64))) * (kand .u64 y 4294967295))) + (Int.fdiv (IntKind.wrap .u64 ((kand .u64 x0 4294967295) * (kand .u64 y 4294967295))) (2 ^ (min (Int.toNat 32) 64))))) 4294967295) + (IntKind.wrap .u64 ((kand .u64 x0 4294967295) * (Int.fdiv y (2 ^ (min (Int.toNat 32) 64))))))))), (13, (vK .u64 (Int.fdiv (IntKind.wrap .u64 ((IntKind.wrap .u64 ((Int.fdiv x0 (2 ^ (min (Int.toNat 32) 64))) * (kand .u64 y 4294967295))) + (Int.fdiv (IntKind.wrap .u64 ((kand .u64 x0 4294967295) * (kand .u64 y 4294967295))) (2 ^ (min (Int.toNat 32) 64))))) (2 ^ (min (Int.toNat 32) 64)))))], []⟩ (here (by kernel_rfl)) ?_
  refine sem_seq (by kernel_rfl) ?_
  refine sem_region (by kernel_rfl) ?_
  refine evs_run 9 (by kernel_rfl) ?_
  refine evs_endS (by kernel_rfl) (fun τ hτ => ?_)
  refine th_normalS hτ ⟨[(0, (vK .u64 x0)), (1, (vK .u64 y)), (4, (vK .u64 (IntKind.wrap .u64 ((IntKind.wrap .u64 ((IntKind.wrap .u64 ((Int.fdiv x0 (2 ^ (min (Int.toNat 32) 64))) * (Int.fdiv y (2 ^ (min (Int.toNat 32) 64))))) + (Int.fdiv (IntKind.wrap .u64 ((IntKind.wrap .u64 ((Int.fdiv x0 (2 ^ (min (Int.toNat 32) 64))) * (kand .u64 y 4294967295))) + (Int.fdiv (IntKind.wrap .u64 ((kand .u64 x0 4294967295) * (kand .u64 y 4294967295))) (2 ^ (min (Int.toNat 32) 64))))) (2 ^ (min (Int.toNat 32) 64))))) + (Int.fdiv (IntKind.wrap .u64 ((kand .u64 (IntKind.wrap .u64 ((IntKind.wrap .u64 ((Int.fdiv x0 (2 ^ (min (Int.toNat 32) 64))) * (kand .u64 y 4294967295))) + (Int.fdiv (IntKind.wrap .u64 ((kand .u64 x0 4294967295) * (kand .u64 y 4294967295))) (2 ^ (min (Int.toNat 32) 64))))) 4294967295) + (IntKind.wrap .u64 ((kand .u64 x0 4294967295) * (Int.fdiv y (2 ^ (min (Int.toNat 32) 64))))))) (2 ^ (min (Int.toNat 32) 64)))))))], []⟩ (here (by kernel_rfl)) ?_
  refine sem_seq (by kernel_rfl) ?_
  refine sem_region (by kernel_rfl) ?_
  refine evs_run 4 (by kernel_rfl) ?_
  refine evs_endS (by kernel_rfl) (fun τ hτ => ?_)
  refine th_normalS hτ ⟨[(4, (vK .u64 (IntKind.wrap .u64 ((IntKind.wrap .u64 ((IntKind.wrap .u64 ((Int.fdiv x0 (2 ^ (min (Int.toNat 32) 64))) * (Int.fdiv y (2 ^ (min (Int.toNat 32) 64))))) + (Int.fdiv (IntKind.wrap .u64 ((IntKind.wrap .u64 ((Int.fdiv x0 (2 ^ (min (Int.toNat 32) 64))) * (kand .u64 y 4294967295))) + (Int.fdiv (IntKind.wrap .u64 ((kand .u64 x0 4294967295) * (kand .u64 y 4294967295))) (2 ^ (min (Int.toNat 32) 64))))) (2 ^ (min (Int.toNat 32) 64))))) + (Int.fdiv (IntKind.wrap .u64 ((kand .u64 (IntKind.wrap .u64 ((IntKind.wrap .u64 ((Int.fdiv x0 (2 ^ (min (Int.toNat 32) 64))) * (kand .u64 y 4294967295))) + (Int.fdiv (IntKind.wrap .u64 ((kand .u64 x0 4294967295) * (kand .u64 y 4294967295))) (2 ^ (min (Int.toNat 32) 64))))) 4294967295) + (IntKind.wrap .u64 ((kand .u64 x0 4294967295) * (Int.fdiv y (2 ^ (min (Int.toNat 32) 64))))))) (2 ^ (min (Int.toNat 32) 64))))))), (5, (vK .u64 (IntKind.wrap .u64 (x0 * y))))], []⟩ (here (by kernel_rfl)) ?_
  refine sem_retS (by kernel_rfl) (fun τ hτ => ?_)
  obtain rfl := Option.some.inj h
  exact rk_ret hτ [(4, (vK .u64 (IntKind.wrap .u64 ((IntKind.wrap .u64 ((IntKind.wrap .u64 ((Int.fdiv x0 (2 ^ (min (Int.toNat 32) 64))) * (Int.fdiv y (2 ^ (min (Int.toNat 32) 64))))) + (Int.fdiv (IntKind.wrap .u64 ((IntKind.wrap .u64 ((Int.fdiv x0 (2 ^ (min (Int.toNat 32) 64))) * (kand .u64 y 4294967295))) + (Int.fdiv (IntKind.wrap .u64 ((kand .u64 x0 4294967295) * (kand .u64 y 4294967295))) (2 ^ (min (Int.toNat 32) 64))))) (2 ^ (min (Int.toNat 32) 64))))) + (Int.fdiv (IntKind.wrap .u64 ((kand .u64 (IntKind.wrap .u64 ((IntKind.wrap .u64 ((Int.fdiv x0 (2 ^ (min (Int.toNat 32) 64))) * (kand .u64 y 4294967295))) + (Int.fdiv (IntKind.wrap .u64 ((kand .u64 x0 4294967295) * (kand .u64 y 4294967295))) (2 ^ (min (Int.toNat 32) 64))))) 4294967295) + (IntKind.wrap .u64 ((kand .u64 x0 4294967295) * (Int.fdiv y (2 ^ (min (Int.toNat 32) 64))))))) (2 ^ (min (Int.toNat 32) 64))))))), (5, (vK .u64 (IntKind.wrap .u64 (x0 * y))))] (here (by kernel_rfl)) (by kernel_rfl)
theorem W.bits_Mul_ok {x0 : Int} {y : Int} {r : Int × Int} (h : bits_Mul x0 y = some r) : PC G.P 85 [(vK .u64 x0), (vK .u64 y)] [] (.tup [(vK .u64 r.1), (vK .u64 r.2)]) [] := by
  refine pc_of G (fn := Try.f85) Try.func85 (by kernel_rfl) (by kernel_rfl) (by kernel_rfl) (by kernel_rfl) (by kernel_rfl) ?_
  refine sem_set ⟨[(0, (vK .u64 x0)), (1, (vK .u64 y))], []⟩ (by kernel_rfl) ?_
  refine sem_seq (by kernel_rfl) ?_
  refine sem_region (by kernel_rfl) ?_
  refine evs_run 2 (by kernel_rfl) ?_
  refine evs_endS (by kernel_rfl) (fun τ hτ => ?_)
  refine th_normalS hτ ⟨[(0, (vK .u64 x0)), (1, (vK .u64 y))], []⟩ (here (by kernel_rfl)) ?_
  refine sem_seq (by kernel_rfl) ?_
  refine sem_condF (by kernel_rfl) (by kernel_rfl) ?_
  refine sem_skipS (by kernel_rfl) (fun τ hτ => ?_)
  refine th_normalS hτ ⟨[(0, (vK .u64 x0)), (1, (vK .u64 y))], []⟩ (here (by kernel_rfl)) ?_
  refine sem_seq (by kernel_rfl) ?_
  refine sem_region (by kernel_rfl) ?_
  refine evs_run 2 (by kernel_rfl) ?_
  obtain ⟨r2, hr2, h⟩ := bindS h
  refine evs_callP [] (by kernel_rfl) (W.bits_Mul64_ok hr2) (by kernel_rfl) (.inl rfl) (by kernel_rfl) ?_
  refine evs_run 5 (by kernel_rfl) ?_
  refine evs_endS (by kernel_rfl) (fun τ hτ => ?_)
  refine th_normalS hτ ⟨[(8, (vK .u64 r2.1)), (9, (vK .u64 r2.2))], []⟩ (here (by kernel_rfl)) ?_
  refine sem_seq (by kernel_rfl) ?_
  refine sem_region (by kernel_rfl) ?_
  refine evs_run 4 (by kernel_rfl) ?_
  refine evs_endS (by kernel_rfl) (fun τ hτ => ?_)
  refine th_normalS hτ ⟨[(4, (vK .u64 r2.1)), (5, (vK .u64 r2.2))], []⟩ (here (by kernel_rfl)) ?_
  refine sem_retS (by kernel_rfl) (fun τ hτ => ?_)
  obtain rfl := Option.some.inj h
  exact rk_ret hτ [(4, (vK .u64 r2.1)), (5, (vK .u64 r2.2))] (here (by kernel_rfl)) (by kernel_rfl)
theorem W.slices_Repeat_Lint_int_ok {x0 : (List Int)} {count : Int} {r : (List Int)} (h : slices_Repeat_Lint_int x0 count = some r) : PC G.P 74 [(.sl (List.map cI x0)), (vI count)] [] (.row (.top 0) 3) [(0, .row 3 [] (List.map cI r))] := by
  refine pc_of G (fn := Try.f74) Try.func74 (by kernel_rfl) (by kernel_rfl) (by kernel_rfl) (by kernel_rfl) (by kernel_rfl) ?_
  refine sem_set ⟨[(0, (.sl (List.map cI x0))), (1, (vI count))], []⟩ (by kernel_rfl) ?_
  refine sem_seq (by kernel_rfl) ?_
  refine sem_region (by kernel_rfl) ?_
  refine evs_run 1 (by kernel_rfl) ?_
  refine evs_endS (by kernel_rfl) (fun τ hτ => ?_)
  refine th_normalS hτ ⟨[(0, (.sl (List.map cI x0))), (1, (vI count))], []⟩ (here (by kernel_rfl)) ?_
  refine sem_seq (by kernel_rfl) ?_
  refine sem_seq (by kernel_rfl) ?_
  refine sem_region (by kernel_rfl) ?_
  refine evs_run 2 (by kernel_rfl) ?_
  refine evs_endS (by kernel_rfl) (fun τ hτ => ?_)
  refine th_normalS hτ ⟨[(0, (.sl (List.map cI x0))), (1, (vI count)), (10, (vB (decide (count < 0))))], []⟩ (here (by kernel_rfl)) ?_
  refine sem_cond (decide (count < 0)) (by kernel_rfl) (by kernel_rfl) (fun hb => ?_) (fun hb => ?_)
  · replace h := iteT hb h
    refine sem_region (by kernel_rfl) ?_
    exact nomatch h
  · replace h := iteF hb h
    refine sem_skipS (by kernel_rfl) (fun τ hτ => ?_)
    refine th_normalS hτ ⟨[(0, (.sl (List.map cI x0))), (1, (vI count))], []⟩ (here (by kernel_rfl)) ?_
    refine sem_seq (by kernel_rfl) ?_
    refine sem_region (by kernel_rfl) ?_
    refine evs_run 1 (by kernel_rfl) ?_
    refine evs_op (st_len (c := cI) (l := x0) (x := (.sl (List.map cI x0))) (by kernel_rfl) (by kernel_rfl)) ?_
    refine evs_run 3 (by kernel_rfl) ?_
    obtain ⟨r2, hr2, h⟩ := bindS h
    refine evs_callP [] (by kernel_rfl) (W.bits_Mul_ok hr2) (by kernel_rfl) (.inl rfl) (by kernel_rfl) ?_
    refine evs_run 5 (by kernel_rfl) ?_
    refine evs_endS (by kernel_rfl) (fun τ hτ => ?_)
    refine th_normalS hτ ⟨[(0, (.sl (List.map cI x0))), (5, (vK .u64 r2.1)), (6, (vK .u64 r2.2))], []⟩ (here (by kernel_rfl)) ?_
    refine sem_seq (by kernel_rfl) ?_
    refine sem_seq (by kernel_rfl) ?_
    obtain ⟨j4, hj4, h⟩ := bindS h
    refine sem_regionC ⟨[(0, (.sl (List.map cI x0))), (6, (vK .u64 r2.2)), (26, (vB j4))], []⟩ (by kernel_rfl) ?_ (fun τ hτ => ?_)
    · replace h := hj4
      refine evs_run 3 (by kernel_rfl) ?_
      refine evs_split (decide (r2.1 > 0)) (fun b0 => ⟨[(0, (.sl (List.map cI x0))), (6, (vK .u64 r2.2)), (23, (vB b0))], []⟩) (by kernel_rfl) (fun hb => ?_) (fun hb => ?_)
      · replace h := iteT hb h
        refine evs_run 3 (by kernel_rfl) ?_
        refine evs_endS (by kernel_rfl) (fun τ hτ => ?_)
        obtain rfl := Option.some.inj h
        exact leafC hτ (here (by kernel_rfl))
      · replace h := iteF hb h
        refine evs_run 3 (by kernel_rfl) ?_
        refine evs_endS (by kernel_rfl) (fun τ hτ => ?_)
        obtain rfl := Option.some.inj h
        exact leafC hτ (here (by kernel_rfl))
    refine th_normalS hτ ⟨[(0, (.sl (List.map cI x0))), (6, (vK .u64 r2.2)), (26, (vB j4))], []⟩ (here (by kernel_rfl)) ?_
    refine sem_cond j4 (by kernel_rfl) (by kernel_rfl) (fun hb => ?_) (fun hb => ?_)
    · replace h := iteT hb h
      refine sem_region (by kernel_rfl) ?_
      exact nomatch h
    · replace h := iteF hb h
      refine sem_skipS (by kernel_rfl) (fun τ hτ => ?_)
      refine th_normalS hτ ⟨[(0, (.sl (List.map cI x0))), (6, (vK .u64 r2.2))], []⟩ (here (by kernel_rfl)) ?_
      refine sem_seq (by kernel_rfl) ?_
      refine sem_region (by kernel_rfl) ?_
      refine evs_run 2 (by kernel_rfl) ?_
      obtain ⟨l6, hl6, h⟩ := bindS h
      refine evs_op (st_mk (c := cI) (z := 0) (n := (IntKind.wrap .i64 r2.2)) (e := 3) (d := 30) (zs := [(vI 0)]) (k1 := .i64) (k2 := .i64) (by kernel_rfl) rfl hl6) ?_
      refine evs_run 1 (by kernel_rfl) ?_
      refine evs_endS (by kernel_rfl) (fun τ hτ => ?_)
      refine th_normalS hτ ⟨[(0, (.sl (List.map cI x0))), (7, (.row (.top 30) 3))], [(30, .row 3 [] (List.map cI l6))]⟩ (here (by kernel_rfl)) ?_
      refine sem_seq (by kernel_rfl) ?_
      refine sem_region (by kernel_rfl) ?_
      refine evs_run 2 (by kernel_rfl) ?_
      refine evs_at (at_copy (c := cI) (l := l6) (l2 := x0) (d := (.row (.top 30) 3)) (x := (.sl (List.map cI x0))) (e := 3) (sz := 1) (g := 30) (lo := 0) (n := l6.length) (by kernel_rfl) (by kernel_rfl) (by kernel_rfl) (Nat.le_of_eq (Nat.zero_add _)) (by kernel_rfl) (by kernel_rfl) (fun _ => rfl)) ?_
      refine evs_run 1 (by kernel_rfl) ?_
      refine evs_endS (by kernel_rfl) (fun τ hτ => ?_)
      refine th_normalS hτ ⟨[(7, (.row (.top 30) 3)), (8, (vI (((min x0.length (l6.length)) : Nat) : Int)))], [(30, .row 3 [] (List.map cI (cpy l6 (0) (List.take (min x0.length (l6.length)) x0))))]⟩ (here (by kernel_rfl)) ?_
      refine sem_seq (by kernel_rfl) ?_
      refine sem_block (by kernel_rfl) ?_
      obtain ⟨x12, hx12, h⟩ := bindS h
      refine sem_loopS (fun (s11 : Int × (List Int)) => ⟨[(7, (.row (.top 500000) 3)), (8, (vI s11.1))], [(500000, .row 3 [] (List.map cI s11.2))]⟩) (fun (x12 : (List Int)) => (.exit 0, ⟨[(7, (.row (.top 500000) 3))], [(500000, .row 3 [] (List.map cI x12))]⟩)) (slices_Repeat_Lint_int_l1) ((((min x0.length (l6.length)) : Nat) : Int), (cpy l6 (0) (List.take (min x0.length (l6.length)) x0))) x12 (by kernel_rfl) (subR_prep [] [(30, 500000)] (by kernel_rfl) rfl rfl (by kernel_rfl)) hx12 ?_ ?_ ?_
      · intro s11 r h
        refine sem_seq (by kernel_rfl) ?_
        refine sem_seq (by kernel_rfl) ?_
        refine sem_region (by kernel_rfl) ?_
        refine evs_run 2 (by kernel_rfl) ?_
        refine evs_op (st_len (c := cI) (l := s11.2) (x := (.row (.top 500000) 3)) (by kernel_rfl) (by kernel_rfl)) ?_
        refine evs_run 1 (by kernel_rfl) ?_
        refine evs_endS (by kernel_rfl) (fun τ hτ => ?_)
        refine th_normalS hτ ⟨[(7, (.row (.top 500000) 3)), (8, (vI s11.1)), (37, (vB (decide (s11.1 < (s11.2.length : Int)))))], [(500000, .row 3 [] (List.map cI s11.2))]⟩ (here (by kernel_rfl)) ?_
        refine sem_cond (decide (s11.1 < (s11.2.length : Int))) (by kernel_rfl) (by kernel_rfl) (fun hb => ?_) (fun hb => ?_)
        · replace h := iteT hb h
          refine sem_skipS (by kernel_rfl) (fun τ hτ => ?_)
          refine th_normalS hτ ⟨[(7, (.row (.top 500000) 3)), (8, (vI s11.1))], [(500000, .row 3 [] (List.map cI s11.2))]⟩ (here (by kernel_rfl)) ?_
          refine sem_block (by kernel_rfl) ?_
          refine sem_drawN [(7, [500000])] [] [] [(0, [500000])] [] 8 (by kernel_rfl) (by kernel_rfl) (by kernel_rfl) ?_
          refine evd_run 3 (by kernel_rfl) ?_
          obtain ⟨hp3, h⟩ := iteN h
          refine evd_val (by kernel_rfl) (st_slPL (c := cI) (l := s11.2) (kk := (.top 500000)) (e := 3) (sz := 1) (lo := s11.1) (k1 := .i64) (by kernel_rfl) (by kernel_rfl) (fun _ => rfl) hp3) (by kernel_rfl) (by kernel_rfl) ?_
          refine evd_run 2 (by kernel_rfl) ?_
          obtain ⟨hp6, h⟩ := iteN h
          refine evd_val (by kernel_rfl) (st_slPH (c := cI) (l := s11.2) (kk := (.top 500000)) (e := 3) (sz := 1) (hi := s11.1) (k2 := .i64) (by kernel_rfl) (by kernel_rfl) (fun _ => rfl) hp6) (by kernel_rfl) (by kernel_rfl) ?_
          refine evd_copy (c := cI) (l := s11.2) (l2 := (List.take (Int.toNat s11.1 - Int.toNat 0) (List.drop (Int.toNat 0) s11.2))) (d := (.part (.top 500000) 3 (Int.toNat s11.1) (Int.toNat (s11.2.length : Int) - Int.toNat s11.1))) (x := (.part (.top 500000) 3 (Int.toNat 0) (Int.toNat s11.1 - Int.toNat 0))) (e := 3) (sz := 1) (g := 500000) (lo := (Int.toNat s11.1)) (n := (Int.toNat (s11.2.length : Int) - Int.toNat s11.1)) (by kernel_rfl) (by kernel_rfl) (by kernel_rfl) (by kernel_rfl) (part_fit hp3) (elems_part (by kernel_rfl) (part_fit hp6)) (by kernel_rfl) (fun _ => rfl) (by kernel_rfl) (by kernel_rfl) (by kernel_rfl) ?_
          refine evd_end (by kernel_rfl) ?_
          refine evo_run 2 (by kernel_rfl) ?_
          refine evo_endS (by kernel_rfl) (fun τ hτ => ?_)
          refine bl_normal ?_
          obtain rfl := Option.some.inj h
          exact lk_nextS hτ (here (by kernel_rfl))
        · replace h := iteF hb h
          refine sem_exitS 0 (by kernel_rfl) rfl (fun τ hτ => ?_)
          refine th_exit ?_
          obtain rfl := Option.some.inj h
          exact lk_outS hτ rfl (here (by kernel_rfl))
      · intro x
        rfl
      · intro τ hτ
        refine bl_hit (by kernel_rfl) ?_
        refine th_normalS hτ ⟨[(7, (.row (.top 500000) 3))], [(500000, .row 3 [] (List.map cI x12))]⟩ (here (by kernel_rfl)) ?_
        refine sem_seq (by kernel_rfl) ?_
        refine sem_region (by kernel_rfl) ?_
        refine evs_run 2 (by kernel_rfl) ?_
        refine evs_endS (by kernel_rfl) (fun τ hτ => ?_)
        refine th_normalS hτ ⟨[(4, (.row (.top 500000) 3))], [(500000, .row 3 [] (List.map cI x12))]⟩ (here (by kernel_rfl)) ?_
        refine sem_retS (by kernel_rfl) (fun τ hτ => ?_)
        obtain rfl := Option.some.inj h
        exact rk_ret hτ [(4, (.row (.top 0) 3))] (subR_prep [] [(500000, 0)] (by kernel_rfl) rfl rfl (by kernel_rfl)) (by kernel_rfl)
theorem W.sheetmetalref05_ordered_ok {needs : (List (List Int))} {stations : Int} {l : (List Change)} {r : Bool} (h : sheetmetalref05_ordered needs stations l = some r) : PC G.P 70 [(.sl (List.map (cS cI) needs)), (vI stations), (.sl (List.map c_Change l))] [] (vB r) [] := by
  refine pc_of G (fn := Try.f70) Try.func70 (by kernel_rfl) (by kernel_rfl) (by kernel_rfl) (by kernel_rfl) (by kernel_rfl) ?_
  refine sem_set ⟨[(0, (.sl (List.map (cS cI) needs))), (1, (vI stations)), (2, (.sl (List.map c_Change l)))], []⟩ (by kernel_rfl) ?_
  refine sem_seq (by kernel_rfl) ?_
  refine sem_region (by kernel_rfl) ?_
  refine evs_run 1 (by kernel_rfl) ?_
  refine evs_endS (by kernel_rfl) (fun τ hτ => ?_)
  refine th_normalS hτ ⟨[(0, (.sl (List.map (cS cI) needs))), (1, (vI stations)), (2, (.sl (List.map c_Change l)))], []⟩ (here (by kernel_rfl)) ?_
  refine sem_seq (by kernel_rfl) ?_
  refine sem_seq (by kernel_rfl) ?_
  refine sem_region (by kernel_rfl) ?_
  refine evs_run 1 (by kernel_rfl) ?_
  refine evs_endS (by kernel_rfl) (fun τ hτ => ?_)
  refine th_normalS hτ ⟨[(0, (.sl (List.map (cS cI) needs))), (1, (vI stations)), (2, (.sl (List.map c_Change l))), (7, (vI 0))], []⟩ (here (by kernel_rfl)) ?_
  refine sem_block (by kernel_rfl) ?_
  obtain ⟨x728, hx728, h⟩ := bindS h
  refine sem_loopS (fun (s403 : Int) => ⟨[(0, (.sl (List.map (cS cI) needs))), (1, (vI stations)), (2, (.sl (List.map c_Change l))), (7, (vI s403))], []⟩) (fun (x728 : Unit ⊕ Unit) => match x728 with | .inl j729 => (.ret, ⟨[(6, (vB false))], []⟩) | .inr j730 => (.exit 0, ⟨[], []⟩)) (sheetmetalref05_ordered_l2 needs stations l) 0 x728 (by kernel_rfl) (here (by kernel_rfl)) hx728 ?_ ?_ ?_
  · intro s403 r h
    refine sem_seq (by kernel_rfl) ?_
    refine sem_seq (by kernel_rfl) ?_
    refine sem_region (by kernel_rfl) ?_
    refine evs_run 2 (by kernel_rfl) ?_
    refine evs_op (st_len (c := c_Change) (l := l) (x := (.sl (List.map c_Change l))) (by kernel_rfl) (by kernel_rfl)) ?_
    refine evs_run 1 (by kernel_rfl) ?_
    refine evs_endS (by kernel_rfl) (fun τ hτ => ?_)
    refine th_normalS hτ ⟨[(0, (.sl (List.map (cS cI) needs))), (1, (vI stations)), (2, (.sl (List.map c_Change l))), (7, (vI s403)), (13, (vB (decide (s403 < (l.length : Int)))))], []⟩ (here (by kernel_rfl)) ?_
    refine sem_cond (decide (s403 < (l.length : Int))) (by kernel_rfl) (by kernel_rfl) (fun hb => ?_) (fun hb => ?_)
    · replace h := iteT hb h
      refine sem_skipS (by kernel_rfl) (fun τ hτ => ?_)
      refine th_normalS hτ ⟨[(0, (.sl (List.map (cS cI) needs))), (1, (vI stations)), (2, (.sl (List.map c_Change l))), (7, (vI s403))], []⟩ (here (by kernel_rfl)) ?_
      refine sem_seq (by kernel_rfl) ?_
      refine sem_block (by kernel_rfl) ?_
      refine sem_seq (by kernel_rfl) ?_
      refine sem_region (by kernel_rfl) ?_
      refine evs_run 2 (by kernel_rfl) ?_
      obtain ⟨x648, hx648, h⟩ := bindS h
      refine evs_op (st_idx (c := c_Change) (l := l) (i := s403) (kd := .i64) (sz := 3) (by kernel_rfl) hx648 rfl) ?_
      refine evs_run 3 (by kernel_rfl) ?_
      refine evs_endS (by kernel_rfl) (fun τ hτ => ?_)
      refine th_normalS hτ ⟨[(0, (.sl (List.map (cS cI) needs))), (1, (vI stations)), (2, (.sl (List.map c_Change l))), (7, (vI s403)), (8, (.ptr 8 0))], [(8, .box [(vI x648.Step), (vI x648.Station), (vI x648.Pair)])]⟩ (here (by kernel_rfl)) ?_
      refine sem_seq (by kernel_rfl) ?_
      refine sem_seq (by kernel_rfl) ?_
      obtain ⟨j659, hj659, h⟩ := bindS h
      refine sem_regionC ⟨[(0, (.sl (List.map (cS cI) needs))), (1, (vI stations)), (2, (.sl (List.map c_Change l))), (7, (vI s403)), (8, (.ptr 500000 0)), (40, (vB j659))], [(500000, .box [(vI x648.Step), (vI x648.Station), (vI x648.Pair)])]⟩ (by kernel_rfl) ?_ (fun τ hτ => ?_)
      · replace h := hj659
        refine evs_run 3 (by kernel_rfl) ?_
        refine evs_op (st_len (c := (cS cI)) (l := needs) (x := (.sl (List.map (cS cI) needs))) (by kernel_rfl) (by kernel_rfl)) ?_
        refine evs_run 1 (by kernel_rfl) ?_
        obtain ⟨r660, hr660, h⟩ := bindS h
        refine evs_callP [] (by kernel_rfl) (W.sheetmetalref05_within_ok hr660) (by kernel_rfl) (.inl rfl) (by kernel_rfl) ?_
        refine evs_run 2 (by kernel_rfl) ?_
        refine evs_split r660 (fun b0 => ⟨[(0, (.sl (List.map (cS cI) needs))), (1, (vI stations)), (2, (.sl (List.map c_Change l))), (7, (vI s403)), (8, (.ptr 8 0)), (27, (vB (!b0)))], [(8, .box [(vI x648.Step), (vI x648.Station), (vI x648.Pair)])]⟩) (by kernel_rfl) (fun hb => ?_) (fun hb => ?_)
        · replace h := iteT hb h
          refine evs_run 4 (by kernel_rfl) ?_
          obtain ⟨r661, hr661, h⟩ := bindS h
          refine evs_callP [] (by kernel_rfl) (W.sheetmetalref05_within_ok hr661) (by kernel_rfl) (.inl rfl) (by kernel_rfl) ?_
          refine evs_run 3 (by kernel_rfl) ?_
          refine evs_split r661 (fun b0 => ⟨[(0, (.sl (List.map (cS cI) needs))), (1, (vI stations)), (2, (.sl (List.map c_Change l))), (7, (vI s403)), (8, (.ptr 8 0)), (28, (.ptr 8 1)), (29, (vI x648.Station)), (30, (vI stations)), (31, (vI (isub stations 1))), (32, (vB b0)), (33, (vB (!b0))), (35, (vB (!b0)))], [(8, .box [(vI x648.Step), (vI x648.Station), (vI x648.Pair)])]⟩) (by kernel_rfl) (fun hb => ?_) (fun hb => ?_)
          · replace h := iteT hb h
            refine evs_run 2 (by kernel_rfl) ?_
            obtain ⟨r662, hr662, h⟩ := bindS h
            refine evs_callP [] (by kernel_rfl) (W.sheetmetalref05_within_ok hr662) (by kernel_rfl) (.inl rfl) (by kernel_rfl) ?_
            refine evs_run 2 (by kernel_rfl) ?_
            refine evs_endS (by kernel_rfl) (fun τ hτ => ?_)
            obtain rfl := Option.some.inj h
            exact leafC hτ (subR_prep [] [(8, 500000)] (by kernel_rfl) rfl rfl (by kernel_rfl))
          · replace h := iteF hb h
            refine evs_run 5 (by kernel_rfl) ?_
            refine evs_endS (by kernel_rfl) (fun τ hτ => ?_)
            obtain rfl := Option.some.inj h
            exact leafC hτ (subR_prep [] [(8, 500000)] (by kernel_rfl) rfl rfl (by kernel_rfl))
        · replace h := iteF hb h
          refine evs_run 13 (by kernel_rfl) ?_
          refine evs_endS (by kernel_rfl) (fun τ hτ => ?_)
          obtain rfl := Option.some.inj h
          exact leafC hτ (subR_prep [] [(8, 500000)] (by kernel_rfl) rfl rfl (by kernel_rfl))
      refine th_normalS hτ ⟨[(0, (.sl (List.map (cS cI) needs))), (1, (vI stations)), (2, (.sl (List.map c_Change l))), (7, (vI s403)), (8, (.ptr 500000 0)), (40, (vB j659))], [(500000, .box [(vI x648.Step), (vI x648.Station), (vI x648.Pair)])]⟩ (here (by kernel_rfl)) ?_
      refine sem_cond j659 (by kernel_rfl) (by kernel_rfl) (fun hb => ?_) (fun hb => ?_)
      · replace h := iteT hb h
        refine sem_seq (by kernel_rfl) ?_
        refine sem_region (by kernel_rfl) ?_
        refine evs_run 1 (by kernel_rfl) ?_
        refine evs_endS (by kernel_rfl) (fun τ hτ => ?_)
        refine th_normalS hτ ⟨[(6, (vB false))], []⟩ (here (by kernel_rfl)) ?_
        refine sem_retS (by kernel_rfl) (fun τ hτ => ?_)
        refine th_ret ?_
        refine bl_ret ?_
        refine th_ret ?_
        obtain rfl := Option.some.inj h
        exact lk_outS hτ rfl (here (by kernel_rfl))
      · replace h := iteF hb h
        refine sem_skipS (by kernel_rfl) (fun τ hτ => ?_)
        refine th_normalS hτ ⟨[(0, (.sl (List.map (cS cI) needs))), (1, (vI stations)), (2, (.sl (List.map c_Change l))), (7, (vI s403)), (8, (.ptr 500000 0))], [(500000, .box [(vI x648.Step), (vI x648.Station), (vI x648.Pair)])]⟩ (here (by kernel_rfl)) ?_
        refine sem_seq (by kernel_rfl) ?_
        refine sem_region (by kernel_rfl) ?_
        refine evs_run 1 (by kernel_rfl) ?_
        refine evs_endS (by kernel_rfl) (fun τ hτ => ?_)
        refine th_normalS hτ ⟨[(0, (.sl (List.map (cS cI) needs))), (1, (vI stations)), (2, (.sl (List.map c_Change l))), (7, (vI s403)), (8, (.ptr 500000 0)), (9, (vI 0))], [(500000, .box [(vI x648.Step), (vI x648.Station), (vI x648.Pair)])]⟩ (here (by kernel_rfl)) ?_
        refine sem_block (by kernel_rfl) ?_
        obtain ⟨x725, hx725, h⟩ := bindS h
        refine sem_loopS (fun (s684 : Int) => ⟨[(0, (.sl (List.map (cS cI) needs))), (1, (vI stations)), (2, (.sl (List.map c_Change l))), (7, (vI s403)), (8, (.ptr 500000 0)), (9, (vI s684))], [(500000, .box [(vI x648.Step), (vI x648.Station), (vI x648.Pair)])]⟩) (fun (x725 : Unit ⊕ Unit) => match x725 with | .inl j726 => (.ret, ⟨[(6, (vB false))], []⟩) | .inr j727 => (.exit 2, ⟨[(0, (.sl (List.map (cS cI) needs))), (1, (vI stations)), (2, (.sl (List.map c_Change l))), (7, (vI s403))], []⟩)) (sheetmetalref05_ordered_l1 l s403 x648) 0 x725 (by kernel_rfl) (here (by kernel_rfl)) hx725 ?_ ?_ ?_
        · intro s684 r h
          refine sem_seq (by kernel_rfl) ?_
          refine sem_seq (by kernel_rfl) ?_
          refine sem_region (by kernel_rfl) ?_
          refine evs_run 3 (by kernel_rfl) ?_
          refine evs_endS (by kernel_rfl) (fun τ hτ => ?_)
          refine th_normalS hτ ⟨[(0, (.sl (List.map (cS cI) needs))), (1, (vI stations)), (2, (.sl (List.map c_Change l))), (7, (vI s403)), (8, (.ptr 500000 0)), (9, (vI s684)), (43, (vB (decide (s684 < s403))))], [(500000, .box [(vI x648.Step), (vI x648.Station), (vI x648.Pair)])]⟩ (here (by kernel_rfl)) ?_
          refine sem_cond (decide (s684 < s403)) (by kernel_rfl) (by kernel_rfl) (fun hb => ?_) (fun hb => ?_)
          · replace h := iteT hb h
            refine sem_skipS (by kernel_rfl) (fun τ hτ => ?_)
            refine th_normalS hτ ⟨[(0, (.sl (List.map (cS cI) needs))), (1, (vI stations)), (2, (.sl (List.map c_Change l))), (7, (vI s403)), (8, (.ptr 500000 0)), (9, (vI s684))], [(500000, .box [(vI x648.Step), (vI x648.Station), (vI x648.Pair)])]⟩ (here (by kernel_rfl)) ?_
            refine sem_seq (by kernel_rfl) ?_
            refine sem_block (by kernel_rfl) ?_
            refine sem_seq (by kernel_rfl) ?_
            obtain ⟨j721, hj721, h⟩ := bindS h
            refine sem_drawP ⟨[(0, (.sl (List.map (cS cI) needs))), (1, (vI stations)), (2, (.sl (List.map c_Change l))), (7, (vI s403)), (8, (.ptr 500000 0)), (9, (vI s684)), (73, (vB j721))], [(500000, .box [(vI x648.Step), (vI x648.Station), (vI x648.Pair)])]⟩ [] [] [] [] [] 25 (by kernel_rfl) (by kernel_rfl) (by kernel_rfl) ?_ (fun τ hτ => ?_)
            · replace h := hj721
              refine evd_run 2 (by kernel_rfl) ?_
              obtain ⟨x722, hx722, h⟩ := bindS h
              refine evd_val (by kernel_rfl) (st_idx (c := c_Change) (l := l) (i := s684) (kd := .i64) (sz := 3) (by kernel_rfl) hx722 rfl) (by kernel_rfl) (by kernel_rfl) ?_
              refine evd_run 6 (by kernel_rfl) ?_
              refine evd_split (decide (x722.Step > x648.Step)) (fun b0 => ⟨[(54, (vB b0)), (53, (vB b0)), (52, (vI x648.Step)), (51, (.ptr 500000 0)), (50, (vI x722.Step)), (49, (.vptr [(vI x722.Step), (vI x722.Station), (vI x722.Pair)] 0)), (48, (.vptr [(vI x722.Step), (vI x722.Station), (vI x722.Pair)] 0)), (47, (vI s684)), (46, (.sl (List.map c_Change l))), (0, (.sl (List.map (cS cI) needs))), (1, (vI stations)), (2, (.sl (List.map c_Change l))), (7, (vI s403)), (8, (.ptr 500000 0)), (9, (vI s684))], [(500000, .box [(vI x648.Step), (vI x648.Station), (vI x648.Pair)])]⟩) (by kernel_rfl) (fun hb => ?_) (fun hb => ?_)
              · replace h := iteT hb h
                refine evd_run 16 (by kernel_rfl) ?_
                refine evd_end (by kernel_rfl) ?_
                refine evo_run 3 (by kernel_rfl) ?_
                refine evo_endS (by kernel_rfl) (fun τ hτ => ?_)
                obtain rfl := Option.some.inj h
                exact leafC hτ (here (by kernel_rfl))
              · replace h := iteF hb h
                refine evd_run 2 (by kernel_rfl) ?_
                obtain ⟨x723, hx723, h⟩ := bindS h
                refine evd_val (by kernel_rfl) (st_idx (c := c_Change) (l := l) (i := s684) (kd := .i64) (sz := 3) (by kernel_rfl) hx723 rfl) (by kernel_rfl) (by kernel_rfl) ?_
                refine evd_run 6 (by kernel_rfl) ?_
                refine evd_split (x723.Step == x648.Step) (fun b0 => ⟨[(63, (vB b0)), (62, (vB b0)), (61, (vI x648.Step)), (60, (.ptr 500000 0)), (59, (vI x723.Step)), (58, (.vptr [(vI x723.Step), (vI x723.Station), (vI x723.Pair)] 0)), (57, (.vptr [(vI x723.Step), (vI x723.Station), (vI x723.Pair)] 0)), (56, (vI s684)), (55, (.sl (List.map c_Change l))), (54, (vB false)), (53, (vB false)), (52, (vI x648.Step)), (51, (.ptr 500000 0)), (50, (vI x722.Step)), (49, (.vptr [(vI x722.Step), (vI x722.Station), (vI x722.Pair)] 0)), (48, (.vptr [(vI x722.Step), (vI x722.Station), (vI x722.Pair)] 0)), (47, (vI s684)), (46, (.sl (List.map c_Change l))), (0, (.sl (List.map (cS cI) needs))), (1, (vI stations)), (2, (.sl (List.map c_Change l))), (7, (vI s403)), (8, (.ptr 500000 0)), (9, (vI s684))], [(500000, .box [(vI x648.Step), (vI x648.Station), (vI x648.Pair)])]⟩) (by kernel_rfl) (fun hb => ?_) (fun hb => ?_)
                · replace h := iteT hb h
                  refine evd_run 2 (by kernel_rfl) ?_
                  obtain ⟨x724, hx724, h⟩ := bindS h
                  refine evd_val (by kernel_rfl) (st_idx (c := c_Change) (l := l) (i := s684) (kd := .i64) (sz := 3) (by kernel_rfl) hx724 rfl) (by kernel_rfl) (by kernel_rfl) ?_
                  refine evd_run 4 (by kernel_rfl) ?_
                  refine evd_end (by kernel_rfl) ?_
                  refine evo_run 3 (by kernel_rfl) ?_
                  refine evo_endS (by kernel_rfl) (fun τ hτ => ?_)
                  obtain rfl := Option.some.inj h
                  exact leafC hτ (here (by kernel_rfl))
                · replace h := iteF hb h
                  refine evd_run 7 (by kernel_rfl) ?_
                  refine evd_end (by kernel_rfl) ?_
                  refine evo_run 3 (by kernel_rfl) ?_
                  refine evo_endS (by kernel_rfl) (fun τ hτ => ?_)
                  obtain rfl := Option.some.inj h
                  exact leafC hτ (here (by kernel_rfl))
            refine th_normalS hτ ⟨[(0, (.sl (List.map (cS cI) needs))), (1, (vI stations)), (2, (.sl (List.map c_Change l))), (7, (vI s403)), (8, (.ptr 500000 0)), (9, (vI s684)), (73, (vB j721))], [(500000, .box [(vI x648.Step), (vI x648.Station), (vI x648.Pair)])]⟩ (here (by kernel_rfl)) ?_
            refine sem_cond j721 (by kernel_rfl) (by kernel_rfl) (fun hb => ?_) (fun hb => ?_)
            · replace h := iteT hb h
              refine sem_seq (by kernel_rfl) ?_
              refine sem_region (by kernel_rfl) ?_
              refine evs_run 1 (by kernel_rfl) ?_
              refine evs_endS (by kernel_rfl) (fun τ hτ => ?_)
              refine th_normalS hτ ⟨[(6, (vB false))], []⟩ (here (by kernel_rfl)) ?_
              refine sem_retS (by kernel_rfl) (fun τ hτ => ?_)
              refine bl_ret ?_
              refine th_ret ?_
              obtain rfl := Option.some.inj h
              exact lk_outS hτ rfl (here (by kernel_rfl))
            · replace h := iteF hb h
              refine sem_skipS (by kernel_rfl) (fun τ hτ => ?_)
              refine bl_normal ?_
              refine th_normalS hτ ⟨[(0, (.sl (List.map (cS cI) needs))), (1, (vI stations)), (2, (.sl (List.map c_Change l))), (7, (vI s403)), (8, (.ptr 500000 0)), (9, (vI s684))], [(500000, .box [(vI x648.Step), (vI x648.Station), (vI x648.Pair)])]⟩ (here (by kernel_rfl)) ?_
              refine sem_region (by kernel_rfl) ?_
              refine evs_run 3 (by kernel_rfl) ?_
              refine evs_endS (by kernel_rfl) (fun τ hτ => ?_)
              obtain rfl := Option.some.inj h
              exact lk_nextS hτ (here (by kernel_rfl))
          · replace h := iteF hb h
            refine sem_exitS 2 (by kernel_rfl) rfl (fun τ hτ => ?_)
            refine th_exit ?_
            obtain rfl := Option.some.inj h
            exact lk_outS hτ rfl (here (by kernel_rfl))
        · intro x
          rcases x with _ | _ <;> rfl
        · intro τ hτ
          rcases x725 with j726 | j727
          · refine bl_ret ?_
            refine bl_ret ?_
            refine th_ret ?_
            obtain rfl := Option.some.inj h
            exact lk_outS hτ rfl (here (by kernel_rfl))
          · refine bl_hit (by kernel_rfl) ?_
            refine bl_normal ?_
            refine th_normalS hτ ⟨[(0, (.sl (List.map (cS cI) needs))), (1, (vI stations)), (2, (.sl (List.map c_Change l))), (7, (vI s403))], []⟩ (here (by kernel_rfl)) ?_
            refine sem_region (by kernel_rfl) ?_
            refine evs_run 3 (by kernel_rfl) ?_
            refine evs_endS (by kernel_rfl) (fun τ hτ => ?_)
            obtain rfl := Option.some.inj h
            exact lk_nextS hτ (here (by kernel_rfl))
    · replace h := iteF hb h
      refine sem_exitS 0 (by kernel_rfl) rfl (fun τ hτ => ?_)
      refine th_exit ?_
      obtain rfl := Option.some.inj h
      exact lk_outS hτ rfl (here (by kernel_rfl))
  · intro x
    rcases x with _ | _ <;> rfl
  · intro τ hτ
    rcases x728 with j729 | j730
    · refine bl_ret ?_
      refine th_ret ?_
      obtain rfl := Option.some.inj h
      exact rk_ret hτ [(6, (vB false))] (here (by kernel_rfl)) (by kernel_rfl)
    · refine bl_hit (by kernel_rfl) ?_
      refine th_normalS hτ ⟨[], []⟩ (here (by kernel_rfl)) ?_
      refine sem_seq (by kernel_rfl) ?_
      refine sem_region (by kernel_rfl) ?_
      refine evs_run 1 (by kernel_rfl) ?_
      refine evs_endS (by kernel_rfl) (fun τ hτ => ?_)
      refine th_normalS hτ ⟨[(6, (vB true))], []⟩ (here (by kernel_rfl)) ?_
      refine sem_retS (by kernel_rfl) (fun τ hτ => ?_)
      obtain rfl := Option.some.inj h
      exact rk_ret hτ [(6, (vB true))] (here (by kernel_rfl)) (by kernel_rfl)
theorem W.sheetmetalref05_mounted_ok {stations : Int} {l : (List Change)} {step : Int} {r : (List Int)} (h : sheetmetalref05_mounted stations l step = some r) : PC G.P 71 [(vI stations), (.sl (List.map c_Change l)), (vI step)] [] (.row (.top 0) 3) [(0, .row 3 [] (List.map cI r))] := by
  refine pc_of G (fn := Try.f71) Try.func71 (by kernel_rfl) (by kernel_rfl) (by kernel_rfl) (by kernel_rfl) (by kernel_rfl) ?_
  refine sem_set ⟨[(0, (vI stations)), (1, (.sl (List.map c_Change l))), (2, (vI step))], []⟩ (by kernel_rfl) ?_
  refine sem_seq (by kernel_rfl) ?_
  refine sem_region (by kernel_rfl) ?_
  refine evs_run 1 (by kernel_rfl) ?_
  refine evs_endS (by kernel_rfl) (fun τ hτ => ?_)
  refine th_normalS hτ ⟨[(0, (vI stations)), (1, (.sl (List.map c_Change l))), (2, (vI step))], []⟩ (here (by kernel_rfl)) ?_
  refine sem_seq (by kernel_rfl) ?_
  refine sem_region (by kernel_rfl) ?_
  refine evs_run 1 (by kernel_rfl) ?_
  refine evs_endS (by kernel_rfl) (fun τ hτ => ?_)
  refine th_normalS hτ ⟨[(0, (vI stations)), (1, (.sl (List.map c_Change l))), (2, (vI step)), (7, (.row (.top 7) 3))], [(7, .row 3 [] (List.map cI []))]⟩ (here (by kernel_rfl)) ?_
  refine sem_seq (by kernel_rfl) ?_
  refine sem_seq (by kernel_rfl) ?_
  refine sem_region (by kernel_rfl) ?_
  refine evs_run 1 (by kernel_rfl) ?_
  refine evs_endS (by kernel_rfl) (fun τ hτ => ?_)
  refine th_normalS hτ ⟨[(0, (vI stations)), (1, (.sl (List.map c_Change l))), (2, (vI step)), (7, (.row (.top 7) 3)), (8, (vI 0))], [(7, .row 3 [] (List.map cI []))]⟩ (here (by kernel_rfl)) ?_
  refine sem_block (by kernel_rfl) ?_
  obtain ⟨x1182, hx1182, h⟩ := bindS h
  refine sem_loopS (fun (s789 : Int × (List Int)) => ⟨[(0, (vI stations)), (1, (.sl (List.map c_Change l))), (2, (vI step)), (7, (.row (.top 500000) 3)), (8, (vI s789.1))], [(500000, .row 3 [] (List.map cI s789.2))]⟩) (fun (x1182 : (List Int)) => (.exit 0, ⟨[(7, (.row (.top 500000) 3))], [(500000, .row 3 [] (List.map cI x1182))]⟩)) (sheetmetalref05_mounted_l3 stations l step) (0, []) x1182 (by kernel_rfl) (subR_prep [] [(7, 500000)] (by kernel_rfl) rfl rfl (by kernel_rfl)) hx1182 ?_ ?_ ?_
  · intro s789 r h
    refine sem_seq (by kernel_rfl) ?_
    refine sem_seq (by kernel_rfl) ?_
    refine sem_region (by kernel_rfl) ?_
    refine evs_run 3 (by kernel_rfl) ?_
    refine evs_endS (by kernel_rfl) (fun τ hτ => ?_)
    refine th_normalS hτ ⟨[(0, (vI stations)), (1, (.sl (List.map c_Change l))), (2, (vI step)), (7, (.row (.top 500000) 3)), (8, (vI s789.1)), (13, (vB (decide (s789.1 < stations))))], [(500000, .row 3 [] (List.map cI s789.2))]⟩ (here (by kernel_rfl)) ?_
    refine sem_cond (decide (s789.1 < stations)) (by kernel_rfl) (by kernel_rfl) (fun hb => ?_) (fun hb => ?_)
    · replace h := iteT hb h
      refine sem_skipS (by kernel_rfl) (fun τ hτ => ?_)
      refine th_normalS hτ ⟨[(0, (vI stations)), (1, (.sl (List.map c_Change l))), (2, (vI step)), (7, (.row (.top 500000) 3)), (8, (vI s789.1))], [(500000, .row 3 [] (List.map cI s789.2))]⟩ (here (by kernel_rfl)) ?_
      refine sem_seq (by kernel_rfl) ?_
      refine sem_block (by kernel_rfl) ?_
      refine sem_seq (by kernel_rfl) ?_
      refine sem_region (by kernel_rfl) ?_
      refine evs_run 1 (by kernel_rfl) ?_
      refine evs_endS (by kernel_rfl) (fun τ hτ => ?_)
      refine th_normalS hτ ⟨[(0, (vI stations)), (1, (.sl (List.map c_Change l))), (2, (vI step)), (7, (.row (.top 500000) 3)), (8, (vI s789.1)), (9, (vI (-1)))], [(500000, .row 3 [] (List.map cI s789.2))]⟩ (here (by kernel_rfl)) ?_
      refine sem_seq (by kernel_rfl) ?_
      refine sem_seq (by kernel_rfl) ?_
      refine sem_region (by kernel_rfl) ?_
      refine evs_run 1 (by kernel_rfl) ?_
      refine evs_endS (by kernel_rfl) (fun τ hτ => ?_)
      refine th_normalS hτ ⟨[(0, (vI stations)), (1, (.sl (List.map c_Change l))), (2, (vI step)), (7, (.row (.top 500000) 3)), (8, (vI s789.1)), (9, (vI (-1))), (10, (vI 0))], [(500000, .row 3 [] (List.map cI s789.2))]⟩ (here (by kernel_rfl)) ?_
      refine sem_block (by kernel_rfl) ?_
      obtain ⟨x1179, hx1179, h⟩ := bindS h
      refine sem_loopS (fun (s1148 : Int × Int) => ⟨[(0, (vI stations)), (1, (.sl (List.map c_Change l))), (2, (vI step)), (7, (.row (.top 500000) 3)), (8, (vI s789.1)), (9, (vI s1148.1)), (10, (vI s1148.2))], [(500000, .row 3 [] (List.map cI s789.2))]⟩) (fun (x1179 : Int) => (.exit 2, ⟨[(0, (vI stations)), (1, (.sl (List.map c_Change l))), (2, (vI step)), (7, (.row (.top 500000) 3)), (8, (vI s789.1)), (9, (vI x1179))], [(500000, .row 3 [] (List.map cI s789.2))]⟩)) (sheetmetalref05_mounted_l2 l step s789) ((-1), 0) x1179 (by kernel_rfl) (here (by kernel_rfl)) hx1179 ?_ ?_ ?_
      · intro s1148 r h
        refine sem_seq (by kernel_rfl) ?_
        refine sem_seq (by kernel_rfl) ?_
        refine sem_region (by kernel_rfl) ?_
        refine evs_run 2 (by kernel_rfl) ?_
        refine evs_op (st_len (c := c_Change) (l := l) (x := (.sl (List.map c_Change l))) (by kernel_rfl) (by kernel_rfl)) ?_
        refine evs_run 1 (by kernel_rfl) ?_
        refine evs_endS (by kernel_rfl) (fun τ hτ => ?_)
        refine th_normalS hτ ⟨[(0, (vI stations)), (1, (.sl (List.map c_Change l))), (2, (vI step)), (7, (.row (.top 500000) 3)), (8, (vI s789.1)), (9, (vI s1148.1)), (10, (vI s1148.2)), (19, (vB (decide (s1148.2 < (l.length : Int)))))], [(500000, .row 3 [] (List.map cI s789.2))]⟩ (here (by kernel_rfl)) ?_
        refine sem_cond (decide (s1148.2 < (l.length : Int))) (by kernel_rfl) (by kernel_rfl) (fun hb => ?_) (fun hb => ?_)
        · replace h := iteT hb h
          refine sem_skipS (by kernel_rfl) (fun τ hτ => ?_)
          refine th_normalS hτ ⟨[(0, (vI stations)), (1, (.sl (List.map c_Change l))), (2, (vI step)), (7, (.row (.top 500000) 3)), (8, (vI s789.1)), (9, (vI s1148.1)), (10, (vI s1148.2))], [(500000, .row 3 [] (List.map cI s789.2))]⟩ (here (by kernel_rfl)) ?_
          refine sem_seqJ (fun (j1171 : Int) => ⟨[(0, (vI stations)), (1, (.sl (List.map c_Change l))), (2, (vI step)), (7, (.row (.top 500000) 3)), (8, (vI s789.1)), (9, (vI j1171)), (10, (vI s1148.2))], [(500000, .row 3 [] (List.map cI s789.2))]⟩) (sheetmetalref05_mounted_k1 s1148) r (by kernel_rfl) (fun j1171 h => ?_) ?_
          · refine sem_region (by kernel_rfl) ?_
            refine evs_run 3 (by kernel_rfl) ?_
            refine evs_endS (by kernel_rfl) (fun τ hτ => ?_)
            obtain rfl := Option.some.inj h
            exact lk_nextS hτ (here (by kernel_rfl))
          refine sem_block (by kernel_rfl) ?_
          refine sem_seq (by kernel_rfl) ?_
          obtain ⟨j1174, hj1174, h⟩ := bindS h
          refine sem_regionC ⟨[(0, (vI stations)), (1, (.sl (List.map c_Change l))), (2, (vI step)), (7, (.row (.top 500000) 3)), (8, (vI s789.1)), (9, (vI s1148.1)), (10, (vI s1148.2)), (37, (vB j1174))], [(500000, .row 3 [] (List.map cI s789.2))]⟩ (by kernel_rfl) ?_ (fun τ hτ => ?_)
          · replace h := hj1174
            refine evs_run 2 (by kernel_rfl) ?_
            obtain ⟨x1175, hx1175, h⟩ := bindS h
            refine evs_op (st_idx (c := c_Change) (l := l) (i := s1148.2) (kd := .i64) (sz := 3) (by kernel_rfl) hx1175 rfl) ?_
            refine evs_run 5 (by kernel_rfl) ?_
            refine evs_split (decide (x1175.Step ≤ step)) (fun b0 => ⟨[(0, (vI stations)), (1, (.sl (List.map c_Change l))), (2, (vI step)), (7, (.row (.top 500000) 3)), (8, (vI s789.1)), (9, (vI s1148.1)), (10, (vI s1148.2)), (29, (vB b0))], [(500000, .row 3 [] (List.map cI s789.2))]⟩) (by kernel_rfl) (fun hb => ?_) (fun hb => ?_)
            · replace h := iteT hb h
              refine evs_run 2 (by kernel_rfl) ?_
              obtain ⟨x1176, hx1176, h⟩ := bindS h
              refine evs_op (st_idx (c := c_Change) (l := l) (i := s1148.2) (kd := .i64) (sz := 3) (by kernel_rfl) hx1176 rfl) ?_
              refine evs_run 5 (by kernel_rfl) ?_
              refine evs_endS (by kernel_rfl) (fun τ hτ => ?_)
              obtain rfl := Option.some.inj h
              exact leafC hτ (here (by kernel_rfl))
            · replace h := iteF hb h
              refine evs_run 8 (by kernel_rfl) ?_
              refine evs_endS (by kernel_rfl) (fun τ hτ => ?_)
              obtain rfl := Option.some.inj h
              exact leafC hτ (here (by kernel_rfl))
          refine th_normalS hτ ⟨[(0, (vI stations)), (1, (.sl (List.map c_Change l))), (2, (vI step)), (7, (.row (.top 500000) 3)), (8, (vI s789.1)), (9, (vI s1148.1)), (10, (vI s1148.2)), (37, (vB j1174))], [(500000, .row 3 [] (List.map cI s789.2))]⟩ (here (by kernel_rfl)) ?_
          refine sem_cond j1174 (by kernel_rfl) (by kernel_rfl) (fun hb => ?_) (fun hb => ?_)
          · replace h := iteT hb h
            refine sem_region (by kernel_rfl) ?_
            refine evs_run 2 (by kernel_rfl) ?_
            obtain ⟨x1178, hx1178, h⟩ := bindS h
            refine evs_op (st_idx (c := c_Change) (l := l) (i := s1148.2) (kd := .i64) (sz := 3) (by kernel_rfl) hx1178 rfl) ?_
            refine evs_run 3 (by kernel_rfl) ?_
            refine evs_endS (by kernel_rfl) (fun τ hτ => ?_)
            refine bl_normal ?_
            exact jk_normal x1178.Pair h hτ (here (by kernel_rfl))
          · replace h := iteF hb h
            refine sem_skipS (by kernel_rfl) (fun τ hτ => ?_)
            refine bl_normal ?_
            exact jk_normal s1148.1 h hτ (here (by kernel_rfl))
        · replace h := iteF hb h
          refine sem_exitS 2 (by kernel_rfl) rfl (fun τ hτ => ?_)
          refine th_exit ?_
          obtain rfl := Option.some.inj h
          exact lk_outS hτ rfl (here (by kernel_rfl))
      · intro x
        rfl
      · intro τ hτ
        refine bl_hit (by kernel_rfl) ?_
        refine th_normalS hτ ⟨[(0, (vI stations)), (1, (.sl (List.map c_Change l))), (2, (vI step)), (7, (.row (.top 500000) 3)), (8, (vI s789.1)), (9, (vI x1179))], [(500000, .row 3 [] (List.map cI s789.2))]⟩ (here (by kernel_rfl)) ?_
        refine sem_region (by kernel_rfl) ?_
        refine evs_run 3 (by kernel_rfl) ?_
        obtain ⟨l1181, hl1181, h⟩ := bindS h
        refine evs_op (st_app (c := cI) (l := s789.2) (l2 := [x1179]) (x := (.sl (List.map cI [x1179]))) (g := 500000) (e := 3) (sz := 1) (d := 46) (by kernel_rfl) (by kernel_rfl) (by kernel_rfl) (by kernel_rfl) (fun _ => rfl) rfl hl1181) ?_
        refine evs_run 1 (by kernel_rfl) ?_
        refine evs_endS (by kernel_rfl) (fun τ hτ => ?_)
        refine bl_normal ?_
        refine th_normalS hτ ⟨[(0, (vI stations)), (1, (.sl (List.map c_Change l))), (2, (vI step)), (7, (.row (.top 500000) 3)), (8, (vI s789.1))], [(500000, .row 3 [] (List.map cI l1181))]⟩ (here (by kernel_rfl)) ?_
        refine sem_region (by kernel_rfl) ?_
        refine evs_run 3 (by kernel_rfl) ?_
        refine evs_endS (by kernel_rfl) (fun τ hτ => ?_)
        obtain rfl := Option.some.inj h
        exact lk_nextS hτ (here (by kernel_rfl))
    · replace h := iteF hb h
      refine sem_exitS 0 (by kernel_rfl) rfl (fun τ hτ => ?_)
      refine th_exit ?_
      obtain rfl := Option.some.inj h
      exact lk_outS hτ rfl (here (by kernel_rfl))
  · intro x
    rfl
  · intro τ hτ
    refine bl_hit (by kernel_rfl) ?_
    refine th_normalS hτ ⟨[(7, (.row (.top 500000) 3))], [(500000, .row 3 [] (List.map cI x1182))]⟩ (here (by kernel_rfl)) ?_
    refine sem_seq (by kernel_rfl) ?_
    refine sem_region (by kernel_rfl) ?_
    refine evs_run 2 (by kernel_rfl) ?_
    refine evs_endS (by kernel_rfl) (fun τ hτ => ?_)
    refine th_normalS hτ ⟨[(6, (.row (.top 500000) 3))], [(500000, .row 3 [] (List.map cI x1182))]⟩ (here (by kernel_rfl)) ?_
    refine sem_retS (by kernel_rfl) (fun τ hτ => ?_)
    obtain rfl := Option.some.inj h
    exact rk_ret hτ [(6, (.row (.top 0) 3))] (subR_prep [] [(500000, 0)] (by kernel_rfl) rfl rfl (by kernel_rfl)) (by kernel_rfl)
theorem W.sheetmetalref05_Check_ok {needs : (List (List Int))} {stations : Int} {l : (List Change)} {r : Int} (h : sheetmetalref05_Check needs stations l = some r) : PC G.P 42 [(.sl (List.map (cS cI) needs)), (vI stations), (.sl (List.map c_Change l))] [] (vI r) [] := by
  refine pc_of G (fn := Try.f42) Try.func42 (by kernel_rfl) (by kernel_rfl) (by kernel_rfl) (by kernel_rfl) (by kernel_rfl) ?_
  refine sem_set ⟨[(0, (.sl (List.map (cS cI) needs))), (1, (vI stations)), (2, (.sl (List.map c_Change l)))], []⟩ (by kernel_rfl) ?_
  refine sem_seq (by kernel_rfl) ?_
  refine sem_region (by kernel_rfl) ?_
  refine evs_run 1 (by kernel_rfl) ?_
  refine evs_endS (by kernel_rfl) (fun τ hτ => ?_)
  refine th_normalS hτ ⟨[(0, (.sl (List.map (cS cI) needs))), (1, (vI stations)), (2, (.sl (List.map c_Change l)))], []⟩ (here (by kernel_rfl)) ?_
  refine sem_seq (by kernel_rfl) ?_
  refine sem_seq (by kernel_rfl) ?_
  refine sem_region (by kernel_rfl) ?_
  refine evs_run 2 (by kernel_rfl) ?_
  obtain ⟨r4, hr4, h⟩ := bindS h
  refine evs_callP [] (by kernel_rfl) (W.sheetmetalref05_Check0_ok hr4) (by kernel_rfl) (.inl rfl) (by kernel_rfl) ?_
  refine evs_run 1 (by kernel_rfl) ?_
  refine evs_endS (by kernel_rfl) (fun τ hτ => ?_)
  refine th_normalS hτ ⟨[(0, (.sl (List.map (cS cI) needs))), (1, (vI stations)), (2, (.sl (List.map c_Change l))), (7, (vI r4))], []⟩ (here (by kernel_rfl)) ?_
  refine sem_seq (by kernel_rfl) ?_
  refine sem_region (by kernel_rfl) ?_
  refine evs_run 2 (by kernel_rfl) ?_
  refine evs_endS (by kernel_rfl) (fun τ hτ => ?_)
  refine th_normalS hτ ⟨[(0, (.sl (List.map (cS cI) needs))), (1, (vI stations)), (2, (.sl (List.map c_Change l))), (7, (vI r4)), (16, (vB (r4 != 0)))], []⟩ (here (by kernel_rfl)) ?_
  refine sem_cond (r4 != 0) (by kernel_rfl) (by kernel_rfl) (fun hb => ?_) (fun hb => ?_)
  · replace h := iteT hb h
    refine sem_seq (by kernel_rfl) ?_
    refine sem_region (by kernel_rfl) ?_
    refine evs_run 2 (by kernel_rfl) ?_
    refine evs_endS (by kernel_rfl) (fun τ hτ => ?_)
    refine th_normalS hτ ⟨[(6, (vI r4))], []⟩ (here (by kernel_rfl)) ?_
    refine sem_retS (by kernel_rfl) (fun τ hτ => ?_)
    refine th_ret ?_
    obtain rfl := Option.some.inj h
    exact rk_ret hτ [(6, (vI r4))] (here (by kernel_rfl)) (by kernel_rfl)
  · replace h := iteF hb h
    refine sem_skipS (by kernel_rfl) (fun τ hτ => ?_)
    refine th_normalS hτ ⟨[(0, (.sl (List.map (cS cI) needs))), (1, (vI stations)), (2, (.sl (List.map c_Change l)))], []⟩ (here (by kernel_rfl)) ?_
    refine sem_seq (by kernel_rfl) ?_
    refine sem_seq (by kernel_rfl) ?_
    refine sem_region (by kernel_rfl) ?_
    refine evs_run 3 (by kernel_rfl) ?_
    obtain ⟨r8, hr8, h⟩ := bindS h
    refine evs_callP [] (by kernel_rfl) (W.sheetmetalref05_ordered_ok hr8) (by kernel_rfl) (.inl rfl) (by kernel_rfl) ?_
    refine evs_run 1 (by kernel_rfl) ?_
    refine evs_endS (by kernel_rfl) (fun τ hτ => ?_)
    refine th_normalS hτ ⟨[(0, (.sl (List.map (cS cI) needs))), (1, (vI stations)), (2, (.sl (List.map c_Change l))), (22, (vB (!r8)))], []⟩ (here (by kernel_rfl)) ?_
    refine sem_cond (!r8) (by kernel_rfl) (by kernel_rfl) (fun hb => ?_) (fun hb => ?_)
    · replace h := iteT hb h
      refine sem_seq (by kernel_rfl) ?_
      refine sem_region (by kernel_rfl) ?_
      refine evs_run 1 (by kernel_rfl) ?_
      refine evs_endS (by kernel_rfl) (fun τ hτ => ?_)
      refine th_normalS hτ ⟨[(6, (vI 12))], []⟩ (here (by kernel_rfl)) ?_
      refine sem_retS (by kernel_rfl) (fun τ hτ => ?_)
      refine th_ret ?_
      obtain rfl := Option.some.inj h
      exact rk_ret hτ [(6, (vI 12))] (here (by kernel_rfl)) (by kernel_rfl)
    · replace h := iteF hb h
      refine sem_skipS (by kernel_rfl) (fun τ hτ => ?_)
      refine th_normalS hτ ⟨[(0, (.sl (List.map (cS cI) needs))), (1, (vI stations)), (2, (.sl (List.map c_Change l)))], []⟩ (here (by kernel_rfl)) ?_
      refine sem_seq (by kernel_rfl) ?_
      refine sem_seq (by kernel_rfl) ?_
      refine sem_region (by kernel_rfl) ?_
      refine evs_run 1 (by kernel_rfl) ?_
      refine evs_endS (by kernel_rfl) (fun τ hτ => ?_)
      refine th_normalS hτ ⟨[(0, (.sl (List.map (cS cI) needs))), (1, (vI stations)), (2, (.sl (List.map c_Change l))), (8, (vI 0))], []⟩ (here (by kernel_rfl)) ?_
      refine sem_block (by kernel_rfl) ?_
      obtain ⟨x784, hx784, h⟩ := bindS h
      refine sem_loopS (fun (s527 : Int) => ⟨[(0, (.sl (List.map (cS cI) needs))), (1, (vI stations)), (2, (.sl (List.map c_Change l))), (8, (vI s527))], []⟩) (fun (x784 : Unit ⊕ Unit) => match x784 with | .inl j785 => (.ret, ⟨[(6, (vI 11))], []⟩) | .inr j786 => (.exit 0, ⟨[], []⟩)) (sheetmetalref05_Check_l3 needs stations l) 0 x784 (by kernel_rfl) (here (by kernel_rfl)) hx784 ?_ ?_ ?_
      · intro s527 r h
        refine sem_seq (by kernel_rfl) ?_
        refine sem_seq (by kernel_rfl) ?_
        refine sem_region (by kernel_rfl) ?_
        refine evs_run 2 (by kernel_rfl) ?_
        refine evs_op (st_len (c := (cS cI)) (l := needs) (x := (.sl (List.map (cS cI) needs))) (by kernel_rfl) (by kernel_rfl)) ?_
        refine evs_run 1 (by kernel_rfl) ?_
        refine evs_endS (by kernel_rfl) (fun τ hτ => ?_)
        refine th_normalS hτ ⟨[(0, (.sl (List.map (cS cI) needs))), (1, (vI stations)), (2, (.sl (List.map c_Change l))), (8, (vI s527)), (26, (vB (decide (s527 < (needs.length : Int)))))], []⟩ (here (by kernel_rfl)) ?_
        refine sem_cond (decide (s527 < (needs.length : Int))) (by kernel_rfl) (by kernel_rfl) (fun hb => ?_) (fun hb => ?_)
        · replace h := iteT hb h
          refine sem_skipS (by kernel_rfl) (fun τ hτ => ?_)
          refine th_normalS hτ ⟨[(0, (.sl (List.map (cS cI) needs))), (1, (vI stations)), (2, (.sl (List.map c_Change l))), (8, (vI s527))], []⟩ (here (by kernel_rfl)) ?_
          refine sem_seq (by kernel_rfl) ?_
          refine sem_block (by kernel_rfl) ?_
          refine sem_seq (by kernel_rfl) ?_
          refine sem_region (by kernel_rfl) ?_
          refine evs_run 1 (by kernel_rfl) ?_
          refine evs_endS (by kernel_rfl) (fun τ hτ => ?_)
          refine th_normalS hτ ⟨[(0, (.sl (List.map (cS cI) needs))), (1, (vI stations)), (2, (.sl (List.map c_Change l))), (8, (vI s527)), (9, (vI 0))], []⟩ (here (by kernel_rfl)) ?_
          refine sem_seq (by kernel_rfl) ?_
          refine sem_region (by kernel_rfl) ?_
          refine evs_run 3 (by kernel_rfl) ?_
          obtain ⟨r721, hr721, h⟩ := bindS h
          refine evs_callS [] [(0, 700150)] [] (by kernel_rfl) (W.sheetmetalref05_mounted_ok hr721) (by kernel_rfl) (by kernel_rfl) (.inl rfl) ?_
          refine evs_run 1 (by kernel_rfl) ?_
          refine evs_endS (by kernel_rfl) (fun τ hτ => ?_)
          refine th_normalS hτ ⟨[(0, (.sl (List.map (cS cI) needs))), (1, (vI stations)), (2, (.sl (List.map c_Change l))), (8, (vI s527)), (9, (vI 0)), (10, (.row (.top 700150) 3))], [(700150, .row 3 [] (List.map cI r721))]⟩ (here (by kernel_rfl)) ?_
          refine sem_seq (by kernel_rfl) ?_
          refine sem_seq (by kernel_rfl) ?_
          refine sem_region (by kernel_rfl) ?_
          refine evs_run 1 (by kernel_rfl) ?_
          refine evs_endS (by kernel_rfl) (fun τ hτ => ?_)
          refine th_normalS hτ ⟨[(0, (.sl (List.map (cS cI) needs))), (1, (vI stations)), (2, (.sl (List.map c_Change l))), (8, (vI s527)), (9, (vI 0)), (10, (.row (.top 700150) 3)), (11, (vI 0))], [(700150, .row 3 [] (List.map cI r721))]⟩ (here (by kernel_rfl)) ?_
          refine sem_block (by kernel_rfl) ?_
          obtain ⟨x781, hx781, h⟩ := bindS h
          refine sem_loopS (fun (s762 : Int × Int) => ⟨[(0, (.sl (List.map (cS cI) needs))), (1, (vI stations)), (2, (.sl (List.map c_Change l))), (8, (vI s527)), (9, (vI s762.1)), (10, (.row (.top 500000) 3)), (11, (vI s762.2))], [(500000, .row 3 [] (List.map cI r721))]⟩) (fun (x781 : Int) => (.exit 2, ⟨[(0, (.sl (List.map (cS cI) needs))), (1, (vI stations)), (2, (.sl (List.map c_Change l))), (8, (vI s527)), (9, (vI x781))], []⟩)) (sheetmetalref05_Check_l2 r721) (0, 0) x781 (by kernel_rfl) (subR_prep [] [(700150, 500000)] (by kernel_rfl) rfl rfl (by kernel_rfl)) hx781 ?_ ?_ ?_
          · intro s762 r h
            refine sem_seq (by kernel_rfl) ?_
            refine sem_seq (by kernel_rfl) ?_
            refine sem_region (by kernel_rfl) ?_
            refine evs_run 2 (by kernel_rfl) ?_
            refine evs_op (st_len (c := cI) (l := r721) (x := (.row (.top 500000) 3)) (by kernel_rfl) (by kernel_rfl)) ?_
            refine evs_run 1 (by kernel_rfl) ?_
            refine evs_endS (by kernel_rfl) (fun τ hτ => ?_)
            refine th_normalS hτ ⟨[(0, (.sl (List.map (cS cI) needs))), (1, (vI stations)), (2, (.sl (List.map c_Change l))), (8, (vI s527)), (9, (vI s762.1)), (10, (.row (.top 500000) 3)), (11, (vI s762.2)), (36, (vB (decide (s762.2 < (r721.length : Int)))))], [(500000, .row 3 [] (List.map cI r721))]⟩ (here (by kernel_rfl)) ?_
            refine sem_cond (decide (s762.2 < (r721.length : Int))) (by kernel_rfl) (by kernel_rfl) (fun hb => ?_) (fun hb => ?_)
            · replace h := iteT hb h
              refine sem_skipS (by kernel_rfl) (fun τ hτ => ?_)
              refine th_normalS hτ ⟨[(0, (.sl (List.map (cS cI) needs))), (1, (vI stations)), (2, (.sl (List.map c_Change l))), (8, (vI s527)), (9, (vI s762.1)), (10, (.row (.top 500000) 3)), (11, (vI s762.2))], [(500000, .row 3 [] (List.map cI r721))]⟩ (here (by kernel_rfl)) ?_
              refine sem_seqJ (fun (j776 : Int) => ⟨[(0, (.sl (List.map (cS cI) needs))), (1, (vI stations)), (2, (.sl (List.map c_Change l))), (8, (vI s527)), (9, (vI j776)), (10, (.row (.top 500000) 3)), (11, (vI s762.2))], [(500000, .row 3 [] (List.map cI r721))]⟩) (sheetmetalref05_Check_k1 s762) r (by kernel_rfl) (fun j776 h => ?_) ?_
              · refine sem_region (by kernel_rfl) ?_
                refine evs_run 3 (by kernel_rfl) ?_
                refine evs_endS (by kernel_rfl) (fun τ hτ => ?_)
                obtain rfl := Option.some.inj h
                exact lk_nextS hτ (here (by kernel_rfl))
              refine sem_block (by kernel_rfl) ?_
              refine sem_seq (by kernel_rfl) ?_
              refine sem_region (by kernel_rfl) ?_
              refine evs_run 2 (by kernel_rfl) ?_
              obtain ⟨x778, hx778, h⟩ := bindS h
              refine evs_op (st_idxO (c := cI) (l := r721) (i := s762.2) (kd := .i64) (kk := (.top 500000)) (e := 3) (sz := 1) (by kernel_rfl) (by kernel_rfl) hx778 rfl) ?_
              refine evs_op (st_ldO (c := cI) (l := r721) (i := (Int.toNat s762.2)) (v := (vI x778)) (agg := false) (sz := 1) (kk := (.top 500000)) (e := 3) (off := 0) (J := []) (by kernel_rfl) (by kernel_rfl) (by kernel_rfl) ((idxS hx778).2) (by kernel_rfl)) ?_
              refine evs_run 1 (by kernel_rfl) ?_
              refine evs_endS (by kernel_rfl) (fun τ hτ => ?_)
              refine th_normalS hτ ⟨[(0, (.sl (List.map (cS cI) needs))), (1, (vI stations)), (2, (.sl (List.map c_Change l))), (8, (vI s527)), (9, (vI s762.1)), (10, (.row (.top 500000) 3)), (11, (vI s762.2)), (43, (vB (decide (x778 ≥ 0))))], [(500000, .row 3 [] (List.map cI r721))]⟩ (here (by kernel_rfl)) ?_
              refine sem_cond (decide (x778 ≥ 0)) (by kernel_rfl) (by kernel_rfl) (fun hb => ?_) (fun hb => ?_)
              · replace h := iteT hb h
                refine sem_region (by kernel_rfl) ?_
                refine evs_run 3 (by kernel_rfl) ?_
                obtain ⟨x780, hx780, h⟩ := bindS h
                refine evs_op (st_idxO (c := cI) (l := r721) (i := s762.2) (kd := .i64) (kk := (.top 500000)) (e := 3) (sz := 1) (by kernel_rfl) (by kernel_rfl) hx780 rfl) ?_
                refine evs_op (st_ldO (c := cI) (l := r721) (i := (Int.toNat s762.2)) (v := (vI x780)) (agg := false) (sz := 1) (kk := (.top 500000)) (e := 3) (off := 0) (J := []) (by kernel_rfl) (by kernel_rfl) (by kernel_rfl) ((idxS hx780).2) (by kernel_rfl)) ?_
                refine evs_run 1 (by kernel_rfl) ?_
                obtain ⟨hb, h⟩ := iteN h
                refine evs_op (st_shl (a := 1) (b := (IntKind.wrap .u64 x780)) (kd := .i64) (k2 := .u64) (by kernel_rfl) (of_decide_eq_true hb)) ?_
                refine evs_run 2 (by kernel_rfl) ?_
                refine evs_endS (by kernel_rfl) (fun τ hτ => ?_)
                refine bl_normal ?_
                exact jk_normal (kor .i64 s762.1 (IntKind.wrap .i64 (1 * 2 ^ (min (Int.toNat (IntKind.wrap .u64 x780)) 64)))) h hτ (here (by kernel_rfl))
              · replace h := iteF hb h
                refine sem_skipS (by kernel_rfl) (fun τ hτ => ?_)
                refine bl_normal ?_
                exact jk_normal s762.1 h hτ (here (by kernel_rfl))
            · replace h := iteF hb h
              refine sem_exitS 2 (by kernel_rfl) rfl (fun τ hτ => ?_)
              refine th_exit ?_
              obtain rfl := Option.some.inj h
              exact lk_outS hτ rfl (here (by kernel_rfl))
          · intro x
            rfl
          · intro τ hτ
            refine bl_hit (by kernel_rfl) ?_
            refine th_normalS hτ ⟨[(0, (.sl (List.map (cS cI) needs))), (1, (vI stations)), (2, (.sl (List.map c_Change l))), (8, (vI s527)), (9, (vI x781))], []⟩ (here (by kernel_rfl)) ?_
            refine sem_seq (by kernel_rfl) ?_
            refine sem_region (by kernel_rfl) ?_
            refine evs_run 4 (by kernel_rfl) ?_
            obtain ⟨r783, hr783, h⟩ := bindS h
            refine evs_callP [] (by kernel_rfl) (W.sheetmetalref05_serves_ok hr783) (by kernel_rfl) (.inl rfl) (by kernel_rfl) ?_
            refine evs_run 1 (by kernel_rfl) ?_
            refine evs_endS (by kernel_rfl) (fun τ hτ => ?_)
            refine th_normalS hτ ⟨[(0, (.sl (List.map (cS cI) needs))), (1, (vI stations)), (2, (.sl (List.map c_Change l))), (8, (vI s527)), (57, (vB (!r783)))], []⟩ (here (by kernel_rfl)) ?_
            refine sem_cond (!r783) (by kernel_rfl) (by kernel_rfl) (fun hb => ?_) (fun hb => ?_)
            · replace h := iteT hb h
              refine sem_seq (by kernel_rfl) ?_
              refine sem_region (by kernel_rfl) ?_
              refine evs_run 1 (by kernel_rfl) ?_
              refine evs_endS (by kernel_rfl) (fun τ hτ => ?_)
              refine th_normalS hτ ⟨[(6, (vI 11))], []⟩ (here (by kernel_rfl)) ?_
              refine sem_retS (by kernel_rfl) (fun τ hτ => ?_)
              refine bl_ret ?_
              refine th_ret ?_
              obtain rfl := Option.some.inj h
              exact lk_outS hτ rfl (here (by kernel_rfl))
            · replace h := iteF hb h
              refine sem_skipS (by kernel_rfl) (fun τ hτ => ?_)
              refine bl_normal ?_
              refine th_normalS hτ ⟨[(0, (.sl (List.map (cS cI) needs))), (1, (vI stations)), (2, (.sl (List.map c_Change l))), (8, (vI s527))], []⟩ (here (by kernel_rfl)) ?_
              refine sem_region (by kernel_rfl) ?_
              refine evs_run 3 (by kernel_rfl) ?_
              refine evs_endS (by kernel_rfl) (fun τ hτ => ?_)
              obtain rfl := Option.some.inj h
              exact lk_nextS hτ (here (by kernel_rfl))
        · replace h := iteF hb h
          refine sem_exitS 0 (by kernel_rfl) rfl (fun τ hτ => ?_)
          refine th_exit ?_
          obtain rfl := Option.some.inj h
          exact lk_outS hτ rfl (here (by kernel_rfl))
      · intro x
        rcases x with _ | _ <;> rfl
      · intro τ hτ
        rcases x784 with j785 | j786
        · refine bl_ret ?_
          refine th_ret ?_
          obtain rfl := Option.some.inj h
          exact rk_ret hτ [(6, (vI 11))] (here (by kernel_rfl)) (by kernel_rfl)
        · refine bl_hit (by kernel_rfl) ?_
          refine th_normalS hτ ⟨[], []⟩ (here (by kernel_rfl)) ?_
          refine sem_seq (by kernel_rfl) ?_
          refine sem_region (by kernel_rfl) ?_
          refine evs_run 1 (by kernel_rfl) ?_
          refine evs_endS (by kernel_rfl) (fun τ hτ => ?_)
          refine th_normalS hτ ⟨[(6, (vI 0))], []⟩ (here (by kernel_rfl)) ?_
          refine sem_retS (by kernel_rfl) (fun τ hτ => ?_)
          obtain rfl := Option.some.inj h
          exact rk_ret hτ [(6, (vI 0))] (here (by kernel_rfl)) (by kernel_rfl)
theorem W.setup_mount_1_ok {x0 : Int} {r : Bool} (h : setup_mount_1 x0 = some r) : PC G.P 87 [(vI x0)] [] (vB r) [] := by
  refine pc_of G (fn := Try.f87) Try.func87 (by kernel_rfl) (by kernel_rfl) (by kernel_rfl) (by kernel_rfl) (by kernel_rfl) ?_
  refine sem_set ⟨[(0, (vI x0))], []⟩ (by kernel_rfl) ?_
  refine sem_seq (by kernel_rfl) ?_
  refine sem_region (by kernel_rfl) ?_
  refine evs_run 1 (by kernel_rfl) ?_
  refine evs_endS (by kernel_rfl) (fun τ hτ => ?_)
  refine th_normalS hτ ⟨[(0, (vI x0))], []⟩ (here (by kernel_rfl)) ?_
  refine sem_seq (by kernel_rfl) ?_
  refine sem_region (by kernel_rfl) ?_
  refine evs_run 3 (by kernel_rfl) ?_
  refine evs_endS (by kernel_rfl) (fun τ hτ => ?_)
  refine th_normalS hτ ⟨[(2, (vB (decide (x0 < 0))))], []⟩ (here (by kernel_rfl)) ?_
  refine sem_retS (by kernel_rfl) (fun τ hτ => ?_)
  obtain rfl := Option.some.inj h
  exact rk_ret hτ [(2, (vB (decide (x0 < 0))))] (here (by kernel_rfl)) (by kernel_rfl)
theorem W.slices_IndexFunc_Lint_int__setup_mount_1_ok {s0 : (List Int)} {r : Int} (h : slices_IndexFunc_Lint_int__setup_mount_1 s0 = some r) : PC G.P 86 [(.sl (List.map cI s0)), (.fn 87 [])] [] (vI r) [] := by
  refine pc_of G (fn := Try.f86) Try.func86 (by kernel_rfl) (by kernel_rfl) (by kernel_rfl) (by kernel_rfl) (by kernel_rfl) ?_
  refine sem_set ⟨[(0, (.sl (List.map cI s0))), (1, (.fn 87 []))], []⟩ (by kernel_rfl) ?_
  refine sem_seq (by kernel_rfl) ?_
  refine sem_region (by kernel_rfl) ?_
  refine evs_run 1 (by kernel_rfl) ?_
  refine evs_endS (by kernel_rfl) (fun τ hτ => ?_)
  refine th_normalS hτ ⟨[(0, (.sl (List.map cI s0))), (1, (.fn 87 []))], []⟩ (here (by kernel_rfl)) ?_
  refine sem_seq (by kernel_rfl) ?_
  refine sem_seq (by kernel_rfl) ?_
  refine sem_region (by kernel_rfl) ?_
  refine evs_run 1 (by kernel_rfl) ?_
  refine evs_op (st_len (c := cI) (l := s0) (x := (.sl (List.map cI s0))) (by kernel_rfl) (by kernel_rfl)) ?_
  refine evs_run 1 (by kernel_rfl) ?_
  refine evs_endS (by kernel_rfl) (fun τ hτ => ?_)
  refine th_normalS hτ ⟨[(0, (.sl (List.map cI s0))), (1, (.fn 87 [])), (7, (vI (s0.length : Int))), (8, (vI 0))], []⟩ (here (by kernel_rfl)) ?_
  refine sem_block (by kernel_rfl) ?_
  obtain ⟨x56, hx56, h⟩ := bindS h
  refine sem_loopS (fun (s39 : Int) => ⟨[(0, (.sl (List.map cI s0))), (1, (.fn 87 [])), (7, (vI (s0.length : Int))), (8, (vI s39))], []⟩) (fun (x56 : Int ⊕ Unit) => match x56 with | .inl j57 => (.ret, ⟨[(4, (vI j57))], []⟩) | .inr j58 => (.exit 0, ⟨[], []⟩)) (slices_IndexFunc_Lint_int__setup_mount_1_l1 s0) 0 x56 (by kernel_rfl) (here (by kernel_rfl)) hx56 ?_ ?_ ?_
  · intro s39 r h
    refine sem_seq (by kernel_rfl) ?_
    refine sem_region (by kernel_rfl) ?_
    refine evs_run 1 (by kernel_rfl) ?_
    refine evs_endS (by kernel_rfl) (fun τ hτ => ?_)
    refine th_normalS hτ ⟨[(0, (.sl (List.map cI s0))), (1, (.fn 87 [])), (7, (vI (s0.length : Int))), (8, (vI s39)), (9, (vB (decide (s39 < (s0.length : Int)))))], []⟩ (here (by kernel_rfl)) ?_
    refine sem_seq (by kernel_rfl) ?_
    refine sem_cond (decide (s39 < (s0.length : Int))) (by kernel_rfl) (by kernel_rfl) (fun hb => ?_) (fun hb => ?_)
    · replace h := iteT hb h
      refine sem_skipS (by kernel_rfl) (fun τ hτ => ?_)
      refine th_normalS hτ ⟨[(0, (.sl (List.map cI s0))), (1, (.fn 87 [])), (7, (vI (s0.length : Int))), (8, (vI s39))], []⟩ (here (by kernel_rfl)) ?_
      refine sem_seq (by kernel_rfl) ?_
      refine sem_block (by kernel_rfl) ?_
      refine sem_seq (by kernel_rfl) ?_
      refine sem_region (by kernel_rfl) ?_
      refine evs_run 2 (by kernel_rfl) ?_
      refine evs_endS (by kernel_rfl) (fun τ hτ => ?_)
      refine th_normalS hτ ⟨[(0, (.sl (List.map cI s0))), (1, (.fn 87 [])), (5, (vI s39)), (7, (vI (s0.length : Int))), (8, (vI s39))], []⟩ (here (by kernel_rfl)) ?_
      refine sem_seq (by kernel_rfl) ?_
      refine sem_region (by kernel_rfl) ?_
      refine evs_run 3 (by kernel_rfl) ?_
      obtain ⟨x54, hx54, h⟩ := bindS h
      refine evs_op (st_idx (c := cI) (l := s0) (i := s39) (kd := .i64) (sz := 1) (by kernel_rfl) hx54 rfl) ?_
      refine evs_run 1 (by kernel_rfl) ?_
      obtain ⟨r55, hr55, h⟩ := bindS h
      refine evs_callP [] (by kernel_rfl) (W.setup_mount_1_ok hr55) (by kernel_rfl) (.inl rfl) (by kernel_rfl) ?_
      refine evs_endS (by kernel_rfl) (fun τ hτ => ?_)
      refine th_normalS hτ ⟨[(0, (.sl (List.map cI s0))), (1, (.fn 87 [])), (5, (vI s39)), (7, (vI (s0.length : Int))), (8, (vI s39)), (16, (vB r55))], []⟩ (here (by kernel_rfl)) ?_
      refine sem_cond r55 (by kernel_rfl) (by kernel_rfl) (fun hb => ?_) (fun hb => ?_)
      · replace h := iteT hb h
        refine sem_seq (by kernel_rfl) ?_
        refine sem_region (by kernel_rfl) ?_
        refine evs_run 2 (by kernel_rfl) ?_
        refine evs_endS (by kernel_rfl) (fun τ hτ => ?_)
        refine th_normalS hτ ⟨[(4, (vI s39))], []⟩ (here (by kernel_rfl)) ?_
        refine sem_retS (by kernel_rfl) (fun τ hτ => ?_)
        refine bl_ret ?_
        refine th_ret ?_
        obtain rfl := Option.some.inj h
        exact lk_outS hτ rfl (here (by kernel_rfl))
      · replace h := iteF hb h
        refine sem_skipS (by kernel_rfl) (fun τ hτ => ?_)
        refine bl_normal ?_
        refine th_normalS hτ ⟨[(0, (.sl (List.map cI s0))), (1, (.fn 87 [])), (7, (vI (s0.length : Int))), (8, (vI s39))], []⟩ (here (by kernel_rfl)) ?_
        refine sem_region (by kernel_rfl) ?_
        refine evs_run 2 (by kernel_rfl) ?_
        refine evs_endS (by kernel_rfl) (fun τ hτ => ?_)
        obtain rfl := Option.some.inj h
        exact lk_nextS hτ (here (by kernel_rfl))
    · replace h := iteF hb h
      refine sem_exitS 0 (by kernel_rfl) rfl (fun τ hτ => ?_)
      refine th_exit ?_
      obtain rfl := Option.some.inj h
      exact lk_outS hτ rfl (here (by kernel_rfl))
  · intro x
    rcases x with _ | _ <;> rfl
  · intro τ hτ
    rcases x56 with j57 | j58
    · refine bl_ret ?_
      refine th_ret ?_
      obtain rfl := Option.some.inj h
      exact rk_ret hτ [(4, (vI j57))] (here (by kernel_rfl)) (by kernel_rfl)
    · refine bl_hit (by kernel_rfl) ?_
      refine th_normalS hτ ⟨[], []⟩ (here (by kernel_rfl)) ?_
      refine sem_seq (by kernel_rfl) ?_
      refine sem_region (by kernel_rfl) ?_
      refine evs_run 1 (by kernel_rfl) ?_
      refine evs_endS (by kernel_rfl) (fun τ hτ => ?_)
      refine th_normalS hτ ⟨[(4, (vI (-1)))], []⟩ (here (by kernel_rfl)) ?_
      refine sem_retS (by kernel_rfl) (fun τ hτ => ?_)
      obtain rfl := Option.some.inj h
      exact rk_ret hτ [(4, (vI (-1)))] (here (by kernel_rfl)) (by kernel_rfl)
theorem W.setup_mount_2_ok {x0 : Int} {a_0 : Int} {r : Bool} (h : setup_mount_2 x0 a_0 = some r) : PC G.P 88 [(vI x0), (.vptr [(vI a_0)] 0)] [] (vB r) [] := by
  refine pc_of G (fn := Try.f88) Try.func88 (by kernel_rfl) (by kernel_rfl) (by kernel_rfl) (by kernel_rfl) (by kernel_rfl) ?_
  refine sem_set ⟨[(0, (vI x0)), (1, (.vptr [(vI a_0)] 0))], []⟩ (by kernel_rfl) ?_
  refine sem_seq (by kernel_rfl) ?_
  refine sem_region (by kernel_rfl) ?_
  refine evs_run 1 (by kernel_rfl) ?_
  refine evs_endS (by kernel_rfl) (fun τ hτ => ?_)
  refine th_normalS hτ ⟨[(0, (vI x0)), (1, (.vptr [(vI a_0)] 0))], []⟩ (here (by kernel_rfl)) ?_
  refine sem_seq (by kernel_rfl) ?_
  refine sem_region (by kernel_rfl) ?_
  refine evs_run 2 (by kernel_rfl) ?_
  obtain ⟨hb, h⟩ := iteN h
  refine evs_op (st_shr (a := a_0) (b := x0) (kd := .i64) (k2 := .i64) (by kernel_rfl) (of_decide_eq_true hb)) ?_
  refine evs_run 3 (by kernel_rfl) ?_
  refine evs_endS (by kernel_rfl) (fun τ hτ => ?_)
  refine th_normalS hτ ⟨[(3, (vB ((kand .i64 (Int.fdiv a_0 (2 ^ (min (Int.toNat x0) 64))) 1) == 0)))], []⟩ (here (by kernel_rfl)) ?_
  refine sem_retS (by kernel_rfl) (fun τ hτ => ?_)
  obtain rfl := Option.some.inj h
  exact rk_ret hτ [(3, (vB ((kand .i64 (Int.fdiv a_0 (2 ^ (min (Int.toNat x0) 64))) 1) == 0)))] (here (by kernel_rfl)) (by kernel_rfl)
theorem W.slices_IndexFunc_Lint_int__setup_mount_2_ok {s0 : (List Int)} {f_0_0 : Int} {r : Int} (h : slices_IndexFunc_Lint_int__setup_mount_2 s0 f_0_0 = some r) : PC G.P 86 [(.sl (List.map cI s0)), (.fn 88 [(.vptr [(vI f_0_0)] 0)])] [] (vI r) [] := by
  refine pc_of G (fn := Try.f86) Try.func86 (by kernel_rfl) (by kernel_rfl) (by kernel_rfl) (by kernel_rfl) (by kernel_rfl) ?_
  refine sem_set ⟨[(0, (.sl (List.map cI s0))), (1, (.fn 88 [(.vptr [(vI f_0_0)] 0)]))], []⟩ (by kernel_rfl) ?_
  refine sem_seq (by kernel_rfl) ?_
  refine sem_region (by kernel_rfl) ?_
  refine evs_run 1 (by kernel_rfl) ?_
  refine evs_endS (by kernel_rfl) (fun τ hτ => ?_)
  refine th_normalS hτ ⟨[(0, (.sl (List.map cI s0))), (1, (.fn 88 [(.vptr [(vI f_0_0)] 0)]))], []⟩ (here (by kernel_rfl)) ?_
  refine sem_seq (by kernel_rfl) ?_
  refine sem_seq (by kernel_rfl) ?_
  refine sem_region (by kernel_rfl) ?_
  refine evs_run 1 (by kernel_rfl) ?_
  refine evs_op (st_len (c := cI) (l := s0) (x := (.sl (List.map cI s0))) (by kernel_rfl) (by kernel_rfl)) ?_
  refine evs_run 1 (by kernel_rfl) ?_
  refine evs_endS (by kernel_rfl) (fun τ hτ => ?_)
  refine th_normalS hτ ⟨[(0, (.sl (List.map cI s0))), (1, (.fn 88 [(.vptr [(vI f_0_0)] 0)])), (7, (vI (s0.length : Int))), (8, (vI 0))], []⟩ (here (by kernel_rfl)) ?_
  refine sem_block (by kernel_rfl) ?_
  obtain ⟨x56, hx56, h⟩ := bindS h
  refine sem_loopS (fun (s39 : Int) => ⟨[(0, (.sl (List.map cI s0))), (1, (.fn 88 [(.vptr [(vI f_0_0)] 0)])), (7, (vI (s0.length : Int))), (8, (vI s39))], []⟩) (fun (x56 : Int ⊕ Unit) => match x56 with | .inl j57 => (.ret, ⟨[(4, (vI j57))], []⟩) | .inr j58 => (.exit 0, ⟨[], []⟩)) (slices_IndexFunc_Lint_int__setup_mount_2_l1 s0 f_0_0) 0 x56 (by kernel_rfl) (here (by kernel_rfl)) hx56 ?_ ?_ ?_
  · intro s39 r h
    refine sem_seq (by kernel_rfl) ?_
    refine sem_region (by kernel_rfl) ?_
    refine evs_run 1 (by kernel_rfl) ?_
    refine evs_endS (by kernel_rfl) (fun τ hτ => ?_)
    refine th_normalS hτ ⟨[(0, (.sl (List.map cI s0))), (1, (.fn 88 [(.vptr [(vI f_0_0)] 0)])), (7, (vI (s0.length : Int))), (8, (vI s39)), (9, (vB (decide (s39 < (s0.length : Int)))))], []⟩ (here (by kernel_rfl)) ?_
    refine sem_seq (by kernel_rfl) ?_
    refine sem_cond (decide (s39 < (s0.length : Int))) (by kernel_rfl) (by kernel_rfl) (fun hb => ?_) (fun hb => ?_)
    · replace h := iteT hb h
      refine sem_skipS (by kernel_rfl) (fun τ hτ => ?_)
      refine th_normalS hτ ⟨[(0, (.sl (List.map cI s0))), (1, (.fn 88 [(.vptr [(vI f_0_0)] 0)])), (7, (vI (s0.length : Int))), (8, (vI s39))], []⟩ (here (by kernel_rfl)) ?_
      refine sem_seq (by kernel_rfl) ?_
      refine sem_block (by kernel_rfl) ?_
      refine sem_seq (by kernel_rfl) ?_
      refine sem_region (by kernel_rfl) ?_
      refine evs_run 2 (by kernel_rfl) ?_
      refine evs_endS (by kernel_rfl) (fun τ hτ => ?_)
      refine th_normalS hτ ⟨[(0, (.sl (List.map cI s0))), (1, (.fn 88 [(.vptr [(vI f_0_0)] 0)])), (5, (vI s39)), (7, (vI (s0.length : Int))), (8, (vI s39))], []⟩ (here (by kernel_rfl)) ?_
      refine sem_seq (by kernel_rfl) ?_
      refine sem_region (by kernel_rfl) ?_
      refine evs_run 3 (by kernel_rfl) ?_
      obtain ⟨x54, hx54, h⟩ := bindS h
      refine evs_op (st_idx (c := cI) (l := s0) (i := s39) (kd := .i64) (sz := 1) (by kernel_rfl) hx54 rfl) ?_
      refine evs_run 1 (by kernel_rfl) ?_
      obtain ⟨r55, hr55, h⟩ := bindS h
      refine evs_callP [] (by kernel_rfl) (W.setup_mount_2_ok hr55) (by kernel_rfl) (.inl rfl) (by kernel_rfl) ?_
      refine evs_endS (by kernel_rfl) (fun τ hτ => ?_)
      refine th_normalS hτ ⟨[(0, (.sl (List.map cI s0))), (1, (.fn 88 [(.vptr [(vI f_0_0)] 0)])), (5, (vI s39)), (7, (vI (s0.length : Int))), (8, (vI s39)), (16, (vB r55))], []⟩ (here (by kernel_rfl)) ?_
      refine sem_cond r55 (by kernel_rfl) (by kernel_rfl) (fun hb => ?_) (fun hb => ?_)
      · replace h := iteT hb h
        refine sem_seq (by kernel_rfl) ?_
        refine sem_region (by kernel_rfl) ?_
        refine evs_run 2 (by kernel_rfl) ?_
        refine evs_endS (by kernel_rfl) (fun τ hτ => ?_)
        refine th_normalS hτ ⟨[(4, (vI s39))], []⟩ (here (by kernel_rfl)) ?_
        refine sem_retS (by kernel_rfl) (fun τ hτ => ?_)
        refine bl_ret ?_
        refine th_ret ?_
        obtain rfl := Option.some.inj h
        exact lk_outS hτ rfl (here (by kernel_rfl))
      · replace h := iteF hb h
        refine sem_skipS (by kernel_rfl) (fun τ hτ => ?_)
        refine bl_normal ?_
        refine th_normalS hτ ⟨[(0, (.sl (List.map cI s0))), (1, (.fn 88 [(.vptr [(vI f_0_0)] 0)])), (7, (vI (s0.length : Int))), (8, (vI s39))], []⟩ (here (by kernel_rfl)) ?_
        refine sem_region (by kernel_rfl) ?_
        refine evs_run 2 (by kernel_rfl) ?_
        refine evs_endS (by kernel_rfl) (fun τ hτ => ?_)
        obtain rfl := Option.some.inj h
        exact lk_nextS hτ (here (by kernel_rfl))
    · replace h := iteF hb h
      refine sem_exitS 0 (by kernel_rfl) rfl (fun τ hτ => ?_)
      refine th_exit ?_
      obtain rfl := Option.some.inj h
      exact lk_outS hτ rfl (here (by kernel_rfl))
  · intro x
    rcases x with _ | _ <;> rfl
  · intro τ hτ
    rcases x56 with j57 | j58
    · refine bl_ret ?_
      refine th_ret ?_
      obtain rfl := Option.some.inj h
      exact rk_ret hτ [(4, (vI j57))] (here (by kernel_rfl)) (by kernel_rfl)
    · refine bl_hit (by kernel_rfl) ?_
      refine th_normalS hτ ⟨[], []⟩ (here (by kernel_rfl)) ?_
      refine sem_seq (by kernel_rfl) ?_
      refine sem_region (by kernel_rfl) ?_
      refine evs_run 1 (by kernel_rfl) ?_
      refine evs_endS (by kernel_rfl) (fun τ hτ => ?_)
      refine th_normalS hτ ⟨[(4, (vI (-1)))], []⟩ (here (by kernel_rfl)) ?_
      refine sem_retS (by kernel_rfl) (fun τ hτ => ?_)
      obtain rfl := Option.some.inj h
      exact rk_ret hτ [(4, (vI (-1)))] (here (by kernel_rfl)) (by kernel_rfl)
theorem W.setup_mount_ok {set1 : Int} {step : Int} {h0 : (List Int)} {r : (List Change) × (List Int)} (h : setup_mount set1 step h0 = some r) : PC G.P 75 [(.row (.top 1000000) 3), (vI set1), (vI step)] [(1000000, .row 3 [] (List.map cI h0))] (.row (.top 0) 95) [(0, .row 95 [] (List.map c_Change r.1)), (1000000, .row 3 [] (List.map cI r.2))] := by
  refine pc_of G (fn := Try.f75) Try.func75 (by kernel_rfl) (by kernel_rfl) (by kernel_rfl) (by kernel_rfl) (by kernel_rfl) ?_
  refine sem_set ⟨[(0, (.row (.top 1000000) 3)), (1, (vI set1)), (2, (vI step))], [(1000000, .row 3 [] (List.map cI h0))]⟩ (by kernel_rfl) ?_
  refine sem_seq (by kernel_rfl) ?_
  refine sem_region (by kernel_rfl) ?_
  refine evs_run 2 (by kernel_rfl) ?_
  refine evs_endS (by kernel_rfl) (fun τ hτ => ?_)
  refine th_normalS hτ ⟨[(0, (.row (.top 1000000) 3)), (2, (vI step)), (4, (.ptr 4 0))], [(4, .box [(vI set1)]), (1000000, .row 3 [] (List.map cI h0))]⟩ (here (by kernel_rfl)) ?_
  refine sem_seq (by kernel_rfl) ?_
  refine sem_region (by kernel_rfl) ?_
  refine evs_run 1 (by kernel_rfl) ?_
  refine evs_endS (by kernel_rfl) (fun τ hτ => ?_)
  refine th_normalS hτ ⟨[(0, (.row (.top 1000000) 3)), (2, (vI step)), (4, (.ptr 4 0)), (7, (.row (.top 7) 95))], [(4, .box [(vI set1)]), (7, .row 95 [] (List.map c_Change [])), (1000000, .row 3 [] (List.map cI h0))]⟩ (here (by kernel_rfl)) ?_
  refine sem_seq (by kernel_rfl) ?_
  refine sem_seq (by kernel_rfl) ?_
  refine sem_region (by kernel_rfl) ?_
  refine evs_run 1 (by kernel_rfl) ?_
  refine evs_endS (by kernel_rfl) (fun τ hτ => ?_)
  refine th_normalS hτ ⟨[(0, (.row (.top 1000000) 3)), (2, (vI step)), (4, (.ptr 4 0)), (7, (.row (.top 7) 95)), (10, (vI 0))], [(4, .box [(vI set1)]), (7, .row 95 [] (List.map c_Change [])), (1000000, .row 3 [] (List.map cI h0))]⟩ (here (by kernel_rfl)) ?_
  refine sem_block (by kernel_rfl) ?_
  obtain ⟨x216, hx216, h⟩ := bindS h
  refine sem_loopS (fun (s145 : Int × (List Change) × (List Int)) => ⟨[(0, (.row (.top 1000000) 3)), (2, (vI step)), (4, (.ptr 500000 0)), (7, (.row (.top 500001) 95)), (10, (vI s145.1))], [(500000, .box [(vI set1)]), (500001, .row 95 [] (List.map c_Change s145.2.1)), (1000000, .row 3 [] (List.map cI s145.2.2))]⟩) (fun (x216 : (List Change) × (List Int)) => (.exit 0, ⟨[(7, (.row (.top 500000) 95))], [(500000, .row 95 [] (List.map c_Change x216.1)), (1000000, .row 3 [] (List.map cI x216.2))]⟩)) (setup_mount_l3 set1 step) (0, [], h0) x216 (by kernel_rfl) (subR_prep [] [(4, 500000), (7, 500001), (1000000, 1000000)] (by kernel_rfl) rfl rfl (by kernel_rfl)) hx216 ?_ ?_ ?_
  · intro s145 r h
    refine sem_seq (by kernel_rfl) ?_
    refine sem_region (by kernel_rfl) ?_
    refine evs_run 1 (by kernel_rfl) ?_
    refine evs_endS (by kernel_rfl) (fun τ hτ => ?_)
    refine th_normalS hτ ⟨[(0, (.row (.top 1000000) 3)), (2, (vI step)), (4, (.ptr 500000 0)), (7, (.row (.top 500001) 95)), (10, (vI s145.1)), (11, (vB (decide (s145.1 < 9))))], [(500000, .box [(vI set1)]), (500001, .row 95 [] (List.map c_Change s145.2.1)), (1000000, .row 3 [] (List.map cI s145.2.2))]⟩ (here (by kernel_rfl)) ?_
    refine sem_seq (by kernel_rfl) ?_
    refine sem_cond (decide (s145.1 < 9)) (by kernel_rfl) (by kernel_rfl) (fun hb => ?_) (fun hb => ?_)
    · replace h := iteT hb h
      refine sem_skipS (by kernel_rfl) (fun τ hτ => ?_)
      refine th_normalS hτ ⟨[(0, (.row (.top 1000000) 3)), (2, (vI step)), (4, (.ptr 500000 0)), (7, (.row (.top 500001) 95)), (10, (vI s145.1))], [(500000, .box [(vI set1)]), (500001, .row 95 [] (List.map c_Change s145.2.1)), (1000000, .row 3 [] (List.map cI s145.2.2))]⟩ (here (by kernel_rfl)) ?_
      refine sem_seqJ (fun (j198 : (List Change) × (List Int)) => ⟨[(0, (.row (.top 1000000) 3)), (2, (vI step)), (4, (.ptr 500000 0)), (7, (.row (.top 500001) 95)), (10, (vI s145.1))], [(500000, .box [(vI set1)]), (500001, .row 95 [] (List.map c_Change j198.1)), (1000000, .row 3 [] (List.map cI j198.2))]⟩) (setup_mount_k1 s145) r (by kernel_rfl) (fun j198 h => ?_) ?_
      · refine sem_region (by kernel_rfl) ?_
        refine evs_run 2 (by kernel_rfl) ?_
        refine evs_endS (by kernel_rfl) (fun τ hτ => ?_)
        obtain rfl := Option.some.inj h
        exact lk_nextS hτ (here (by kernel_rfl))
      refine sem_block (by kernel_rfl) ?_
      refine sem_seq (by kernel_rfl) ?_
      refine sem_region (by kernel_rfl) ?_
      refine evs_run 2 (by kernel_rfl) ?_
      refine evs_endS (by kernel_rfl) (fun τ hτ => ?_)
      refine th_normalS hτ ⟨[(0, (.row (.top 1000000) 3)), (2, (vI step)), (4, (.ptr 500000 0)), (7, (.row (.top 500001) 95)), (8, (vI s145.1)), (10, (vI s145.1))], [(500000, .box [(vI set1)]), (500001, .row 95 [] (List.map c_Change s145.2.1)), (1000000, .row 3 [] (List.map cI s145.2.2))]⟩ (here (by kernel_rfl)) ?_
      refine sem_seq (by kernel_rfl) ?_
      refine sem_seq (by kernel_rfl) ?_
      obtain ⟨j203, hj203, h⟩ := bindS h
      refine sem_regionC ⟨[(0, (.row (.top 1000000) 3)), (2, (vI step)), (4, (.ptr 500000 0)), (7, (.row (.top 500001) 95)), (8, (vI s145.1)), (10, (vI s145.1)), (22, (vB j203))], [(500000, .box [(vI set1)]), (500001, .row 95 [] (List.map c_Change s145.2.1)), (1000000, .row 3 [] (List.map cI s145.2.2))]⟩ (by kernel_rfl) ?_ (fun τ hτ => ?_)
      · replace h := hj203
        refine evs_run 2 (by kernel_rfl) ?_
        obtain ⟨hb, h⟩ := iteN h
        refine evs_op (st_shr (a := set1) (b := s145.1) (kd := .i64) (k2 := .i64) (by kernel_rfl) (of_decide_eq_true hb)) ?_
        refine evs_run 3 (by kernel_rfl) ?_
        refine evs_split ((kand .i64 (Int.fdiv set1 (2 ^ (min (Int.toNat s145.1) 64))) 1) == 0) (fun b0 => ⟨[(0, (.row (.top 1000000) 3)), (2, (vI step)), (4, (.ptr 500000 0)), (7, (.row (.top 500001) 95)), (8, (vI s145.1)), (10, (vI s145.1)), (18, (vB b0))], [(500000, .box [(vI set1)]), (500001, .row 95 [] (List.map c_Change s145.2.1)), (1000000, .row 3 [] (List.map cI s145.2.2))]⟩) (by kernel_rfl) (fun hb => ?_) (fun hb => ?_)
        · replace h := iteT hb h
          refine evs_run 4 (by kernel_rfl) ?_
          refine evs_endS (by kernel_rfl) (fun τ hτ => ?_)
          obtain rfl := Option.some.inj h
          exact leafC hτ (here (by kernel_rfl))
        · replace h := iteF hb h
          refine evs_run 2 (by kernel_rfl) ?_
          obtain ⟨r204, hr204, h⟩ := bindS h
          refine evs_callP [1000000] (by kernel_rfl) (W.slices_Contains_Lint_int_ok hr204) (by kernel_rfl) (.inr rfl) (by kernel_rfl) ?_
          refine evs_run 1 (by kernel_rfl) ?_
          refine evs_endS (by kernel_rfl) (fun τ hτ => ?_)
          obtain rfl := Option.some.inj h
          exact leafC hτ (here (by kernel_rfl))
      refine th_normalS hτ ⟨[(0, (.row (.top 1000000) 3)), (2, (vI step)), (4, (.ptr 500000 0)), (7, (.row (.top 500001) 95)), (8, (vI s145.1)), (10, (vI s145.1)), (22, (vB j203))], [(500000, .box [(vI set1)]), (500001, .row 95 [] (List.map c_Change s145.2.1)), (1000000, .row 3 [] (List.map cI s145.2.2))]⟩ (here (by kernel_rfl)) ?_
      refine sem_cond j203 (by kernel_rfl) (by kernel_rfl) (fun hb => ?_) (fun hb => ?_)
      · replace h := iteT hb h
        refine sem_exitS 1 (by kernel_rfl) rfl (fun τ hτ => ?_)
        refine th_exit ?_
        refine bl_hit (by kernel_rfl) ?_
        exact jk_normal (s145.2.1, s145.2.2) h hτ (here (by kernel_rfl))
      · replace h := iteF hb h
        refine sem_skipS (by kernel_rfl) (fun τ hτ => ?_)
        refine th_normalS hτ ⟨[(0, (.row (.top 1000000) 3)), (2, (vI step)), (4, (.ptr 500000 0)), (7, (.row (.top 500001) 95)), (8, (vI s145.1)), (10, (vI s145.1))], [(500000, .box [(vI set1)]), (500001, .row 95 [] (List.map c_Change s145.2.1)), (1000000, .row 3 [] (List.map cI s145.2.2))]⟩ (here (by kernel_rfl)) ?_
        refine sem_seq (by kernel_rfl) ?_
        refine sem_region (by kernel_rfl) ?_
        refine evs_run 1 (by kernel_rfl) ?_
        obtain ⟨r206, hr206, h⟩ := bindS h
        refine evs_callP [1000000] (by kernel_rfl) (W.slices_IndexFunc_Lint_int__setup_mount_1_ok hr206) (by kernel_rfl) (.inr rfl) (by kernel_rfl) ?_
        refine evs_run 1 (by kernel_rfl) ?_
        refine evs_endS (by kernel_rfl) (fun τ hτ => ?_)
        refine th_normalS hτ ⟨[(0, (.row (.top 1000000) 3)), (2, (vI step)), (4, (.ptr 500000 0)), (7, (.row (.top 500001) 95)), (8, (vI s145.1)), (9, (vI r206)), (10, (vI s145.1))], [(500000, .box [(vI set1)]), (500001, .row 95 [] (List.map c_Change s145.2.1)), (1000000, .row 3 [] (List.map cI s145.2.2))]⟩ (here (by kernel_rfl)) ?_
        refine sem_seqJ (fun (j209 : Int) => ⟨[(0, (.row (.top 1000000) 3)), (2, (vI step)), (4, (.ptr 500000 0)), (7, (.row (.top 500001) 95)), (8, (vI s145.1)), (9, (vI j209)), (10, (vI s145.1))], [(500000, .box [(vI set1)]), (500001, .row 95 [] (List.map c_Change s145.2.1)), (1000000, .row 3 [] (List.map cI s145.2.2))]⟩) (setup_mount_k2 step s145) r (by kernel_rfl) (fun j209 h => ?_) ?_
        · refine sem_seq (by kernel_rfl) ?_
          refine sem_region (by kernel_rfl) ?_
          refine evs_run 3 (by kernel_rfl) ?_
          obtain ⟨x211, hx211, h⟩ := bindS h
          refine evs_op (st_idxO (c := cI) (l := s145.2.2) (i := j209) (kd := .i64) (kk := (.top 1000000)) (e := 3) (sz := 1) (by kernel_rfl) (by kernel_rfl) hx211 rfl) ?_
          refine evs_op (st_stO (c := cI) (l := s145.2.2) (i := (Int.toNat j209)) (x := x211) (x' := s145.1) (v := (vI s145.1)) (agg := false) (sz := 1) (kk := (.top 1000000)) (e := 3) (off := 0) (J := []) (o := .row 3 [] (List.map cI (List.set s145.2.2 (Int.toNat j209) s145.1))) (by kernel_rfl) (by kernel_rfl) (by kernel_rfl) ((idxS hx211).2) (by kernel_rfl) (by kernel_rfl) (by kernel_rfl)) ?_
          refine evs_endS (by kernel_rfl) (fun τ hτ => ?_)
          refine th_normalS hτ ⟨[(0, (.row (.top 1000000) 3)), (2, (vI step)), (4, (.ptr 500000 0)), (7, (.row (.top 500001) 95)), (8, (vI s145.1)), (9, (vI j209)), (10, (vI s145.1))], [(500000, .box [(vI set1)]), (500001, .row 95 [] (List.map c_Change s145.2.1)), (1000000, .row 3 [] (List.map cI (List.set s145.2.2 (Int.toNat j209) s145.1)))]⟩ (here (by kernel_rfl)) ?_
          refine sem_region (by kernel_rfl) ?_
          refine evs_run 6 (by kernel_rfl) ?_
          obtain ⟨l213, hl213, h⟩ := bindS h
          refine evs_op (st_app (c := c_Change) (l := s145.2.1) (l2 := [(Change.mk step j209 s145.1)]) (x := (.sl (List.map c_Change [(Change.mk step j209 s145.1)]))) (g := 500001) (e := 95) (sz := 3) (d := 40) (by kernel_rfl) (by kernel_rfl) (by kernel_rfl) (by kernel_rfl) (fun _ => rfl) rfl hl213) ?_
          refine evs_run 1 (by kernel_rfl) ?_
          refine evs_endS (by kernel_rfl) (fun τ hτ => ?_)
          refine bl_normal ?_
          exact jk_normal (l213, (List.set s145.2.2 (Int.toNat j209) s145.1)) h hτ (here (by kernel_rfl))
        refine sem_seq (by kernel_rfl) ?_
        refine sem_region (by kernel_rfl) ?_
        refine evs_run 2 (by kernel_rfl) ?_
        refine evs_endS (by kernel_rfl) (fun τ hτ => ?_)
        refine th_normalS hτ ⟨[(0, (.row (.top 1000000) 3)), (2, (vI step)), (4, (.ptr 500000 0)), (7, (.row (.top 500001) 95)), (8, (vI s145.1)), (9, (vI r206)), (10, (vI s145.1)), (26, (vB (decide (r206 < 0))))], [(500000, .box [(vI set1)]), (500001, .row 95 [] (List.map c_Change s145.2.1)), (1000000, .row 3 [] (List.map cI s145.2.2))]⟩ (here (by kernel_rfl)) ?_
        refine sem_cond (decide (r206 < 0)) (by kernel_rfl) (by kernel_rfl) (fun hb => ?_) (fun hb => ?_)
        · replace h := iteT hb h
          refine sem_region (by kernel_rfl) ?_
          refine evs_run 2 (by kernel_rfl) ?_
          obtain ⟨r215, hr215, h⟩ := bindS h
          refine evs_callP [1000000, 500000] (by kernel_rfl) (W.slices_IndexFunc_Lint_int__setup_mount_2_ok hr215) (by kernel_rfl) (.inr rfl) (by kernel_rfl) ?_
          refine evs_run 1 (by kernel_rfl) ?_
          refine evs_endS (by kernel_rfl) (fun τ hτ => ?_)
          exact jk_normal r215 h hτ (here (by kernel_rfl))
        · replace h := iteF hb h
          refine sem_skipS (by kernel_rfl) (fun τ hτ => ?_)
          exact jk_normal r206 h hτ (here (by kernel_rfl))
    · replace h := iteF hb h
      refine sem_exitS 0 (by kernel_rfl) rfl (fun τ hτ => ?_)
      refine th_exit ?_
      obtain rfl := Option.some.inj h
      exact lk_outS hτ rfl (subR_prep [] [(500001, 500000), (1000000, 1000000)] (by kernel_rfl) rfl rfl (by kernel_rfl))
  · intro x
    rfl
  · intro τ hτ
    refine bl_hit (by kernel_rfl) ?_
    refine th_normalS hτ ⟨[(7, (.row (.top 500000) 95))], [(500000, .row 95 [] (List.map c_Change x216.1)), (1000000, .row 3 [] (List.map cI x216.2))]⟩ (here (by kernel_rfl)) ?_
    refine sem_seq (by kernel_rfl) ?_
    refine sem_region (by kernel_rfl) ?_
    refine evs_run 2 (by kernel_rfl) ?_
    refine evs_endS (by kernel_rfl) (fun τ hτ => ?_)
    refine th_normalS hτ ⟨[(6, (.row (.top 500000) 95))], [(500000, .row 95 [] (List.map c_Change x216.1)), (1000000, .row 3 [] (List.map cI x216.2))]⟩ (here (by kernel_rfl)) ?_
    refine sem_retS (by kernel_rfl) (fun τ hτ => ?_)
    obtain rfl := Option.some.inj h
    exact rk_ret hτ [(6, (.row (.top 0) 95))] (subR_prep [] [(500000, 0), (1000000, 1000000)] (by kernel_rfl) rfl rfl (by kernel_rfl)) (by kernel_rfl)
theorem W.setup_Plan_ok {needs : (List (List Int))} {stations : Int} {r : (List Change) × Int} (h : setup_Plan needs stations = some r) : PC G.P 39 [(.sl (List.map (cS cI) needs)), (vI stations)] [] (.tup [(.row (.top 0) 95), (vI r.2)]) [(0, .row 95 [] (List.map c_Change r.1))] := by
  refine pc_of G (fn := Try.f39) Try.func39 (by kernel_rfl) (by kernel_rfl) (by kernel_rfl) (by kernel_rfl) (by kernel_rfl) ?_
  refine sem_set ⟨[(0, (.sl (List.map (cS cI) needs))), (1, (vI stations))], []⟩ (by kernel_rfl) ?_
  refine sem_seq (by kernel_rfl) ?_
  refine sem_region (by kernel_rfl) ?_
  refine evs_run 2 (by kernel_rfl) ?_
  refine evs_endS (by kernel_rfl) (fun τ hτ => ?_)
  refine th_normalS hτ ⟨[(0, (.sl (List.map (cS cI) needs))), (1, (vI stations))], []⟩ (here (by kernel_rfl)) ?_
  refine sem_seq (by kernel_rfl) ?_
  refine sem_seq (by kernel_rfl) ?_
  refine sem_region (by kernel_rfl) ?_
  refine evs_run 2 (by kernel_rfl) ?_
  obtain ⟨r4, hr4, h⟩ := bindS h
  refine evs_callP [] (by kernel_rfl) (W.setup_check_ok hr4) (by kernel_rfl) (.inl rfl) (by kernel_rfl) ?_
  refine evs_run 1 (by kernel_rfl) ?_
  refine evs_endS (by kernel_rfl) (fun τ hτ => ?_)
  refine th_normalS hτ ⟨[(0, (.sl (List.map (cS cI) needs))), (1, (vI stations)), (6, (vI r4))], []⟩ (here (by kernel_rfl)) ?_
  refine sem_seq (by kernel_rfl) ?_
  refine sem_region (by kernel_rfl) ?_
  refine evs_run 2 (by kernel_rfl) ?_
  refine evs_endS (by kernel_rfl) (fun τ hτ => ?_)
  refine th_normalS hτ ⟨[(0, (.sl (List.map (cS cI) needs))), (1, (vI stations)), (6, (vI r4)), (18, (vB (r4 != 0)))], []⟩ (here (by kernel_rfl)) ?_
  refine sem_cond (r4 != 0) (by kernel_rfl) (by kernel_rfl) (fun hb => ?_) (fun hb => ?_)
  · replace h := iteT hb h
    refine sem_seq (by kernel_rfl) ?_
    refine sem_region (by kernel_rfl) ?_
    refine evs_run 3 (by kernel_rfl) ?_
    refine evs_endS (by kernel_rfl) (fun τ hτ => ?_)
    refine th_normalS hτ ⟨[(4, (.row (.top 4) 95)), (5, (vI r4))], [(4, .row 95 [] (List.map c_Change []))]⟩ (here (by kernel_rfl)) ?_
    refine sem_retS (by kernel_rfl) (fun τ hτ => ?_)
    refine th_ret ?_
    obtain rfl := Option.some.inj h
    exact rk_ret hτ [(4, (.row (.top 0) 95)), (5, (vI r4))] (subR_prep [] [(4, 0)] (by kernel_rfl) rfl rfl (by kernel_rfl)) (by kernel_rfl)
  · replace h := iteF hb h
    refine sem_skipS (by kernel_rfl) (fun τ hτ => ?_)
    refine th_normalS hτ ⟨[(0, (.sl (List.map (cS cI) needs))), (1, (vI stations))], []⟩ (here (by kernel_rfl)) ?_
    refine sem_seq (by kernel_rfl) ?_
    refine sem_region (by kernel_rfl) ?_
    refine evs_run 2 (by kernel_rfl) ?_
    obtain ⟨r6, hr6, h⟩ := bindS h
    refine evs_callS [] [(0, 700100)] [] (by kernel_rfl) (W.setup_stages_ok hr6) (by kernel_rfl) (by kernel_rfl) (.inl rfl) ?_
    refine evs_run 1 (by kernel_rfl) ?_
    refine evs_endS (by kernel_rfl) (fun τ hτ => ?_)
    refine th_normalS hτ ⟨[(1, (vI stations)), (7, (.row (.top 700100) 84))], [(700100, .row 84 [] (List.map c_setup_stage r6))]⟩ (here (by kernel_rfl)) ?_
    refine sem_seq (by kernel_rfl) ?_
    refine sem_region (by kernel_rfl) ?_
    refine evs_run 1 (by kernel_rfl) ?_
    refine evs_op (st_len (c := c_setup_stage) (l := r6) (x := (.row (.top 700100) 84)) (by kernel_rfl) (by kernel_rfl)) ?_
    obtain ⟨l8, hl8, h⟩ := bindS h
    refine evs_op (st_mk (c := cI) (z := 0) (n := (r6.length : Int)) (e := 3) (d := 25) (zs := [(vI 0)]) (k1 := .i64) (k2 := .i64) (by kernel_rfl) rfl hl8) ?_
    refine evs_run 1 (by kernel_rfl) ?_
    refine evs_endS (by kernel_rfl) (fun τ hτ => ?_)
    refine th_normalS hτ ⟨[(1, (vI stations)), (7, (.row (.top 700100) 84)), (8, (.row (.top 25) 3))], [(25, .row 3 [] (List.map cI l8)), (700100, .row 84 [] (List.map c_setup_stage r6))]⟩ (here (by kernel_rfl)) ?_
    refine sem_seq (by kernel_rfl) ?_
    refine sem_seq (by kernel_rfl) ?_
    refine sem_region (by kernel_rfl) ?_
    refine evs_run 1 (by kernel_rfl) ?_
    refine evs_op (st_len (c := c_setup_stage) (l := r6) (x := (.row (.top 700100) 84)) (by kernel_rfl) (by kernel_rfl)) ?_
    refine evs_run 2 (by kernel_rfl) ?_
    refine evs_endS (by kernel_rfl) (fun τ hτ => ?_)
    refine th_normalS hτ ⟨[(1, (vI stations)), (7, (.row (.top 700100) 84)), (8, (.row (.top 25) 3)), (9, (vI (isub (r6.length : Int) 1)))], [(25, .row 3 [] (List.map cI l8)), (700100, .row 84 [] (List.map c_setup_stage r6))]⟩ (here (by kernel_rfl)) ?_
    refine sem_block (by kernel_rfl) ?_
    obtain ⟨x200, hx200, h⟩ := bindS h
    refine sem_loopS (fun (s137 : Int × (List Int)) => ⟨[(1, (vI stations)), (7, (.row (.top 500000) 84)), (8, (.row (.top 500001) 3)), (9, (vI s137.1))], [(500000, .row 84 [] (List.map c_setup_stage r6)), (500001, .row 3 [] (List.map cI s137.2))]⟩) (fun (x200 : (List Int)) => (.exit 0, ⟨[(1, (vI stations)), (8, (.row (.top 500000) 3))], [(500000, .row 3 [] (List.map cI x200))]⟩)) (setup_Plan_l2 r6) ((isub (r6.length : Int) 1), l8) x200 (by kernel_rfl) (subR_prep [] [(25, 500001), (700100, 500000)] (by kernel_rfl) rfl rfl (by kernel_rfl)) hx200 ?_ ?_ ?_
    · intro s137 r h
      refine sem_seq (by kernel_rfl) ?_
      refine sem_seq (by kernel_rfl) ?_
      refine sem_region (by kernel_rfl) ?_
      refine evs_run 2 (by kernel_rfl) ?_
      refine evs_endS (by kernel_rfl) (fun τ hτ => ?_)
      refine th_normalS hτ ⟨[(1, (vI stations)), (7, (.row (.top 500000) 84)), (8, (.row (.top 500001) 3)), (9, (vI s137.1)), (30, (vB (decide (s137.1 ≥ 0))))], [(500000, .row 84 [] (List.map c_setup_stage r6)), (500001, .row 3 [] (List.map cI s137.2))]⟩ (here (by kernel_rfl)) ?_
      refine sem_cond (decide (s137.1 ≥ 0)) (by kernel_rfl) (by kernel_rfl) (fun hb => ?_) (fun hb => ?_)
      · replace h := iteT hb h
        refine sem_skipS (by kernel_rfl) (fun τ hτ => ?_)
        refine th_normalS hτ ⟨[(1, (vI stations)), (7, (.row (.top 500000) 84)), (8, (.row (.top 500001) 3)), (9, (vI s137.1))], [(500000, .row 84 [] (List.map c_setup_stage r6)), (500001, .row 3 [] (List.map cI s137.2))]⟩ (here (by kernel_rfl)) ?_
        refine sem_seqJ (fun (j184 : (List Int)) => ⟨[(1, (vI stations)), (7, (.row (.top 500000) 84)), (8, (.row (.top 500001) 3)), (9, (vI s137.1))], [(500000, .row 84 [] (List.map c_setup_stage r6)), (500001, .row 3 [] (List.map cI j184))]⟩) (setup_Plan_k1 s137) r (by kernel_rfl) (fun j184 h => ?_) ?_
        · refine sem_region (by kernel_rfl) ?_
          refine evs_run 3 (by kernel_rfl) ?_
          refine evs_endS (by kernel_rfl) (fun τ hτ => ?_)
          obtain rfl := Option.some.inj h
          exact lk_nextS hτ (here (by kernel_rfl))
        refine sem_block (by kernel_rfl) ?_
        refine sem_seq (by kernel_rfl) ?_
        refine sem_region (by kernel_rfl) ?_
        refine evs_run 2 (by kernel_rfl) ?_
        refine evs_op (st_len (c := c_setup_stage) (l := r6) (x := (.row (.top 500000) 84)) (by kernel_rfl) (by kernel_rfl)) ?_
        refine evs_run 2 (by kernel_rfl) ?_
        refine evs_endS (by kernel_rfl) (fun τ hτ => ?_)
        refine th_normalS hτ ⟨[(1, (vI stations)), (7, (.row (.top 500000) 84)), (8, (.row (.top 500001) 3)), (9, (vI s137.1)), (37, (vB (s137.1 == (isub (r6.length : Int) 1))))], [(500000, .row 84 [] (List.map c_setup_stage r6)), (500001, .row 3 [] (List.map cI s137.2))]⟩ (here (by kernel_rfl)) ?_
        refine sem_cond (s137.1 == (isub (r6.length : Int) 1)) (by kernel_rfl) (by kernel_rfl) (fun hb => ?_) (fun hb => ?_)
        · replace h := iteT hb h
          refine sem_region (by kernel_rfl) ?_
          refine evs_run 4 (by kernel_rfl) ?_
          obtain ⟨x188, hx188, h⟩ := bindS h
          refine evs_op (st_idxO (c := c_setup_stage) (l := r6) (i := s137.1) (kd := .i64) (kk := (.top 500000)) (e := 84) (sz := 2) (by kernel_rfl) (by kernel_rfl) hx188 rfl) ?_
          refine evs_op (st_ldO (c := c_setup_stage) (l := r6) (i := (Int.toNat s137.1)) (v := (.agg [(.fmap x188.changes), (.fmap x188.before)])) (agg := true) (sz := 2) (kk := (.top 500000)) (e := 84) (off := 0) (J := []) (by kernel_rfl) (by kernel_rfl) (by kernel_rfl) ((idxS hx188).2) (by kernel_rfl)) ?_
          obtain ⟨r189, hr189, h⟩ := bindS h
          refine evs_callP [] (by kernel_rfl) (W.setup_stage_best_ok hr189) (by kernel_rfl) (.inl rfl) (by kernel_rfl) ?_
          obtain ⟨x190, hx190, h⟩ := bindS h
          refine evs_op (st_idxO (c := cI) (l := s137.2) (i := s137.1) (kd := .i64) (kk := (.top 500001)) (e := 3) (sz := 1) (by kernel_rfl) (by kernel_rfl) hx190 rfl) ?_
          refine evs_op (st_stO (c := cI) (l := s137.2) (i := (Int.toNat s137.1)) (x := x190) (x' := r189) (v := (vI r189)) (agg := false) (sz := 1) (kk := (.top 500001)) (e := 3) (off := 0) (J := []) (o := .row 3 [] (List.map cI (List.set s137.2 (Int.toNat s137.1) r189))) (by kernel_rfl) (by kernel_rfl) (by kernel_rfl) ((idxS hx190).2) (by kernel_rfl) (by kernel_rfl) (by kernel_rfl)) ?_
          refine evs_endS (by kernel_rfl) (fun τ hτ => ?_)
          refine bl_normal ?_
          exact jk_normal (List.set s137.2 (Int.toNat s137.1) r189) h hτ (here (by kernel_rfl))
        · replace h := iteF hb h
          refine sem_drawN [] [] [] [] [] 14 (by kernel_rfl) (by kernel_rfl) (by kernel_rfl) ?_
          refine evd_run 5 (by kernel_rfl) ?_
          obtain ⟨x197, hx197, h⟩ := bindS h
          refine evd_val (by kernel_rfl) (st_idxO (c := c_setup_stage) (l := r6) (i := (iadd s137.1 1)) (kd := .i64) (kk := (.top 500000)) (e := 84) (sz := 2) (by kernel_rfl) (by kernel_rfl) hx197 rfl) (by kernel_rfl) (by kernel_rfl) ?_
          refine evd_run 1 (by kernel_rfl) ?_
          refine evd_val (by kernel_rfl) (st_ldO (c := c_setup_stage) (l := r6) (i := (Int.toNat (iadd s137.1 1))) (v := (.fmap x197.before)) (agg := false) (sz := 1) (kk := (.top 500000)) (e := 84) (off := 1) (J := []) (by kernel_rfl) (by kernel_rfl) (by kernel_rfl) ((idxS hx197).2) (by kernel_rfl)) (by kernel_rfl) (by kernel_rfl) ?_
          refine evd_run 3 (by kernel_rfl) ?_
          obtain ⟨x198, hx198, h⟩ := bindS h
          refine evd_val (by kernel_rfl) (st_idxO (c := cI) (l := s137.2) (i := (iadd s137.1 1)) (kd := .i64) (kk := (.top 500001)) (e := 3) (sz := 1) (by kernel_rfl) (by kernel_rfl) hx198 rfl) (by kernel_rfl) (by kernel_rfl) ?_
          refine evd_val (by kernel_rfl) (st_ldO (c := cI) (l := s137.2) (i := (Int.toNat (iadd s137.1 1))) (v := (vI x198)) (agg := false) (sz := 1) (kk := (.top 500001)) (e := 3) (off := 0) (J := []) (by kernel_rfl) (by kernel_rfl) (by kernel_rfl) ((idxS hx198).2) (by kernel_rfl)) (by kernel_rfl) (by kernel_rfl) ?_
          refine evd_run 1 (by kernel_rfl) ?_
          refine evd_end (by kernel_rfl) ?_
          obtain ⟨x199, hx199, h⟩ := bindS h
          refine evo_op (st_idxO (c := cI) (l := s137.2) (i := s137.1) (kd := .i64) (kk := (.top 500001)) (e := 3) (sz := 1) (by kernel_rfl) (by kernel_rfl) hx199 rfl) ?_
          refine evo_op (st_stO (c := cI) (l := s137.2) (i := (Int.toNat s137.1)) (x := x199) (x' := ((mfind x197.before x198).getD 0)) (v := (vI ((mfind x197.before x198).getD 0))) (agg := false) (sz := 1) (kk := (.top 500001)) (e := 3) (off := 0) (J := []) (o := .row 3 [] (List.map cI (List.set s137.2 (Int.toNat s137.1) ((mfind x197.before x198).getD 0)))) (by kernel_rfl) (by kernel_rfl) (by kernel_rfl) ((idxS hx199).2) (by kernel_rfl) (by kernel_rfl) (by kernel_rfl)) ?_
          refine evo_endS (by kernel_rfl) (fun τ hτ => ?_)
          refine bl_normal ?_
          exact jk_normal (List.set s137.2 (Int.toNat s137.1) ((mfind x197.before x198).getD 0)) h hτ (here (by kernel_rfl))
      · replace h := iteF hb h
        refine sem_exitS 0 (by kernel_rfl) rfl (fun τ hτ => ?_)
        refine th_exit ?_
        obtain rfl := Option.some.inj h
        exact lk_outS hτ rfl (subR_prep [] [(500001, 500000)] (by kernel_rfl) rfl rfl (by kernel_rfl))
    · intro x
      rfl
    · intro τ hτ
      refine bl_hit (by kernel_rfl) ?_
      refine th_normalS hτ ⟨[(1, (vI stations)), (8, (.row (.top 500000) 3))], [(500000, .row 3 [] (List.map cI x200))]⟩ (here (by kernel_rfl)) ?_
      refine sem_seq (by kernel_rfl) ?_
      refine sem_region (by kernel_rfl) ?_
      refine evs_run 2 (by kernel_rfl) ?_
      obtain ⟨r202, hr202, h⟩ := bindS h
      refine evs_callS [] [(0, 700100)] [] (by kernel_rfl) (W.slices_Repeat_Lint_int_ok hr202) (by kernel_rfl) (by kernel_rfl) (.inl rfl) ?_
      refine evs_run 1 (by kernel_rfl) ?_
      refine evs_endS (by kernel_rfl) (fun τ hτ => ?_)
      refine th_normalS hτ ⟨[(8, (.row (.top 500000) 3)), (10, (.row (.top 700100) 3))], [(500000, .row 3 [] (List.map cI x200)), (700100, .row 3 [] (List.map cI r202))]⟩ (here (by kernel_rfl)) ?_
      refine sem_seq (by kernel_rfl) ?_
      refine sem_region (by kernel_rfl) ?_
      refine evs_run 1 (by kernel_rfl) ?_
      refine evs_endS (by kernel_rfl) (fun τ hτ => ?_)
      refine th_normalS hτ ⟨[(8, (.row (.top 500000) 3)), (10, (.row (.top 700100) 3)), (11, (.row (.top 11) 95))], [(11, .row 95 [] (List.map c_Change [])), (500000, .row 3 [] (List.map cI x200)), (700100, .row 3 [] (List.map cI r202))]⟩ (here (by kernel_rfl)) ?_
      refine sem_seq (by kernel_rfl) ?_
      refine sem_seq (by kernel_rfl) ?_
      refine sem_region (by kernel_rfl) ?_
      refine evs_run 1 (by kernel_rfl) ?_
      refine evs_op (st_len (c := cI) (l := x200) (x := (.row (.top 500000) 3)) (by kernel_rfl) (by kernel_rfl)) ?_
      refine evs_run 1 (by kernel_rfl) ?_
      refine evs_endS (by kernel_rfl) (fun τ hτ => ?_)
      refine th_normalS hτ ⟨[(10, (.row (.top 700100) 3)), (11, (.row (.top 11) 95)), (64, (.row (.top 500000) 3)), (65, (vI (x200.length : Int))), (66, (vI 0))], [(11, .row 95 [] (List.map c_Change [])), (500000, .row 3 [] (List.map cI x200)), (700100, .row 3 [] (List.map cI r202))]⟩ (here (by kernel_rfl)) ?_
      refine sem_block (by kernel_rfl) ?_
      obtain ⟨x280, hx280, h⟩ := bindS h
      refine sem_loopS (fun (s255 : Int × (List Int) × (List Change)) => ⟨[(10, (.row (.top 500000) 3)), (11, (.row (.top 500001) 95)), (64, (.row (.top 500002) 3)), (65, (vI (x200.length : Int))), (66, (vI s255.1))], [(500000, .row 3 [] (List.map cI s255.2.1)), (500001, .row 95 [] (List.map c_Change s255.2.2)), (500002, .row 3 [] (List.map cI x200))]⟩) (fun (x280 : (List Change)) => (.exit 2, ⟨[(11, (.row (.top 500000) 95))], [(500000, .row 95 [] (List.map c_Change x280))]⟩)) (setup_Plan_l3 x200) (0, r202, []) x280 (by kernel_rfl) (subR_prep [] [(11, 500001), (500000, 500002), (700100, 500000)] (by kernel_rfl) rfl rfl (by kernel_rfl)) hx280 ?_ ?_ ?_
      · intro s255 r h
        refine sem_seq (by kernel_rfl) ?_
        refine sem_region (by kernel_rfl) ?_
        refine evs_run 1 (by kernel_rfl) ?_
        refine evs_endS (by kernel_rfl) (fun τ hτ => ?_)
        refine th_normalS hτ ⟨[(10, (.row (.top 500000) 3)), (11, (.row (.top 500001) 95)), (64, (.row (.top 500002) 3)), (65, (vI (x200.length : Int))), (66, (vI s255.1)), (67, (vB (decide (s255.1 < (x200.length : Int)))))], [(500000, .row 3 [] (List.map cI s255.2.1)), (500001, .row 95 [] (List.map c_Change s255.2.2)), (500002, .row 3 [] (List.map cI x200))]⟩ (here (by kernel_rfl)) ?_
        refine sem_seq (by kernel_rfl) ?_
        refine sem_cond (decide (s255.1 < (x200.length : Int))) (by kernel_rfl) (by kernel_rfl) (fun hb => ?_) (fun hb => ?_)
        · replace h := iteT hb h
          refine sem_skipS (by kernel_rfl) (fun τ hτ => ?_)
          refine th_normalS hτ ⟨[(10, (.row (.top 500000) 3)), (11, (.row (.top 500001) 95)), (64, (.row (.top 500002) 3)), (65, (vI (x200.length : Int))), (66, (vI s255.1))], [(500000, .row 3 [] (List.map cI s255.2.1)), (500001, .row 95 [] (List.map c_Change s255.2.2)), (500002, .row 3 [] (List.map cI x200))]⟩ (here (by kernel_rfl)) ?_
          refine sem_seq (by kernel_rfl) ?_
          refine sem_block (by kernel_rfl) ?_
          refine sem_seq (by kernel_rfl) ?_
          refine sem_region (by kernel_rfl) ?_
          refine evs_run 1 (by kernel_rfl) ?_
          obtain ⟨x275, hx275, h⟩ := bindS h
          refine evs_op (st_idxO (c := cI) (l := x200) (i := s255.1) (kd := .i64) (kk := (.top 500002)) (e := 3) (sz := 1) (by kernel_rfl) (by kernel_rfl) hx275 rfl) ?_
          refine evs_op (st_ldO (c := cI) (l := x200) (i := (Int.toNat s255.1)) (v := (vI x275)) (agg := false) (sz := 1) (kk := (.top 500002)) (e := 3) (off := 0) (J := []) (by kernel_rfl) (by kernel_rfl) (by kernel_rfl) ((idxS hx275).2) (by kernel_rfl)) ?_
          refine evs_run 2 (by kernel_rfl) ?_
          refine evs_endS (by kernel_rfl) (fun τ hτ => ?_)
          refine th_normalS hτ ⟨[(10, (.row (.top 500000) 3)), (11, (.row (.top 500001) 95)), (12, (vI s255.1)), (13, (vI x275)), (64, (.row (.top 500002) 3)), (65, (vI (x200.length : Int))), (66, (vI s255.1))], [(500000, .row 3 [] (List.map cI s255.2.1)), (500001, .row 95 [] (List.map c_Change s255.2.2)), (500002, .row 3 [] (List.map cI x200))]⟩ (here (by kernel_rfl)) ?_
          refine sem_region (by kernel_rfl) ?_
          refine evs_run 4 (by kernel_rfl) ?_
          obtain ⟨r278, hr278, h⟩ := bindS h
          refine evs_callS [(1000000, 500000)] [(0, 700200)] [] (by kernel_rfl) (W.setup_mount_ok hr278) (by kernel_rfl) (by kernel_rfl) (.inl rfl) ?_
          obtain ⟨l279, hl279, h⟩ := bindS h
          refine evs_op (st_app (c := c_Change) (l := s255.2.2) (l2 := r278.1) (x := (.row (.top 700200) 95)) (g := 500001) (e := 95) (sz := 3) (d := 76) (by kernel_rfl) (by kernel_rfl) (by kernel_rfl) (by kernel_rfl) (fun _ => rfl) rfl hl279) ?_
          refine evs_run 1 (by kernel_rfl) ?_
          refine evs_endS (by kernel_rfl) (fun τ hτ => ?_)
          refine bl_normal ?_
          refine th_normalS hτ ⟨[(10, (.row (.top 500000) 3)), (11, (.row (.top 500001) 95)), (64, (.row (.top 500002) 3)), (65, (vI (x200.length : Int))), (66, (vI s255.1))], [(500000, .row 3 [] (List.map cI r278.2)), (500001, .row 95 [] (List.map c_Change l279)), (500002, .row 3 [] (List.map cI x200))]⟩ (here (by kernel_rfl)) ?_
          refine sem_region (by kernel_rfl) ?_
          refine evs_run 2 (by kernel_rfl) ?_
          refine evs_endS (by kernel_rfl) (fun τ hτ => ?_)
          obtain rfl := Option.some.inj h
          exact lk_nextS hτ (here (by kernel_rfl))
        · replace h := iteF hb h
          refine sem_exitS 2 (by kernel_rfl) rfl (fun τ hτ => ?_)
          refine th_exit ?_
          obtain rfl := Option.some.inj h
          exact lk_outS hτ rfl (subR_prep [] [(500001, 500000)] (by kernel_rfl) rfl rfl (by kernel_rfl))
      · intro x
        rfl
      · intro τ hτ
        refine bl_hit (by kernel_rfl) ?_
        refine th_normalS hτ ⟨[(11, (.row (.top 500000) 95))], [(500000, .row 95 [] (List.map c_Change x280))]⟩ (here (by kernel_rfl)) ?_
        refine sem_seq (by kernel_rfl) ?_
        refine sem_region (by kernel_rfl) ?_
        refine evs_run 3 (by kernel_rfl) ?_
        refine evs_endS (by kernel_rfl) (fun τ hτ => ?_)
        refine th_normalS hτ ⟨[(4, (.row (.top 500000) 95)), (5, (vI 0))], [(500000, .row 95 [] (List.map c_Change x280))]⟩ (here (by kernel_rfl)) ?_
        refine sem_retS (by kernel_rfl) (fun τ hτ => ?_)
        obtain rfl := Option.some.inj h
        exact rk_ret hτ [(4, (.row (.top 0) 95)), (5, (vI 0))] (subR_prep [] [(500000, 0)] (by kernel_rfl) rfl rfl (by kernel_rfl)) (by kernel_rfl)
end Go.Proofs.Ytppmnjiibmomoaa
