/- Each Go function does what its model says; written by a program out of the translation. -/
import Derived.Test.YtppmnjiibmomoaaWQ1
import Derived.Test.YtppmnjiibmomoaaSeMQ
set_option linter.unusedVariables false
set_option linter.unusedSimpArgs false
set_option linter.unusedSectionVars false
namespace Go.Proofs.Ytppmnjiibmomoaa
open Go Go.VI Go.SM Go.Proofs
set_option maxRecDepth 100000
set_option maxHeartbeats 4000000
theorem W.sheetmetalref05_Fewest_ok {needs : (List (List Int))} {stations : Int} {r : Int} (h : sheetmetalref05_Fewest needs stations = some r) : PC G.P 67 [(.sl (List.map (cS cI) needs)), (vI stations)] [] (vI r) [] := by
  refine pc_of G (fn := Try.f67) Try.func67 (by kernel_rfl) (by kernel_rfl) (by kernel_rfl) (by kernel_rfl) (by kernel_rfl) ?_
  refine sem_set ⟨[(0, (.sl (List.map (cS cI) needs))), (1, (vI stations))], []⟩ (by kernel_rfl) ?_
  refine sem_seq (by kernel_rfl) ?_
  refine sem_region (by kernel_rfl) ?_
  refine evs_run 1 (by kernel_rfl) ?_
  refine evs_endS (by kernel_rfl) (fun τ hτ => ?_)
  refine th_normalS hτ ⟨[(0, (.sl (List.map (cS cI) needs))), (1, (vI stations))], []⟩ (here (by kernel_rfl)) ?_
  refine sem_seq (by kernel_rfl) ?_
  refine sem_region (by kernel_rfl) ?_
  refine evs_op (r := .new 5 (.box (List.map vI (List.replicate 512 0))) (.ptr 5 0)) (by kernel_rfl) ?_
  refine evs_endS (by kernel_rfl) (fun τ hτ => ?_)
  refine th_normalS hτ ⟨[(0, (.sl (List.map (cS cI) needs))), (1, (vI stations)), (5, (.ptr 5 0))], [(5, .box (List.map vI (List.replicate 512 0)))]⟩ (here (by kernel_rfl)) ?_
  refine sem_seq (by kernel_rfl) ?_
  refine sem_seq (by kernel_rfl) ?_
  refine sem_region (by kernel_rfl) ?_
  refine evs_run 1 (by kernel_rfl) ?_
  refine evs_endS (by kernel_rfl) (fun τ hτ => ?_)
  refine th_normalS hτ ⟨[(0, (.sl (List.map (cS cI) needs))), (1, (vI stations)), (5, (.ptr 5 0)), (6, (vI 0))], [(5, .box (List.map vI (List.replicate 512 0)))]⟩ (here (by kernel_rfl)) ?_
  refine sem_block (by kernel_rfl) ?_
  obtain ⟨x30, hx30, h⟩ := bindS h
  refine sem_loopS (fun (s21 : Int × (List Int)) => ⟨[(0, (.sl (List.map (cS cI) needs))), (1, (vI stations)), (5, (.ptr 500000 0)), (6, (vI s21.1))], [(500000, .box (List.map vI s21.2))]⟩) (fun (x30 : (List Int)) => (.exit 0, ⟨[(0, (.sl (List.map (cS cI) needs))), (1, (vI stations)), (5, (.ptr 500000 0))], [(500000, .box (List.map vI x30))]⟩)) (sheetmetalref05_Fewest_l1) (0, (List.replicate 512 0)) x30 (by kernel_rfl) (subR_prepX [(5, (List.replicate 512 0))] [] [(5, 500000)] (by kernel_rfl) rfl rfl ⟨(by kernel_rfl), trivial⟩ (by kernel_rfl)) hx30 ?_ ?_ ?_
  · intro s21 r h
    refine sem_seq (by kernel_rfl) ?_
    refine sem_seq (by kernel_rfl) ?_
    refine sem_region (by kernel_rfl) ?_
    refine evs_run 2 (by kernel_rfl) ?_
    refine evs_endS (by kernel_rfl) (fun τ hτ => ?_)
    refine th_normalS hτ ⟨[(0, (.sl (List.map (cS cI) needs))), (1, (vI stations)), (5, (.ptr 500000 0)), (6, (vI s21.1)), (15, (vB (decide (s21.1 < 512))))], [(500000, .box (List.map vI s21.2))]⟩ (here (by kernel_rfl)) ?_
    refine sem_cond (decide (s21.1 < 512)) (by kernel_rfl) (by kernel_rfl) (fun hb => ?_) (fun hb => ?_)
    · replace h := iteT hb h
      refine sem_skipS (by kernel_rfl) (fun τ hτ => ?_)
      refine th_normalS hτ ⟨[(0, (.sl (List.map (cS cI) needs))), (1, (vI stations)), (5, (.ptr 500000 0)), (6, (vI s21.1))], [(500000, .box (List.map vI s21.2))]⟩ (here (by kernel_rfl)) ?_
      refine sem_seq (by kernel_rfl) ?_
      refine sem_block (by kernel_rfl) ?_
      refine sem_region (by kernel_rfl) ?_
      refine evs_run 1 (by kernel_rfl) ?_
      obtain ⟨hb1, h⟩ := iteN h
      refine evs_op (st_paxB (i := s21.1) (n := 512) (sz := 1) (kd := .i64) (p := (.ptr 500000 0)) (q := (.ptr 500000 (0 + (Int.toNat s21.1) * 1))) (by kernel_rfl) hb1 rfl) ?_
      obtain ⟨x29, hx29, h⟩ := bindS h
      refine evs_op (st_ast (l := s21.2) (g := 500000) (i := s21.1) (y := 1000) (by kernel_rfl) (by kernel_rfl) hx29) ?_
      refine evs_endS (by kernel_rfl) (fun τ hτ => ?_)
      refine bl_normal ?_
      refine th_normalS hτ ⟨[(0, (.sl (List.map (cS cI) needs))), (1, (vI stations)), (5, (.ptr 500000 0)), (6, (vI s21.1))], [(500000, .box (List.map vI (List.set s21.2 (Int.toNat s21.1) 1000)))]⟩ (here (by kernel_rfl)) ?_
      refine sem_region (by kernel_rfl) ?_
      refine evs_run 3 (by kernel_rfl) ?_
      refine evs_endS (by kernel_rfl) (fun τ hτ => ?_)
      obtain rfl := Option.some.inj h
      exact lk_nextS hτ (here (by kernel_rfl))
    · replace h := iteF hb h
      refine sem_exitS 0 (by kernel_rfl) rfl (fun τ hτ => ?_)
      refine th_exit ?_
      obtain rfl := Option.some.inj h
      exact lk_outS hτ rfl (here (by kernel_rfl))
  · intro x
    rfl
  · intro τ hτ
    refine bl_hit (by kernel_rfl) ?_
    refine th_normalS hτ ⟨[(0, (.sl (List.map (cS cI) needs))), (1, (vI stations)), (5, (.ptr 500000 0))], [(500000, .box (List.map vI x30))]⟩ (here (by kernel_rfl)) ?_
    refine sem_seq (by kernel_rfl) ?_
    refine sem_region (by kernel_rfl) ?_
    refine evs_run 1 (by kernel_rfl) ?_
    obtain ⟨x32, hx32, h⟩ := bindS h
    refine evs_op (st_ast (l := x30) (g := 500000) (i := 0) (y := 0) (by kernel_rfl) (by kernel_rfl) hx32) ?_
    refine evs_endS (by kernel_rfl) (fun τ hτ => ?_)
    refine th_normalS hτ ⟨[(0, (.sl (List.map (cS cI) needs))), (1, (vI stations)), (5, (.ptr 500000 0))], [(500000, .box (List.map vI (List.set x30 (Int.toNat 0) 0)))]⟩ (here (by kernel_rfl)) ?_
    refine sem_seq (by kernel_rfl) ?_
    refine sem_seq (by kernel_rfl) ?_
    refine sem_region (by kernel_rfl) ?_
    refine evs_run 1 (by kernel_rfl) ?_
    refine evs_endS (by kernel_rfl) (fun τ hτ => ?_)
    refine th_normalS hτ ⟨[(0, (.sl (List.map (cS cI) needs))), (1, (vI stations)), (5, (.ptr 500000 0)), (7, (vI 0))], [(500000, .box (List.map vI (List.set x30 (Int.toNat 0) 0)))]⟩ (here (by kernel_rfl)) ?_
    refine sem_block (by kernel_rfl) ?_
    obtain ⟨x21254, hx21254, h⟩ := bindS h
    refine sem_loopS (fun (s14181 : Int × (List Int)) => ⟨[(0, (.sl (List.map (cS cI) needs))), (1, (vI stations)), (5, (.ptr 500000 0)), (7, (vI s14181.1))], [(500000, .box (List.map vI s14181.2))]⟩) (fun (x21254 : (List Int)) => (.exit 2, ⟨[(5, (.ptr 500000 0))], [(500000, .box (List.map vI x21254))]⟩)) (sheetmetalref05_Fewest_l6 needs stations) (0, (List.set x30 (Int.toNat 0) 0)) x21254 (by kernel_rfl) (here (by kernel_rfl)) hx21254 ?_ ?_ ?_
    · intro s14181 r h
      refine sem_seq (by kernel_rfl) ?_
      refine sem_seq (by kernel_rfl) ?_
      refine sem_region (by kernel_rfl) ?_
      refine evs_run 2 (by kernel_rfl) ?_
      refine evs_op (st_len (c := (cS cI)) (l := needs) (x := (.sl (List.map (cS cI) needs))) (by kernel_rfl) (by kernel_rfl)) ?_
      refine evs_run 1 (by kernel_rfl) ?_
      refine evs_endS (by kernel_rfl) (fun τ hτ => ?_)
      refine th_normalS hτ ⟨[(0, (.sl (List.map (cS cI) needs))), (1, (vI stations)), (5, (.ptr 500000 0)), (7, (vI s14181.1)), (24, (vB (decide (s14181.1 < (needs.length : Int)))))], [(500000, .box (List.map vI s14181.2))]⟩ (here (by kernel_rfl)) ?_
      refine sem_cond (decide (s14181.1 < (needs.length : Int))) (by kernel_rfl) (by kernel_rfl) (fun hb => ?_) (fun hb => ?_)
      · replace h := iteT hb h
        refine sem_skipS (by kernel_rfl) (fun τ hτ => ?_)
        refine th_normalS hτ ⟨[(0, (.sl (List.map (cS cI) needs))), (1, (vI stations)), (5, (.ptr 500000 0)), (7, (vI s14181.1))], [(500000, .box (List.map vI s14181.2))]⟩ (here (by kernel_rfl)) ?_
        refine sem_seq (by kernel_rfl) ?_
        refine sem_block (by kernel_rfl) ?_
        refine sem_seq (by kernel_rfl) ?_
        refine sem_region (by kernel_rfl) ?_
        refine evs_run 2 (by kernel_rfl) ?_
        obtain ⟨x19488, hx19488, h⟩ := bindS h
        refine evs_op (st_idx (c := (cS cI)) (l := needs) (i := s14181.1) (kd := .i64) (sz := 1) (by kernel_rfl) hx19488 rfl) ?_
        refine evs_run 1 (by kernel_rfl) ?_
        obtain ⟨r19489, hr19489, h⟩ := bindS h
        refine evs_callP [] (by kernel_rfl) (W.sheetmetalref05_bits_ok hr19489) (by kernel_rfl) (.inl rfl) (by kernel_rfl) ?_
        refine evs_run 1 (by kernel_rfl) ?_
        refine evs_endS (by kernel_rfl) (fun τ hτ => ?_)
        refine th_normalS hτ ⟨[(0, (.sl (List.map (cS cI) needs))), (1, (vI stations)), (5, (.ptr 500000 0)), (7, (vI s14181.1)), (8, (vI r19489))], [(500000, .box (List.map vI s14181.2))]⟩ (here (by kernel_rfl)) ?_
        refine sem_seq (by kernel_rfl) ?_
        refine sem_region (by kernel_rfl) ?_
        refine evs_new1 (d := 9) (ob := .box (List.map vI (List.replicate 512 0))) (v := .ptr 9 0) (g := 500000) (l := s14181.2) (by kernel_rfl) (by kernel_rfl) ?_
        refine evs_endS (by kernel_rfl) (fun τ hτ => ?_)
        refine th_normalS hτ ⟨[(0, (.sl (List.map (cS cI) needs))), (1, (vI stations)), (5, (.ptr 500000 0)), (7, (vI s14181.1)), (8, (vI r19489)), (9, (.ptr 9 0))], [(9, .box (List.map vI (List.replicate 512 0))), (500000, .box (List.map vI s14181.2))]⟩ (here (by kernel_rfl)) ?_
        refine sem_seq (by kernel_rfl) ?_
        refine sem_seq (by kernel_rfl) ?_
        refine sem_region (by kernel_rfl) ?_
        refine evs_run 1 (by kernel_rfl) ?_
        refine evs_endS (by kernel_rfl) (fun τ hτ => ?_)
        refine th_normalS hτ ⟨[(0, (.sl (List.map (cS cI) needs))), (1, (vI stations)), (5, (.ptr 500000 0)), (7, (vI s14181.1)), (8, (vI r19489)), (9, (.ptr 9 0)), (10, (vI 0))], [(9, .box (List.map vI (List.replicate 512 0))), (500000, .box (List.map vI s14181.2))]⟩ (here (by kernel_rfl)) ?_
        refine sem_block (by kernel_rfl) ?_
        obtain ⟨x21253, hx21253, h⟩ := bindS h
        refine sem_loopS (fun (s20666 : Int × (List Int)) => ⟨[(0, (.sl (List.map (cS cI) needs))), (1, (vI stations)), (5, (.ptr 500000 0)), (7, (vI s14181.1)), (8, (vI r19489)), (9, (.ptr 500001 0)), (10, (vI s20666.1))], [(500000, .box (List.map vI s14181.2)), (500001, .box (List.map vI s20666.2))]⟩) (fun (x21253 : (List Int)) => (.exit 4, ⟨[(0, (.sl (List.map (cS cI) needs))), (1, (vI stations)), (5, (.ptr 500000 0)), (7, (vI s14181.1)), (9, (.ptr 500001 0))], [(500000, .box (List.map vI s14181.2)), (500001, .box (List.map vI x21253))]⟩)) (sheetmetalref05_Fewest_l5 stations s14181 r19489) (0, (List.replicate 512 0)) x21253 (by kernel_rfl) (subR_prepX [(9, (List.replicate 512 0)), (500000, s14181.2)] [] [(9, 500001), (500000, 500000)] (by kernel_rfl) rfl rfl ⟨(by kernel_rfl), (by kernel_rfl), trivial⟩ (by kernel_rfl)) hx21253 ?_ ?_ ?_
        · intro s20666 r h
          refine sem_seq (by kernel_rfl) ?_
          refine sem_seq (by kernel_rfl) ?_
          refine sem_region (by kernel_rfl) ?_
          refine evs_run 2 (by kernel_rfl) ?_
          refine evs_endS (by kernel_rfl) (fun τ hτ => ?_)
          refine th_normalS hτ ⟨[(0, (.sl (List.map (cS cI) needs))), (1, (vI stations)), (5, (.ptr 500000 0)), (7, (vI s14181.1)), (8, (vI r19489)), (9, (.ptr 500001 0)), (10, (vI s20666.1)), (33, (vB (decide (s20666.1 < 512))))], [(500000, .box (List.map vI s14181.2)), (500001, .box (List.map vI s20666.2))]⟩ (here (by kernel_rfl)) ?_
          refine sem_cond (decide (s20666.1 < 512)) (by kernel_rfl) (by kernel_rfl) (fun hb => ?_) (fun hb => ?_)
          · replace h := iteT hb h
            refine sem_skipS (by kernel_rfl) (fun τ hτ => ?_)
            refine th_normalS hτ ⟨[(0, (.sl (List.map (cS cI) needs))), (1, (vI stations)), (5, (.ptr 500000 0)), (7, (vI s14181.1)), (8, (vI r19489)), (9, (.ptr 500001 0)), (10, (vI s20666.1))], [(500000, .box (List.map vI s14181.2)), (500001, .box (List.map vI s20666.2))]⟩ (here (by kernel_rfl)) ?_
            refine sem_seqJ (fun (j21106 : (List Int)) => ⟨[(0, (.sl (List.map (cS cI) needs))), (1, (vI stations)), (5, (.ptr 500000 0)), (7, (vI s14181.1)), (8, (vI r19489)), (9, (.ptr 500001 0)), (10, (vI s20666.1))], [(500000, .box (List.map vI s14181.2)), (500001, .box (List.map vI j21106))]⟩) (sheetmetalref05_Fewest_k2 s20666) r (by kernel_rfl) (fun j21106 h => ?_) ?_
            · refine sem_region (by kernel_rfl) ?_
              refine evs_run 3 (by kernel_rfl) ?_
              refine evs_endS (by kernel_rfl) (fun τ hτ => ?_)
              obtain rfl := Option.some.inj h
              exact lk_nextS hτ (here (by kernel_rfl))
            refine sem_block (by kernel_rfl) ?_
            refine sem_seq (by kernel_rfl) ?_
            refine sem_region (by kernel_rfl) ?_
            refine evs_run 1 (by kernel_rfl) ?_
            obtain ⟨hb1, h⟩ := iteN h
            refine evs_op (st_paxB (i := s20666.1) (n := 512) (sz := 1) (kd := .i64) (p := (.ptr 500001 0)) (q := (.ptr 500001 (0 + (Int.toNat s20666.1) * 1))) (by kernel_rfl) hb1 rfl) ?_
            obtain ⟨x21108, hx21108, h⟩ := bindS h
            refine evs_op (st_ast (l := s20666.2) (g := 500001) (i := s20666.1) (y := 1000) (by kernel_rfl) (by kernel_rfl) hx21108) ?_
            refine evs_endS (by kernel_rfl) (fun τ hτ => ?_)
            refine th_normalS hτ ⟨[(0, (.sl (List.map (cS cI) needs))), (1, (vI stations)), (5, (.ptr 500000 0)), (7, (vI s14181.1)), (8, (vI r19489)), (9, (.ptr 500001 0)), (10, (vI s20666.1))], [(500000, .box (List.map vI s14181.2)), (500001, .box (List.map vI (List.set s20666.2 (Int.toNat s20666.1) 1000)))]⟩ (here (by kernel_rfl)) ?_
            refine sem_seq (by kernel_rfl) ?_
            refine sem_seq (by kernel_rfl) ?_
            obtain ⟨j21113, hj21113, h⟩ := bindS h
            refine sem_regionC ⟨[(0, (.sl (List.map (cS cI) needs))), (1, (vI stations)), (5, (.ptr 500000 0)), (7, (vI s14181.1)), (8, (vI r19489)), (9, (.ptr 500001 0)), (10, (vI s20666.1)), (47, (vB j21113))], [(500000, .box (List.map vI s14181.2)), (500001, .box (List.map vI (List.set s20666.2 (Int.toNat s20666.1) 1000)))]⟩ (by kernel_rfl) ?_ (fun τ hτ => ?_)
            · replace h := hj21113
              refine evs_run 1 (by kernel_rfl) ?_
              obtain ⟨r21114, hr21114, h⟩ := bindS h
              refine evs_callP [] (by kernel_rfl) (W.sheetmetalref05_count_ok hr21114) (by kernel_rfl) (.inl rfl) (by kernel_rfl) ?_
              refine evs_run 3 (by kernel_rfl) ?_
              refine evs_split (decide (r21114 > stations)) (fun b0 => ⟨[(0, (.sl (List.map (cS cI) needs))), (1, (vI stations)), (5, (.ptr 500000 0)), (7, (vI s14181.1)), (8, (vI r19489)), (9, (.ptr 500001 0)), (10, (vI s20666.1)), (42, (vB b0))], [(500000, .box (List.map vI s14181.2)), (500001, .box (List.map vI (List.set s20666.2 (Int.toNat s20666.1) 1000)))]⟩) (by kernel_rfl) (fun hb => ?_) (fun hb => ?_)
              · replace h := iteT hb h
                refine evs_run 5 (by kernel_rfl) ?_
                refine evs_endS (by kernel_rfl) (fun τ hτ => ?_)
                obtain rfl := Option.some.inj h
                exact leafC hτ (here (by kernel_rfl))
              · replace h := iteF hb h
                refine evs_run 5 (by kernel_rfl) ?_
                refine evs_endS (by kernel_rfl) (fun τ hτ => ?_)
                obtain rfl := Option.some.inj h
                exact leafC hτ (here (by kernel_rfl))
            refine th_normalS hτ ⟨[(0, (.sl (List.map (cS cI) needs))), (1, (vI stations)), (5, (.ptr 500000 0)), (7, (vI s14181.1)), (8, (vI r19489)), (9, (.ptr 500001 0)), (10, (vI s20666.1)), (47, (vB j21113))], [(500000, .box (List.map vI s14181.2)), (500001, .box (List.map vI (List.set s20666.2 (Int.toNat s20666.1) 1000)))]⟩ (here (by kernel_rfl)) ?_
            refine sem_cond j21113 (by kernel_rfl) (by kernel_rfl) (fun hb => ?_) (fun hb => ?_)
            · replace h := iteT hb h
              refine sem_exitS 5 (by kernel_rfl) rfl (fun τ hτ => ?_)
              refine th_exit ?_
              refine bl_hit (by kernel_rfl) ?_
              exact jk_normal (List.set s20666.2 (Int.toNat s20666.1) 1000) h hτ (here (by kernel_rfl))
            · replace h := iteF hb h
              refine sem_skipS (by kernel_rfl) (fun τ hτ => ?_)
              refine th_normalS hτ ⟨[(0, (.sl (List.map (cS cI) needs))), (1, (vI stations)), (5, (.ptr 500000 0)), (7, (vI s14181.1)), (8, (vI r19489)), (9, (.ptr 500001 0)), (10, (vI s20666.1))], [(500000, .box (List.map vI s14181.2)), (500001, .box (List.map vI (List.set s20666.2 (Int.toNat s20666.1) 1000)))]⟩ (here (by kernel_rfl)) ?_
              refine sem_seq (by kernel_rfl) ?_
              refine sem_region (by kernel_rfl) ?_
              refine evs_run 1 (by kernel_rfl) ?_
              refine evs_endS (by kernel_rfl) (fun τ hτ => ?_)
              refine th_normalS hτ ⟨[(0, (.sl (List.map (cS cI) needs))), (1, (vI stations)), (5, (.ptr 500000 0)), (7, (vI s14181.1)), (8, (vI r19489)), (9, (.ptr 500001 0)), (10, (vI s20666.1)), (11, (vI 0))], [(500000, .box (List.map vI s14181.2)), (500001, .box (List.map vI (List.set s20666.2 (Int.toNat s20666.1) 1000)))]⟩ (here (by kernel_rfl)) ?_
              refine sem_block (by kernel_rfl) ?_
              obtain ⟨x21252, hx21252, h⟩ := bindS h
              refine sem_loopS (fun (s21161 : Int × (List Int)) => ⟨[(0, (.sl (List.map (cS cI) needs))), (1, (vI stations)), (5, (.ptr 500000 0)), (7, (vI s14181.1)), (8, (vI r19489)), (9, (.ptr 500001 0)), (10, (vI s20666.1)), (11, (vI s21161.1))], [(500000, .box (List.map vI s14181.2)), (500001, .box (List.map vI s21161.2))]⟩) (fun (x21252 : (List Int)) => (.exit 6, ⟨[(0, (.sl (List.map (cS cI) needs))), (1, (vI stations)), (5, (.ptr 500000 0)), (7, (vI s14181.1)), (8, (vI r19489)), (9, (.ptr 500001 0)), (10, (vI s20666.1))], [(500000, .box (List.map vI s14181.2)), (500001, .box (List.map vI x21252))]⟩)) (sheetmetalref05_Fewest_l4 s14181 s20666) (0, (List.set s20666.2 (Int.toNat s20666.1) 1000)) x21252 (by kernel_rfl) (here (by kernel_rfl)) hx21252 ?_ ?_ ?_
              · intro s21161 r h
                refine sem_seq (by kernel_rfl) ?_
                refine sem_seq (by kernel_rfl) ?_
                refine sem_region (by kernel_rfl) ?_
                refine evs_run 2 (by kernel_rfl) ?_
                refine evs_endS (by kernel_rfl) (fun τ hτ => ?_)
                refine th_normalS hτ ⟨[(0, (.sl (List.map (cS cI) needs))), (1, (vI stations)), (5, (.ptr 500000 0)), (7, (vI s14181.1)), (8, (vI r19489)), (9, (.ptr 500001 0)), (10, (vI s20666.1)), (11, (vI s21161.1)), (49, (vB (decide (s21161.1 < 512))))], [(500000, .box (List.map vI s14181.2)), (500001, .box (List.map vI s21161.2))]⟩ (here (by kernel_rfl)) ?_
                refine sem_cond (decide (s21161.1 < 512)) (by kernel_rfl) (by kernel_rfl) (fun hb => ?_) (fun hb => ?_)
                · replace h := iteT hb h
                  refine sem_skipS (by kernel_rfl) (fun τ hτ => ?_)
                  refine th_normalS hτ ⟨[(0, (.sl (List.map (cS cI) needs))), (1, (vI stations)), (5, (.ptr 500000 0)), (7, (vI s14181.1)), (8, (vI r19489)), (9, (.ptr 500001 0)), (10, (vI s20666.1)), (11, (vI s21161.1))], [(500000, .box (List.map vI s14181.2)), (500001, .box (List.map vI s21161.2))]⟩ (here (by kernel_rfl)) ?_
                  refine sem_seqJ (fun (j21229 : (List Int)) => ⟨[(0, (.sl (List.map (cS cI) needs))), (1, (vI stations)), (5, (.ptr 500000 0)), (7, (vI s14181.1)), (8, (vI r19489)), (9, (.ptr 500001 0)), (10, (vI s20666.1)), (11, (vI s21161.1))], [(500000, .box (List.map vI s14181.2)), (500001, .box (List.map vI j21229))]⟩) (sheetmetalref05_Fewest_k3 s21161) r (by kernel_rfl) (fun j21229 h => ?_) ?_
                  · refine sem_region (by kernel_rfl) ?_
                    refine evs_run 3 (by kernel_rfl) ?_
                    refine evs_endS (by kernel_rfl) (fun τ hτ => ?_)
                    obtain rfl := Option.some.inj h
                    exact lk_nextS hτ (here (by kernel_rfl))
                  refine sem_block (by kernel_rfl) ?_
                  refine sem_seq (by kernel_rfl) ?_
                  obtain ⟨j21238, hj21238, h⟩ := bindS h
                  refine sem_drawP ⟨[(0, (.sl (List.map (cS cI) needs))), (1, (vI stations)), (5, (.ptr 500000 0)), (7, (vI s14181.1)), (8, (vI r19489)), (9, (.ptr 500001 0)), (10, (vI s20666.1)), (11, (vI s21161.1)), (69, (vB j21238))], [(500000, .box (List.map vI s14181.2)), (500001, .box (List.map vI s21161.2))]⟩ [] [] [] [] [] 16 (by kernel_rfl) (by kernel_rfl) (by kernel_rfl) ?_ (fun τ hτ => ?_)
                  · replace h := hj21238
                    refine evd_run 1 (by kernel_rfl) ?_
                    obtain ⟨hb1, h⟩ := iteN h
                    refine evd_val (by kernel_rfl) (st_paxB (i := s21161.1) (n := 512) (sz := 1) (kd := .i64) (p := (.ptr 500000 0)) (q := (.ptr 500000 (0 + (Int.toNat s21161.1) * 1))) (by kernel_rfl) hb1 rfl) (by kernel_rfl) (by kernel_rfl) ?_
                    obtain ⟨x21239, hx21239, h⟩ := bindS h
                    refine evd_val (by kernel_rfl) (st_ald (l := s14181.2) (g := 500000) (i := s21161.1) (by kernel_rfl) (by kernel_rfl) hx21239) (by kernel_rfl) (by kernel_rfl) ?_
                    refine evd_run 2 (by kernel_rfl) ?_
                    refine evd_split (decide (x21239 < 1000)) (fun b0 => ⟨[(56, (vB b0)), (55, (vB b0)), (54, (vI x21239)), (53, (.ptr 500000 (0 + (Int.toNat s21161.1) * 1))), (52, (vI s21161.1)), (0, (.sl (List.map (cS cI) needs))), (1, (vI stations)), (5, (.ptr 500000 0)), (7, (vI s14181.1)), (8, (vI r19489)), (9, (.ptr 500001 0)), (10, (vI s20666.1)), (11, (vI s21161.1))], [(500000, .box (List.map vI s14181.2)), (500001, .box (List.map vI s21161.2))]⟩) (by kernel_rfl) (fun hb => ?_) (fun hb => ?_)
                    · replace h := iteT hb h
                      refine evd_run 1 (by kernel_rfl) ?_
                      obtain ⟨hb6, h⟩ := iteN h
                      refine evd_val (by kernel_rfl) (st_paxB (i := s21161.1) (n := 512) (sz := 1) (kd := .i64) (p := (.ptr 500000 0)) (q := (.ptr 500000 (0 + (Int.toNat s21161.1) * 1))) (by kernel_rfl) hb6 rfl) (by kernel_rfl) (by kernel_rfl) ?_
                      obtain ⟨x21240, hx21240, h⟩ := bindS h
                      refine evd_val (by kernel_rfl) (st_ald (l := s14181.2) (g := 500000) (i := s21161.1) (by kernel_rfl) (by kernel_rfl) hx21240) (by kernel_rfl) (by kernel_rfl) ?_
                      refine evd_run 3 (by kernel_rfl) ?_
                      obtain ⟨r21241, hr21241, h⟩ := bindS h
                      refine evd_callS [] [] (by kernel_rfl) (by kernel_rfl) (W.sheetmetalref05_count_ok hr21241) (by kernel_rfl) (.inl rfl) (by kernel_rfl) (by kernel_rfl) ?_
                      refine evd_run 2 (by kernel_rfl) ?_
                      obtain ⟨hb14, h⟩ := iteN h
                      refine evd_val (by kernel_rfl) (st_paxB (i := s20666.1) (n := 512) (sz := 1) (kd := .i64) (p := (.ptr 500001 0)) (q := (.ptr 500001 (0 + (Int.toNat s20666.1) * 1))) (by kernel_rfl) hb14 rfl) (by kernel_rfl) (by kernel_rfl) ?_
                      obtain ⟨x21242, hx21242, h⟩ := bindS h
                      refine evd_val (by kernel_rfl) (st_ald (l := s21161.2) (g := 500001) (i := s20666.1) (by kernel_rfl) (by kernel_rfl) hx21242) (by kernel_rfl) (by kernel_rfl) ?_
                      refine evd_end (by kernel_rfl) ?_
                      refine evo_run 2 (by kernel_rfl) ?_
                      refine evo_endS (by kernel_rfl) (fun τ hτ => ?_)
                      obtain rfl := Option.some.inj h
                      exact leafC hτ (here (by kernel_rfl))
                    · replace h := iteF hb h
                      refine evd_run 11 (by kernel_rfl) ?_
                      refine evd_end (by kernel_rfl) ?_
                      refine evo_run 2 (by kernel_rfl) ?_
                      refine evo_endS (by kernel_rfl) (fun τ hτ => ?_)
                      obtain rfl := Option.some.inj h
                      exact leafC hτ (here (by kernel_rfl))
                  refine th_normalS hτ ⟨[(0, (.sl (List.map (cS cI) needs))), (1, (vI stations)), (5, (.ptr 500000 0)), (7, (vI s14181.1)), (8, (vI r19489)), (9, (.ptr 500001 0)), (10, (vI s20666.1)), (11, (vI s21161.1)), (69, (vB j21238))], [(500000, .box (List.map vI s14181.2)), (500001, .box (List.map vI s21161.2))]⟩ (here (by kernel_rfl)) ?_
                  refine sem_cond j21238 (by kernel_rfl) (by kernel_rfl) (fun hb => ?_) (fun hb => ?_)
                  · replace h := iteT hb h
                    refine sem_drawN [] [] [] [] [] 9 (by kernel_rfl) (by kernel_rfl) (by kernel_rfl) ?_
                    refine evd_run 2 (by kernel_rfl) ?_
                    obtain ⟨hb2, h⟩ := iteN h
                    refine evd_val (by kernel_rfl) (st_paxB (i := s21161.1) (n := 512) (sz := 1) (kd := .i64) (p := (.ptr 500000 0)) (q := (.ptr 500000 (0 + (Int.toNat s21161.1) * 1))) (by kernel_rfl) hb2 rfl) (by kernel_rfl) (by kernel_rfl) ?_
                    obtain ⟨x21249, hx21249, h⟩ := bindS h
                    refine evd_val (by kernel_rfl) (st_ald (l := s14181.2) (g := 500000) (i := s21161.1) (by kernel_rfl) (by kernel_rfl) hx21249) (by kernel_rfl) (by kernel_rfl) ?_
                    refine evd_run 3 (by kernel_rfl) ?_
                    obtain ⟨r21250, hr21250, h⟩ := bindS h
                    refine evd_callS [] [] (by kernel_rfl) (by kernel_rfl) (W.sheetmetalref05_count_ok hr21250) (by kernel_rfl) (.inl rfl) (by kernel_rfl) (by kernel_rfl) ?_
                    refine evd_run 1 (by kernel_rfl) ?_
                    refine evd_end (by kernel_rfl) ?_
                    obtain ⟨hb9, h⟩ := iteN h
                    refine evo_op (st_paxB (i := s20666.1) (n := 512) (sz := 1) (kd := .i64) (p := (.ptr 500001 0)) (q := (.ptr 500001 (0 + (Int.toNat s20666.1) * 1))) (by kernel_rfl) hb9 rfl) ?_
                    obtain ⟨x21251, hx21251, h⟩ := bindS h
                    refine evo_op (st_ast (l := s21161.2) (g := 500001) (i := s20666.1) (y := (iadd x21249 r21250)) (by kernel_rfl) (by kernel_rfl) hx21251) ?_
                    refine evo_endS (by kernel_rfl) (fun τ hτ => ?_)
                    refine bl_normal ?_
                    exact jk_normal (List.set s21161.2 (Int.toNat s20666.1) (iadd x21249 r21250)) h hτ (here (by kernel_rfl))
                  · replace h := iteF hb h
                    refine sem_skipS (by kernel_rfl) (fun τ hτ => ?_)
                    refine bl_normal ?_
                    exact jk_normal s21161.2 h hτ (here (by kernel_rfl))
                · replace h := iteF hb h
                  refine sem_exitS 6 (by kernel_rfl) rfl (fun τ hτ => ?_)
                  refine th_exit ?_
                  obtain rfl := Option.some.inj h
                  exact lk_outS hτ rfl (here (by kernel_rfl))
              · intro x
                rfl
              · intro τ hτ
                refine bl_hit (by kernel_rfl) ?_
                refine bl_normal ?_
                exact jk_normal x21252 h hτ (here (by kernel_rfl))
          · replace h := iteF hb h
            refine sem_exitS 4 (by kernel_rfl) rfl (fun τ hτ => ?_)
            refine th_exit ?_
            obtain rfl := Option.some.inj h
            exact lk_outS hτ rfl (here (by kernel_rfl))
        · intro x
          rfl
        · intro τ hτ
          refine bl_hit (by kernel_rfl) ?_
          refine th_normalS hτ ⟨[(0, (.sl (List.map (cS cI) needs))), (1, (vI stations)), (5, (.ptr 500000 0)), (7, (vI s14181.1)), (9, (.ptr 500001 0))], [(500000, .box (List.map vI s14181.2)), (500001, .box (List.map vI x21253))]⟩ (here (by kernel_rfl)) ?_
          refine sem_region (by kernel_rfl) ?_
          obtain ⟨hb0, h⟩ := iteN h
          refine evs_op (st_aldW (l := x21253) (g := 500001) (n := 512) (by kernel_rfl) (by kernel_rfl) hb0) ?_
          obtain ⟨hb1, h⟩ := iteN h
          refine evs_op (st_astW (l := s14181.2) (l2 := x21253) (g := 500000) (n := 512) (by kernel_rfl) (by kernel_rfl) hb1) ?_
          refine evs_endS (by kernel_rfl) (fun τ hτ => ?_)
          refine bl_normal ?_
          refine th_normalS hτ ⟨[(0, (.sl (List.map (cS cI) needs))), (1, (vI stations)), (5, (.ptr 500000 0)), (7, (vI s14181.1))], [(500000, .box (List.map vI x21253))]⟩ (here (by kernel_rfl)) ?_
          refine sem_region (by kernel_rfl) ?_
          refine evs_run 3 (by kernel_rfl) ?_
          refine evs_endS (by kernel_rfl) (fun τ hτ => ?_)
          obtain rfl := Option.some.inj h
          exact lk_nextS hτ (here (by kernel_rfl))
      · replace h := iteF hb h
        refine sem_exitS 2 (by kernel_rfl) rfl (fun τ hτ => ?_)
        refine th_exit ?_
        obtain rfl := Option.some.inj h
        exact lk_outS hτ rfl (here (by kernel_rfl))
    · intro x
      rfl
    · intro τ hτ
      refine bl_hit (by kernel_rfl) ?_
      refine th_normalS hτ ⟨[(5, (.ptr 500000 0))], [(500000, .box (List.map vI x21254))]⟩ (here (by kernel_rfl)) ?_
      refine sem_seq (by kernel_rfl) ?_
      refine sem_region (by kernel_rfl) ?_
      refine evs_run 1 (by kernel_rfl) ?_
      refine evs_endS (by kernel_rfl) (fun τ hτ => ?_)
      refine th_normalS hτ ⟨[(5, (.ptr 500000 0)), (12, (vI 1000))], [(500000, .box (List.map vI x21254))]⟩ (here (by kernel_rfl)) ?_
      refine sem_seq (by kernel_rfl) ?_
      refine sem_seq (by kernel_rfl) ?_
      refine sem_region (by kernel_rfl) ?_
      refine evs_run 1 (by kernel_rfl) ?_
      refine evs_endS (by kernel_rfl) (fun τ hτ => ?_)
      refine th_normalS hτ ⟨[(5, (.ptr 500000 0)), (12, (vI 1000)), (13, (vI 0))], [(500000, .box (List.map vI x21254))]⟩ (here (by kernel_rfl)) ?_
      refine sem_block (by kernel_rfl) ?_
      obtain ⟨x21314, hx21314, h⟩ := bindS h
      refine sem_loopS (fun (s21295 : Int × Int) => ⟨[(5, (.ptr 500000 0)), (12, (vI s21295.1)), (13, (vI s21295.2))], [(500000, .box (List.map vI x21254))]⟩) (fun (x21314 : Int) => (.exit 8, ⟨[(12, (vI x21314))], []⟩)) (sheetmetalref05_Fewest_l8 x21254) (1000, 0) x21314 (by kernel_rfl) (here (by kernel_rfl)) hx21314 ?_ ?_ ?_
      · intro s21295 r h
        refine sem_seq (by kernel_rfl) ?_
        refine sem_seq (by kernel_rfl) ?_
        refine sem_region (by kernel_rfl) ?_
        refine evs_run 2 (by kernel_rfl) ?_
        refine evs_endS (by kernel_rfl) (fun τ hτ => ?_)
        refine th_normalS hτ ⟨[(5, (.ptr 500000 0)), (12, (vI s21295.1)), (13, (vI s21295.2)), (82, (vB (decide (s21295.2 < 512))))], [(500000, .box (List.map vI x21254))]⟩ (here (by kernel_rfl)) ?_
        refine sem_cond (decide (s21295.2 < 512)) (by kernel_rfl) (by kernel_rfl) (fun hb => ?_) (fun hb => ?_)
        · replace h := iteT hb h
          refine sem_skipS (by kernel_rfl) (fun τ hτ => ?_)
          refine th_normalS hτ ⟨[(5, (.ptr 500000 0)), (12, (vI s21295.1)), (13, (vI s21295.2))], [(500000, .box (List.map vI x21254))]⟩ (here (by kernel_rfl)) ?_
          refine sem_seqJ (fun (j21309 : Int) => ⟨[(5, (.ptr 500000 0)), (12, (vI j21309)), (13, (vI s21295.2))], [(500000, .box (List.map vI x21254))]⟩) (sheetmetalref05_Fewest_k7 s21295) r (by kernel_rfl) (fun j21309 h => ?_) ?_
          · refine sem_region (by kernel_rfl) ?_
            refine evs_run 3 (by kernel_rfl) ?_
            refine evs_endS (by kernel_rfl) (fun τ hτ => ?_)
            obtain rfl := Option.some.inj h
            exact lk_nextS hτ (here (by kernel_rfl))
          refine sem_block (by kernel_rfl) ?_
          refine sem_seq (by kernel_rfl) ?_
          refine sem_region (by kernel_rfl) ?_
          refine evs_run 1 (by kernel_rfl) ?_
          obtain ⟨hb1, h⟩ := iteN h
          refine evs_op (st_paxB (i := s21295.2) (n := 512) (sz := 1) (kd := .i64) (p := (.ptr 500000 0)) (q := (.ptr 500000 (0 + (Int.toNat s21295.2) * 1))) (by kernel_rfl) hb1 rfl) ?_
          obtain ⟨x21311, hx21311, h⟩ := bindS h
          refine evs_op (st_ald (l := x21254) (g := 500000) (i := s21295.2) (by kernel_rfl) (by kernel_rfl) hx21311) ?_
          refine evs_run 2 (by kernel_rfl) ?_
          refine evs_endS (by kernel_rfl) (fun τ hτ => ?_)
          refine th_normalS hτ ⟨[(5, (.ptr 500000 0)), (12, (vI s21295.1)), (13, (vI s21295.2)), (89, (vB (decide (x21311 < s21295.1))))], [(500000, .box (List.map vI x21254))]⟩ (here (by kernel_rfl)) ?_
          refine sem_cond (decide (x21311 < s21295.1)) (by kernel_rfl) (by kernel_rfl) (fun hb => ?_) (fun hb => ?_)
          · replace h := iteT hb h
            refine sem_region (by kernel_rfl) ?_
            refine evs_run 1 (by kernel_rfl) ?_
            obtain ⟨hb1, h⟩ := iteN h
            refine evs_op (st_paxB (i := s21295.2) (n := 512) (sz := 1) (kd := .i64) (p := (.ptr 500000 0)) (q := (.ptr 500000 (0 + (Int.toNat s21295.2) * 1))) (by kernel_rfl) hb1 rfl) ?_
            obtain ⟨x21313, hx21313, h⟩ := bindS h
            refine evs_op (st_ald (l := x21254) (g := 500000) (i := s21295.2) (by kernel_rfl) (by kernel_rfl) hx21313) ?_
            refine evs_run 1 (by kernel_rfl) ?_
            refine evs_endS (by kernel_rfl) (fun τ hτ => ?_)
            refine bl_normal ?_
            exact jk_normal x21313 h hτ (here (by kernel_rfl))
          · replace h := iteF hb h
            refine sem_skipS (by kernel_rfl) (fun τ hτ => ?_)
            refine bl_normal ?_
            exact jk_normal s21295.1 h hτ (here (by kernel_rfl))
        · replace h := iteF hb h
          refine sem_exitS 8 (by kernel_rfl) rfl (fun τ hτ => ?_)
          refine th_exit ?_
          obtain rfl := Option.some.inj h
          exact lk_outS hτ rfl (here (by kernel_rfl))
      · intro x
        rfl
      · intro τ hτ
        refine bl_hit (by kernel_rfl) ?_
        refine th_normalS hτ ⟨[(12, (vI x21314))], []⟩ (here (by kernel_rfl)) ?_
        refine sem_seq (by kernel_rfl) ?_
        refine sem_region (by kernel_rfl) ?_
        refine evs_run 2 (by kernel_rfl) ?_
        refine evs_endS (by kernel_rfl) (fun τ hτ => ?_)
        refine th_normalS hτ ⟨[(4, (vI x21314))], []⟩ (here (by kernel_rfl)) ?_
        refine sem_retS (by kernel_rfl) (fun τ hτ => ?_)
        obtain rfl := Option.some.inj h
        exact rk_ret hτ [(4, (vI x21314))] (here (by kernel_rfl)) (by kernel_rfl)
theorem W.sheetmetalref05_Best_ok {jobs : (List (List (List Int)))} {stations : Int} {r : (List Int) × Int × Int} (h : sheetmetalref05_Best jobs stations = some r) : PC G.P 33 [(.sl (List.map (cS (cS cI)) jobs)), (vI stations)] [] (.tup [(.sl (List.map cI r.1)), (vI r.2.1), (vI r.2.2)]) [] := by
  refine pc_of G (fn := Try.f33) Try.func33 (by kernel_rfl) (by kernel_rfl) (by kernel_rfl) (by kernel_rfl) (by kernel_rfl) ?_
  refine sem_set ⟨[(0, (.sl (List.map (cS (cS cI)) jobs))), (1, (vI stations))], []⟩ (by kernel_rfl) ?_
  refine sem_seq (by kernel_rfl) ?_
  refine sem_region (by kernel_rfl) ?_
  refine evs_run 3 (by kernel_rfl) ?_
  refine evs_endS (by kernel_rfl) (fun τ hτ => ?_)
  refine th_normalS hτ ⟨[(0, (.sl (List.map (cS (cS cI)) jobs))), (1, (vI stations))], []⟩ (here (by kernel_rfl)) ?_
  refine sem_seq (by kernel_rfl) ?_
  refine sem_seq (by kernel_rfl) ?_
  refine sem_region (by kernel_rfl) ?_
  refine evs_run 1 (by kernel_rfl) ?_
  obtain ⟨r4, hr4, h⟩ := bindS h
  refine evs_callP [] (by kernel_rfl) (W.sheetmetalref05_jobsError_ok hr4) (by kernel_rfl) (.inl rfl) (by kernel_rfl) ?_
  refine evs_run 1 (by kernel_rfl) ?_
  refine evs_endS (by kernel_rfl) (fun τ hτ => ?_)
  refine th_normalS hτ ⟨[(0, (.sl (List.map (cS (cS cI)) jobs))), (1, (vI stations)), (7, (vI r4))], []⟩ (here (by kernel_rfl)) ?_
  refine sem_seq (by kernel_rfl) ?_
  refine sem_region (by kernel_rfl) ?_
  refine evs_run 2 (by kernel_rfl) ?_
  refine evs_endS (by kernel_rfl) (fun τ hτ => ?_)
  refine th_normalS hτ ⟨[(0, (.sl (List.map (cS (cS cI)) jobs))), (1, (vI stations)), (7, (vI r4)), (19, (vB (r4 != 0)))], []⟩ (here (by kernel_rfl)) ?_
  refine sem_cond (r4 != 0) (by kernel_rfl) (by kernel_rfl) (fun hb => ?_) (fun hb => ?_)
  · replace h := iteT hb h
    refine sem_seq (by kernel_rfl) ?_
    refine sem_region (by kernel_rfl) ?_
    refine evs_run 4 (by kernel_rfl) ?_
    refine evs_endS (by kernel_rfl) (fun τ hτ => ?_)
    refine th_normalS hτ ⟨[(4, (.row (.top 4) 3)), (5, (vI 0)), (6, (vI r4))], [(4, .row 3 [] (List.map cI []))]⟩ (here (by kernel_rfl)) ?_
    refine sem_retS (by kernel_rfl) (fun τ hτ => ?_)
    refine th_ret ?_
    obtain rfl := Option.some.inj h
    exact rk_ret hτ [(4, (.sl (List.map cI []))), (5, (vI 0)), (6, (vI r4))] (subR_prep [.frz 4] [] (by kernel_rfl) rfl rfl (by kernel_rfl)) (by kernel_rfl)
  · replace h := iteF hb h
    refine sem_skipS (by kernel_rfl) (fun τ hτ => ?_)
    refine th_normalS hτ ⟨[(0, (.sl (List.map (cS (cS cI)) jobs))), (1, (vI stations))], []⟩ (here (by kernel_rfl)) ?_
    refine sem_seq (by kernel_rfl) ?_
    refine sem_seq (by kernel_rfl) ?_
    refine sem_region (by kernel_rfl) ?_
    refine evs_run 1 (by kernel_rfl) ?_
    obtain ⟨r8, hr8, h⟩ := bindS h
    refine evs_callP [] (by kernel_rfl) (W.sheetmetalref05_within_ok hr8) (by kernel_rfl) (.inl rfl) (by kernel_rfl) ?_
    refine evs_run 1 (by kernel_rfl) ?_
    refine evs_endS (by kernel_rfl) (fun τ hτ => ?_)
    refine th_normalS hτ ⟨[(0, (.sl (List.map (cS (cS cI)) jobs))), (1, (vI stations)), (23, (vB (!r8)))], []⟩ (here (by kernel_rfl)) ?_
    refine sem_cond (!r8) (by kernel_rfl) (by kernel_rfl) (fun hb => ?_) (fun hb => ?_)
    · replace h := iteT hb h
      refine sem_seq (by kernel_rfl) ?_
      refine sem_region (by kernel_rfl) ?_
      refine evs_run 3 (by kernel_rfl) ?_
      refine evs_endS (by kernel_rfl) (fun τ hτ => ?_)
      refine th_normalS hτ ⟨[(4, (.row (.top 4) 3)), (5, (vI 0)), (6, (vI 1))], [(4, .row 3 [] (List.map cI []))]⟩ (here (by kernel_rfl)) ?_
      refine sem_retS (by kernel_rfl) (fun τ hτ => ?_)
      refine th_ret ?_
      obtain rfl := Option.some.inj h
      exact rk_ret hτ [(4, (.sl (List.map cI []))), (5, (vI 0)), (6, (vI 1))] (subR_prep [.frz 4] [] (by kernel_rfl) rfl rfl (by kernel_rfl)) (by kernel_rfl)
    · replace h := iteF hb h
      refine sem_skipS (by kernel_rfl) (fun τ hτ => ?_)
      refine th_normalS hτ ⟨[(0, (.sl (List.map (cS (cS cI)) jobs))), (1, (vI stations))], []⟩ (here (by kernel_rfl)) ?_
      refine sem_seq (by kernel_rfl) ?_
      refine sem_seq (by kernel_rfl) ?_
      refine sem_region (by kernel_rfl) ?_
      refine evs_run 1 (by kernel_rfl) ?_
      obtain ⟨r12, hr12, h⟩ := bindS h
      refine evs_callP [] (by kernel_rfl) (W.sheetmetalref05_total_ok hr12) (by kernel_rfl) (.inl rfl) (by kernel_rfl) ?_
      refine evs_run 1 (by kernel_rfl) ?_
      refine evs_endS (by kernel_rfl) (fun τ hτ => ?_)
      refine th_normalS hτ ⟨[(0, (.sl (List.map (cS (cS cI)) jobs))), (1, (vI stations)), (26, (vB (decide (r12 > 24))))], []⟩ (here (by kernel_rfl)) ?_
      refine sem_cond (decide (r12 > 24)) (by kernel_rfl) (by kernel_rfl) (fun hb => ?_) (fun hb => ?_)
      · replace h := iteT hb h
        refine sem_seq (by kernel_rfl) ?_
        refine sem_region (by kernel_rfl) ?_
        refine evs_run 3 (by kernel_rfl) ?_
        refine evs_endS (by kernel_rfl) (fun τ hτ => ?_)
        refine th_normalS hτ ⟨[(4, (.row (.top 4) 3)), (5, (vI 0)), (6, (vI 4))], [(4, .row 3 [] (List.map cI []))]⟩ (here (by kernel_rfl)) ?_
        refine sem_retS (by kernel_rfl) (fun τ hτ => ?_)
        refine th_ret ?_
        obtain rfl := Option.some.inj h
        exact rk_ret hτ [(4, (.sl (List.map cI []))), (5, (vI 0)), (6, (vI 4))] (subR_prep [.frz 4] [] (by kernel_rfl) rfl rfl (by kernel_rfl)) (by kernel_rfl)
      · replace h := iteF hb h
        refine sem_skipS (by kernel_rfl) (fun τ hτ => ?_)
        refine th_normalS hτ ⟨[(0, (.sl (List.map (cS (cS cI)) jobs))), (1, (vI stations))], []⟩ (here (by kernel_rfl)) ?_
        refine sem_seq (by kernel_rfl) ?_
        refine sem_region (by kernel_rfl) ?_
        refine evs_run 1 (by kernel_rfl) ?_
        refine evs_op (st_len (c := (cS (cS cI))) (l := jobs) (x := (.sl (List.map (cS (cS cI)) jobs))) (by kernel_rfl) (by kernel_rfl)) ?_
        refine evs_run 1 (by kernel_rfl) ?_
        refine evs_endS (by kernel_rfl) (fun τ hτ => ?_)
        refine th_normalS hτ ⟨[(0, (.sl (List.map (cS (cS cI)) jobs))), (1, (vI stations)), (8, (vI (jobs.length : Int)))], []⟩ (here (by kernel_rfl)) ?_
        refine sem_seq (by kernel_rfl) ?_
        refine sem_region (by kernel_rfl) ?_
        refine evs_run 1 (by kernel_rfl) ?_
        refine evs_endS (by kernel_rfl) (fun τ hτ => ?_)
        refine th_normalS hτ ⟨[(0, (.sl (List.map (cS (cS cI)) jobs))), (1, (vI stations)), (8, (vI (jobs.length : Int))), (9, (.row (.top 9) 3))], [(9, .row 3 [] (List.map cI []))]⟩ (here (by kernel_rfl)) ?_
        refine sem_seq (by kernel_rfl) ?_
        refine sem_region (by kernel_rfl) ?_
        refine evs_run 1 (by kernel_rfl) ?_
        refine evs_endS (by kernel_rfl) (fun τ hτ => ?_)
        refine th_normalS hτ ⟨[(0, (.sl (List.map (cS (cS cI)) jobs))), (1, (vI stations)), (8, (vI (jobs.length : Int))), (9, (.row (.top 9) 3)), (10, (vI 1000))], [(9, .row 3 [] (List.map cI []))]⟩ (here (by kernel_rfl)) ?_
        refine sem_seq (by kernel_rfl) ?_
        refine sem_seq (by kernel_rfl) ?_
        refine sem_region (by kernel_rfl) ?_
        refine evs_run 1 (by kernel_rfl) ?_
        refine evs_endS (by kernel_rfl) (fun τ hτ => ?_)
        refine th_normalS hτ ⟨[(0, (.sl (List.map (cS (cS cI)) jobs))), (1, (vI stations)), (8, (vI (jobs.length : Int))), (9, (.row (.top 9) 3)), (10, (vI 1000)), (11, (vI 0))], [(9, .row 3 [] (List.map cI []))]⟩ (here (by kernel_rfl)) ?_
        refine sem_block (by kernel_rfl) ?_
        obtain ⟨x528, hx528, h⟩ := bindS h
        refine sem_loopS (fun (s357 : (List Int) × Int × Int) => ⟨[(0, (.sl (List.map (cS (cS cI)) jobs))), (1, (vI stations)), (8, (vI (jobs.length : Int))), (9, (.sl (List.map cI s357.1))), (10, (vI s357.2.1)), (11, (vI s357.2.2))], []⟩) (fun (x528 : (List Int) × Int) => (.exit 0, ⟨[(9, (.sl (List.map cI x528.1))), (10, (vI x528.2))], []⟩)) (sheetmetalref05_Best_l3 jobs stations) ([], 1000, 0) x528 (by kernel_rfl) (subR_prep [.frz 9] [] (by kernel_rfl) rfl rfl (by kernel_rfl)) hx528 ?_ ?_ ?_
        · intro s357 r h
          refine sem_seq (by kernel_rfl) ?_
          refine sem_seq (by kernel_rfl) ?_
          refine sem_region (by kernel_rfl) ?_
          refine evs_run 2 (by kernel_rfl) ?_
          refine evs_endS (by kernel_rfl) (fun τ hτ => ?_)
          refine th_normalS hτ ⟨[(0, (.sl (List.map (cS (cS cI)) jobs))), (1, (vI stations)), (8, (vI (jobs.length : Int))), (9, (.sl (List.map cI s357.1))), (10, (vI s357.2.1)), (11, (vI s357.2.2)), (30, (vB (decide (s357.2.2 < 256))))], []⟩ (here (by kernel_rfl)) ?_
          refine sem_cond (decide (s357.2.2 < 256)) (by kernel_rfl) (by kernel_rfl) (fun hb => ?_) (fun hb => ?_)
          · replace h := iteT hb h
            refine sem_skipS (by kernel_rfl) (fun τ hτ => ?_)
            refine th_normalS hτ ⟨[(0, (.sl (List.map (cS (cS cI)) jobs))), (1, (vI stations)), (8, (vI (jobs.length : Int))), (9, (.sl (List.map cI s357.1))), (10, (vI s357.2.1)), (11, (vI s357.2.2))], []⟩ (here (by kernel_rfl)) ?_
            refine sem_seqJ (fun (j485 : (List Int) × Int) => ⟨[(0, (.sl (List.map (cS (cS cI)) jobs))), (1, (vI stations)), (8, (vI (jobs.length : Int))), (9, (.sl (List.map cI j485.1))), (10, (vI j485.2)), (11, (vI s357.2.2))], []⟩) (sheetmetalref05_Best_k1 s357) r (by kernel_rfl) (fun j485 h => ?_) ?_
            · refine sem_region (by kernel_rfl) ?_
              refine evs_run 3 (by kernel_rfl) ?_
              refine evs_endS (by kernel_rfl) (fun τ hτ => ?_)
              obtain rfl := Option.some.inj h
              exact lk_nextS hτ (here (by kernel_rfl))
            refine sem_block (by kernel_rfl) ?_
            refine sem_seq (by kernel_rfl) ?_
            refine sem_region (by kernel_rfl) ?_
            refine evs_run 1 (by kernel_rfl) ?_
            obtain ⟨l487, hl487, h⟩ := bindS h
            refine evs_op (st_mk (c := cI) (z := 0) (n := (jobs.length : Int)) (e := 3) (d := 34) (zs := [(vI 0)]) (k1 := .i64) (k2 := .i64) (by kernel_rfl) rfl hl487) ?_
            refine evs_run 1 (by kernel_rfl) ?_
            refine evs_endS (by kernel_rfl) (fun τ hτ => ?_)
            refine th_normalS hτ ⟨[(0, (.sl (List.map (cS (cS cI)) jobs))), (1, (vI stations)), (8, (vI (jobs.length : Int))), (9, (.sl (List.map cI s357.1))), (10, (vI s357.2.1)), (11, (vI s357.2.2)), (12, (.row (.top 34) 3))], [(34, .row 3 [] (List.map cI l487))]⟩ (here (by kernel_rfl)) ?_
            refine sem_seq (by kernel_rfl) ?_
            refine sem_region (by kernel_rfl) ?_
            refine evs_run 2 (by kernel_rfl) ?_
            refine evs_endS (by kernel_rfl) (fun τ hτ => ?_)
            refine th_normalS hτ ⟨[(0, (.sl (List.map (cS (cS cI)) jobs))), (1, (vI stations)), (8, (vI (jobs.length : Int))), (9, (.sl (List.map cI s357.1))), (10, (vI s357.2.1)), (11, (vI s357.2.2)), (12, (.row (.top 34) 3)), (13, (vI s357.2.2))], [(34, .row 3 [] (List.map cI l487))]⟩ (here (by kernel_rfl)) ?_
            refine sem_seq (by kernel_rfl) ?_
            refine sem_seq (by kernel_rfl) ?_
            refine sem_region (by kernel_rfl) ?_
            refine evs_run 3 (by kernel_rfl) ?_
            refine evs_endS (by kernel_rfl) (fun τ hτ => ?_)
            refine th_normalS hτ ⟨[(0, (.sl (List.map (cS (cS cI)) jobs))), (1, (vI stations)), (8, (vI (jobs.length : Int))), (9, (.sl (List.map cI s357.1))), (10, (vI s357.2.1)), (11, (vI s357.2.2)), (12, (.row (.top 34) 3)), (13, (vI s357.2.2)), (14, (vI (isub (jobs.length : Int) 1)))], [(34, .row 3 [] (List.map cI l487))]⟩ (here (by kernel_rfl)) ?_
            refine sem_block (by kernel_rfl) ?_
            obtain ⟨x517, hx517, h⟩ := bindS h
            refine sem_loopS (fun (s508 : Int × Int × (List Int)) => ⟨[(0, (.sl (List.map (cS (cS cI)) jobs))), (1, (vI stations)), (8, (vI (jobs.length : Int))), (9, (.sl (List.map cI s357.1))), (10, (vI s357.2.1)), (11, (vI s357.2.2)), (12, (.row (.top 500000) 3)), (13, (vI s508.1)), (14, (vI s508.2.1))], [(500000, .row 3 [] (List.map cI s508.2.2))]⟩) (fun (x517 : Int × (List Int)) => (.exit 2, ⟨[(0, (.sl (List.map (cS (cS cI)) jobs))), (1, (vI stations)), (8, (vI (jobs.length : Int))), (9, (.sl (List.map cI s357.1))), (10, (vI s357.2.1)), (11, (vI s357.2.2)), (12, (.row (.top 500000) 3)), (13, (vI x517.1))], [(500000, .row 3 [] (List.map cI x517.2))]⟩)) (sheetmetalref05_Best_l2) (s357.2.2, (isub (jobs.length : Int) 1), l487) x517 (by kernel_rfl) (subR_prep [] [(34, 500000)] (by kernel_rfl) rfl rfl (by kernel_rfl)) hx517 ?_ ?_ ?_
            · intro s508 r h
              refine sem_seq (by kernel_rfl) ?_
              refine sem_seq (by kernel_rfl) ?_
              refine sem_region (by kernel_rfl) ?_
              refine evs_run 2 (by kernel_rfl) ?_
              refine evs_endS (by kernel_rfl) (fun τ hτ => ?_)
              refine th_normalS hτ ⟨[(0, (.sl (List.map (cS (cS cI)) jobs))), (1, (vI stations)), (8, (vI (jobs.length : Int))), (9, (.sl (List.map cI s357.1))), (10, (vI s357.2.1)), (11, (vI s357.2.2)), (12, (.row (.top 500000) 3)), (13, (vI s508.1)), (14, (vI s508.2.1)), (39, (vB (decide (s508.2.1 ≥ 0))))], [(500000, .row 3 [] (List.map cI s508.2.2))]⟩ (here (by kernel_rfl)) ?_
              refine sem_cond (decide (s508.2.1 ≥ 0)) (by kernel_rfl) (by kernel_rfl) (fun hb => ?_) (fun hb => ?_)
              · replace h := iteT hb h
                refine sem_skipS (by kernel_rfl) (fun τ hτ => ?_)
                refine th_normalS hτ ⟨[(0, (.sl (List.map (cS (cS cI)) jobs))), (1, (vI stations)), (8, (vI (jobs.length : Int))), (9, (.sl (List.map cI s357.1))), (10, (vI s357.2.1)), (11, (vI s357.2.2)), (12, (.row (.top 500000) 3)), (13, (vI s508.1)), (14, (vI s508.2.1))], [(500000, .row 3 [] (List.map cI s508.2.2))]⟩ (here (by kernel_rfl)) ?_
                refine sem_seq (by kernel_rfl) ?_
                refine sem_block (by kernel_rfl) ?_
                refine sem_seq (by kernel_rfl) ?_
                refine sem_region (by kernel_rfl) ?_
                refine evs_run 4 (by kernel_rfl) ?_
                obtain ⟨x516, hx516, h⟩ := bindS h
                refine evs_op (st_idxO (c := cI) (l := s508.2.2) (i := s508.2.1) (kd := .i64) (kk := (.top 500000)) (e := 3) (sz := 1) (by kernel_rfl) (by kernel_rfl) hx516 rfl) ?_
                refine evs_op (st_stO (c := cI) (l := s508.2.2) (i := (Int.toNat s508.2.1)) (x := x516) (x' := (Int.tmod s508.1 4)) (v := (vI (Int.tmod s508.1 4))) (agg := false) (sz := 1) (kk := (.top 500000)) (e := 3) (off := 0) (J := []) (o := .row 3 [] (List.map cI (List.set s508.2.2 (Int.toNat s508.2.1) (Int.tmod s508.1 4)))) (by kernel_rfl) (by kernel_rfl) (by kernel_rfl) ((idxS hx516).2) (by kernel_rfl) (by kernel_rfl) (by kernel_rfl)) ?_
                refine evs_endS (by kernel_rfl) (fun τ hτ => ?_)
                refine th_normalS hτ ⟨[(0, (.sl (List.map (cS (cS cI)) jobs))), (1, (vI stations)), (8, (vI (jobs.length : Int))), (9, (.sl (List.map cI s357.1))), (10, (vI s357.2.1)), (11, (vI s357.2.2)), (12, (.row (.top 500000) 3)), (13, (vI s508.1)), (14, (vI s508.2.1))], [(500000, .row 3 [] (List.map cI (List.set s508.2.2 (Int.toNat s508.2.1) (Int.tmod s508.1 4))))]⟩ (here (by kernel_rfl)) ?_
                refine sem_region (by kernel_rfl) ?_
                refine evs_run 3 (by kernel_rfl) ?_
                refine evs_endS (by kernel_rfl) (fun τ hτ => ?_)
                refine bl_normal ?_
                refine th_normalS hτ ⟨[(0, (.sl (List.map (cS (cS cI)) jobs))), (1, (vI stations)), (8, (vI (jobs.length : Int))), (9, (.sl (List.map cI s357.1))), (10, (vI s357.2.1)), (11, (vI s357.2.2)), (12, (.row (.top 500000) 3)), (13, (vI (iquo s508.1 4))), (14, (vI s508.2.1))], [(500000, .row 3 [] (List.map cI (List.set s508.2.2 (Int.toNat s508.2.1) (Int.tmod s508.1 4))))]⟩ (here (by kernel_rfl)) ?_
                refine sem_region (by kernel_rfl) ?_
                refine evs_run 3 (by kernel_rfl) ?_
                refine evs_endS (by kernel_rfl) (fun τ hτ => ?_)
                obtain rfl := Option.some.inj h
                exact lk_nextS hτ (here (by kernel_rfl))
              · replace h := iteF hb h
                refine sem_exitS 2 (by kernel_rfl) rfl (fun τ hτ => ?_)
                refine th_exit ?_
                obtain rfl := Option.some.inj h
                exact lk_outS hτ rfl (here (by kernel_rfl))
            · intro x
              rfl
            · intro τ hτ
              refine bl_hit (by kernel_rfl) ?_
              refine th_normalS hτ ⟨[(0, (.sl (List.map (cS (cS cI)) jobs))), (1, (vI stations)), (8, (vI (jobs.length : Int))), (9, (.sl (List.map cI s357.1))), (10, (vI s357.2.1)), (11, (vI s357.2.2)), (12, (.row (.top 500000) 3)), (13, (vI x517.1))], [(500000, .row 3 [] (List.map cI x517.2))]⟩ (here (by kernel_rfl)) ?_
              refine sem_seq (by kernel_rfl) ?_
              refine sem_seq (by kernel_rfl) ?_
              obtain ⟨j522, hj522, h⟩ := bindS h
              refine sem_regionC ⟨[(0, (.sl (List.map (cS (cS cI)) jobs))), (1, (vI stations)), (8, (vI (jobs.length : Int))), (9, (.sl (List.map cI s357.1))), (10, (vI s357.2.1)), (11, (vI s357.2.2)), (12, (.row (.top 500000) 3)), (56, (vB j522))], [(500000, .row 3 [] (List.map cI x517.2))]⟩ (by kernel_rfl) ?_ (fun τ hτ => ?_)
              · replace h := hj522
                refine evs_run 3 (by kernel_rfl) ?_
                refine evs_split (decide (x517.1 > 0)) (fun b0 => ⟨[(0, (.sl (List.map (cS (cS cI)) jobs))), (1, (vI stations)), (8, (vI (jobs.length : Int))), (9, (.sl (List.map cI s357.1))), (10, (vI s357.2.1)), (11, (vI s357.2.2)), (12, (.row (.top 500000) 3)), (51, (vB b0))], [(500000, .row 3 [] (List.map cI x517.2))]⟩) (by kernel_rfl) (fun hb => ?_) (fun hb => ?_)
                · replace h := iteT hb h
                  refine evs_run 5 (by kernel_rfl) ?_
                  refine evs_endS (by kernel_rfl) (fun τ hτ => ?_)
                  obtain rfl := Option.some.inj h
                  exact leafC hτ (here (by kernel_rfl))
                · replace h := iteF hb h
                  refine evs_run 2 (by kernel_rfl) ?_
                  obtain ⟨r523, hr523, h⟩ := bindS h
                  refine evs_callP [500000] (by kernel_rfl) (W.sheetmetalref05_permutation_ok hr523) (by kernel_rfl) (.inr rfl) (by kernel_rfl) ?_
                  refine evs_run 2 (by kernel_rfl) ?_
                  refine evs_endS (by kernel_rfl) (fun τ hτ => ?_)
                  obtain rfl := Option.some.inj h
                  exact leafC hτ (here (by kernel_rfl))
              refine th_normalS hτ ⟨[(0, (.sl (List.map (cS (cS cI)) jobs))), (1, (vI stations)), (8, (vI (jobs.length : Int))), (9, (.sl (List.map cI s357.1))), (10, (vI s357.2.1)), (11, (vI s357.2.2)), (12, (.row (.top 500000) 3)), (56, (vB j522))], [(500000, .row 3 [] (List.map cI x517.2))]⟩ (here (by kernel_rfl)) ?_
              refine sem_cond j522 (by kernel_rfl) (by kernel_rfl) (fun hb => ?_) (fun hb => ?_)
              · replace h := iteT hb h
                refine sem_exitS 1 (by kernel_rfl) rfl (fun τ hτ => ?_)
                refine th_exit ?_
                refine bl_hit (by kernel_rfl) ?_
                exact jk_normal (s357.1, s357.2.1) h hτ (here (by kernel_rfl))
              · replace h := iteF hb h
                refine sem_skipS (by kernel_rfl) (fun τ hτ => ?_)
                refine th_normalS hτ ⟨[(0, (.sl (List.map (cS (cS cI)) jobs))), (1, (vI stations)), (8, (vI (jobs.length : Int))), (9, (.sl (List.map cI s357.1))), (10, (vI s357.2.1)), (11, (vI s357.2.2)), (12, (.row (.top 500000) 3))], [(500000, .row 3 [] (List.map cI x517.2))]⟩ (here (by kernel_rfl)) ?_
                refine sem_seq (by kernel_rfl) ?_
                refine sem_region (by kernel_rfl) ?_
                refine evs_run 2 (by kernel_rfl) ?_
                refine evs_prep [.frz 500000] (by kernel_rfl) ?_
                obtain ⟨r526, hr526, h⟩ := bindS h
                refine evs_callS [] [(0, 700100)] [] (by kernel_rfl) (W.sheetmetalref05_join_ok hr526) (by kernel_rfl) (by kernel_rfl) (.inl rfl) ?_
                refine evs_run 1 (by kernel_rfl) ?_
                obtain ⟨r527, hr527, h⟩ := bindS h
                refine evs_callP [700100] (by kernel_rfl) (W.sheetmetalref05_Fewest_ok hr527) (by kernel_rfl) (.inr rfl) (by kernel_rfl) ?_
                refine evs_run 1 (by kernel_rfl) ?_
                refine evs_endS (by kernel_rfl) (fun τ hτ => ?_)
                refine th_normalS hτ ⟨[(0, (.sl (List.map (cS (cS cI)) jobs))), (1, (vI stations)), (8, (vI (jobs.length : Int))), (9, (.sl (List.map cI s357.1))), (10, (vI s357.2.1)), (11, (vI s357.2.2)), (12, (.sl (List.map cI x517.2))), (15, (vI r527))], []⟩ (here (by kernel_rfl)) ?_
                refine sem_seq (by kernel_rfl) ?_
                refine sem_region (by kernel_rfl) ?_
                refine evs_run 3 (by kernel_rfl) ?_
                refine evs_endS (by kernel_rfl) (fun τ hτ => ?_)
                refine th_normalS hτ ⟨[(0, (.sl (List.map (cS (cS cI)) jobs))), (1, (vI stations)), (8, (vI (jobs.length : Int))), (9, (.sl (List.map cI s357.1))), (10, (vI s357.2.1)), (11, (vI s357.2.2)), (12, (.sl (List.map cI x517.2))), (15, (vI r527)), (64, (vB (decide (r527 < s357.2.1))))], []⟩ (here (by kernel_rfl)) ?_
                refine sem_cond (decide (r527 < s357.2.1)) (by kernel_rfl) (by kernel_rfl) (fun hb => ?_) (fun hb => ?_)
                · replace h := iteT hb h
                  refine sem_region (by kernel_rfl) ?_
                  refine evs_run 4 (by kernel_rfl) ?_
                  refine evs_endS (by kernel_rfl) (fun τ hτ => ?_)
                  refine bl_normal ?_
                  exact jk_normal (x517.2, r527) h hτ (here (by kernel_rfl))
                · replace h := iteF hb h
                  refine sem_skipS (by kernel_rfl) (fun τ hτ => ?_)
                  refine bl_normal ?_
                  exact jk_normal (s357.1, s357.2.1) h hτ (here (by kernel_rfl))
          · replace h := iteF hb h
            refine sem_exitS 0 (by kernel_rfl) rfl (fun τ hτ => ?_)
            refine th_exit ?_
            obtain rfl := Option.some.inj h
            exact lk_outS hτ rfl (here (by kernel_rfl))
        · intro x
          rfl
        · intro τ hτ
          refine bl_hit (by kernel_rfl) ?_
          refine th_normalS hτ ⟨[(9, (.sl (List.map cI x528.1))), (10, (vI x528.2))], []⟩ (here (by kernel_rfl)) ?_
          refine sem_seq (by kernel_rfl) ?_
          refine sem_region (by kernel_rfl) ?_
          refine evs_run 5 (by kernel_rfl) ?_
          refine evs_endS (by kernel_rfl) (fun τ hτ => ?_)
          refine th_normalS hτ ⟨[(4, (.sl (List.map cI x528.1))), (5, (vI x528.2)), (6, (vI 0))], []⟩ (here (by kernel_rfl)) ?_
          refine sem_retS (by kernel_rfl) (fun τ hτ => ?_)
          obtain rfl := Option.some.inj h
          exact rk_ret hτ [(4, (.sl (List.map cI x528.1))), (5, (vI x528.2)), (6, (vI 0))] (here (by kernel_rfl)) (by kernel_rfl)
theorem W.sheetmetallaw05_SetupBest_ok {jobs : (List (List (List Int)))} {stations : Int} {r : Bool} (h : sheetmetallaw05_SetupBest jobs stations = some r) : PC G.P 8 [(.sl (List.map (cS (cS cI)) jobs)), (vI stations)] [] (vB r) [] := by
  refine pc_of G (fn := Try.f8) Try.func8 (by kernel_rfl) (by kernel_rfl) (by kernel_rfl) (by kernel_rfl) (by kernel_rfl) ?_
  refine sem_set ⟨[(0, (.sl (List.map (cS (cS cI)) jobs))), (1, (vI stations))], []⟩ (by kernel_rfl) ?_
  refine sem_seq (by kernel_rfl) ?_
  refine sem_region (by kernel_rfl) ?_
  refine evs_run 1 (by kernel_rfl) ?_
  refine evs_endS (by kernel_rfl) (fun τ hτ => ?_)
  refine th_normalS hτ ⟨[(0, (.sl (List.map (cS (cS cI)) jobs))), (1, (vI stations))], []⟩ (here (by kernel_rfl)) ?_
  refine sem_seq (by kernel_rfl) ?_
  refine sem_seq (by kernel_rfl) ?_
  obtain ⟨j13, hj13, h⟩ := bindS h
  refine sem_regionC ⟨[(0, (.sl (List.map (cS (cS cI)) jobs))), (1, (vI stations)), (22, (vB j13))], []⟩ (by kernel_rfl) ?_ (fun τ hτ => ?_)
  · replace h := hj13
    refine evs_run 1 (by kernel_rfl) ?_
    obtain ⟨r14, hr14, h⟩ := bindS h
    refine evs_callP [] (by kernel_rfl) (W.sheetmetallaw05_wide_ok hr14) (by kernel_rfl) (.inl rfl) (by kernel_rfl) ?_
    refine evs_run 1 (by kernel_rfl) ?_
    refine evs_split r14 (fun b0 => ⟨[(0, (.sl (List.map (cS (cS cI)) jobs))), (1, (vI stations)), (13, (vB b0))], []⟩) (by kernel_rfl) (fun hb => ?_) (fun hb => ?_)
    · replace h := iteT hb h
      refine evs_run 9 (by kernel_rfl) ?_
      refine evs_endS (by kernel_rfl) (fun τ hτ => ?_)
      obtain rfl := Option.some.inj h
      exact leafC hτ (here (by kernel_rfl))
    · replace h := iteF hb h
      refine evs_run 1 (by kernel_rfl) ?_
      obtain ⟨r15, hr15, h⟩ := bindS h
      refine evs_callP [] (by kernel_rfl) (W.sheetmetallaw05_total_ok hr15) (by kernel_rfl) (.inl rfl) (by kernel_rfl) ?_
      refine evs_run 2 (by kernel_rfl) ?_
      refine evs_split (decide (r15 > 10)) (fun b0 => ⟨[(0, (.sl (List.map (cS (cS cI)) jobs))), (1, (vI stations)), (13, (vB false)), (17, (vB b0))], []⟩) (by kernel_rfl) (fun hb => ?_) (fun hb => ?_)
      · replace h := iteT hb h
        refine evs_run 1 (by kernel_rfl) ?_
        obtain ⟨r16, hr16, h⟩ := bindS h
        refine evs_callP [] (by kernel_rfl) (W.sheetmetallaw05_total_ok hr16) (by kernel_rfl) (.inl rfl) (by kernel_rfl) ?_
        refine evs_run 3 (by kernel_rfl) ?_
        refine evs_endS (by kernel_rfl) (fun τ hτ => ?_)
        obtain rfl := Option.some.inj h
        exact leafC hτ (here (by kernel_rfl))
      · replace h := iteF hb h
        refine evs_run 5 (by kernel_rfl) ?_
        refine evs_endS (by kernel_rfl) (fun τ hτ => ?_)
        obtain rfl := Option.some.inj h
        exact leafC hτ (here (by kernel_rfl))
  refine th_normalS hτ ⟨[(0, (.sl (List.map (cS (cS cI)) jobs))), (1, (vI stations)), (22, (vB j13))], []⟩ (here (by kernel_rfl)) ?_
  refine sem_cond j13 (by kernel_rfl) (by kernel_rfl) (fun hb => ?_) (fun hb => ?_)
  · replace h := iteT hb h
    refine sem_seq (by kernel_rfl) ?_
    refine sem_region (by kernel_rfl) ?_
    obtain ⟨r18, hr18, h⟩ := bindS h
    refine evs_callP [] (by kernel_rfl) (W.sheetmetallaw05_known_ok hr18) (by kernel_rfl) (.inl rfl) (by kernel_rfl) ?_
    refine evs_run 1 (by kernel_rfl) ?_
    refine evs_endS (by kernel_rfl) (fun τ hτ => ?_)
    refine th_normalS hτ ⟨[(4, (vB r18))], []⟩ (here (by kernel_rfl)) ?_
    refine sem_retS (by kernel_rfl) (fun τ hτ => ?_)
    refine th_ret ?_
    obtain rfl := Option.some.inj h
    exact rk_ret hτ [(4, (vB r18))] (here (by kernel_rfl)) (by kernel_rfl)
  · replace h := iteF hb h
    refine sem_skipS (by kernel_rfl) (fun τ hτ => ?_)
    refine th_normalS hτ ⟨[(0, (.sl (List.map (cS (cS cI)) jobs))), (1, (vI stations))], []⟩ (here (by kernel_rfl)) ?_
    refine sem_seq (by kernel_rfl) ?_
    refine sem_region (by kernel_rfl) ?_
    refine evs_run 2 (by kernel_rfl) ?_
    obtain ⟨r20, hr20, h⟩ := bindS h
    refine evs_callP [] (by kernel_rfl) (W.setup_Best_ok hr20) (by kernel_rfl) (.inl rfl) (by kernel_rfl) ?_
    refine evs_run 7 (by kernel_rfl) ?_
    refine evs_endS (by kernel_rfl) (fun τ hτ => ?_)
    refine th_normalS hτ ⟨[(0, (.sl (List.map (cS (cS cI)) jobs))), (1, (vI stations)), (5, (.sl (List.map cI r20.1))), (6, (vI r20.2.1)), (7, (vI r20.2.2))], []⟩ (here (by kernel_rfl)) ?_
    refine sem_seq (by kernel_rfl) ?_
    refine sem_region (by kernel_rfl) ?_
    refine evs_run 2 (by kernel_rfl) ?_
    obtain ⟨r22, hr22, h⟩ := bindS h
    refine evs_callP [] (by kernel_rfl) (W.sheetmetalref05_Best_ok hr22) (by kernel_rfl) (.inl rfl) (by kernel_rfl) ?_
    refine evs_run 7 (by kernel_rfl) ?_
    refine evs_endS (by kernel_rfl) (fun τ hτ => ?_)
    refine th_normalS hτ ⟨[(5, (.sl (List.map cI r20.1))), (6, (vI r20.2.1)), (7, (vI r20.2.2)), (8, (.sl (List.map cI r22.1))), (9, (vI r22.2.1)), (10, (vI r22.2.2))], []⟩ (here (by kernel_rfl)) ?_
    refine sem_seq (by kernel_rfl) ?_
    obtain ⟨j25, hj25, h⟩ := bindS h
    refine sem_regionC ⟨[(4, (vB j25))], []⟩ (by kernel_rfl) ?_ (fun τ hτ => ?_)
    · replace h := hj25
      refine evs_run 4 (by kernel_rfl) ?_
      refine evs_split (r20.2.1 == r22.2.1) (fun b0 => ⟨[(5, (.sl (List.map cI r20.1))), (7, (vI r20.2.2)), (8, (.sl (List.map cI r22.1))), (10, (vI r22.2.2)), (41, (vB b0))], []⟩) (by kernel_rfl) (fun hb => ?_) (fun hb => ?_)
      · replace h := iteT hb h
        refine evs_run 5 (by kernel_rfl) ?_
        refine evs_split (r20.2.2 == r22.2.2) (fun b0 => ⟨[(5, (.sl (List.map cI r20.1))), (8, (.sl (List.map cI r22.1))), (46, (vB b0))], []⟩) (by kernel_rfl) (fun hb => ?_) (fun hb => ?_)
        · replace h := iteT hb h
          refine evs_run 2 (by kernel_rfl) ?_
          obtain ⟨r26, hr26, h⟩ := bindS h
          refine evs_callP [] (by kernel_rfl) (W.sheetmetalref01_SameInts_ok hr26) (by kernel_rfl) (.inl rfl) (by kernel_rfl) ?_
          refine evs_run 2 (by kernel_rfl) ?_
          refine evs_split r26 (fun b0 => ⟨[(51, (vB b0))], []⟩) (by kernel_rfl) (fun hb => ?_) (fun hb => ?_)
          · replace h := iteT hb h
            obtain ⟨r27, hr27, h⟩ := bindS h
            refine evs_callP [] (by kernel_rfl) (W.sheetmetallaw05_known_ok hr27) (by kernel_rfl) (.inl rfl) (by kernel_rfl) ?_
            refine evs_run 2 (by kernel_rfl) ?_
            refine evs_endS (by kernel_rfl) (fun τ hτ => ?_)
            obtain rfl := Option.some.inj h
            exact leafC hτ (here (by kernel_rfl))
          · replace h := iteF hb h
            refine evs_run 3 (by kernel_rfl) ?_
            refine evs_endS (by kernel_rfl) (fun τ hτ => ?_)
            obtain rfl := Option.some.inj h
            exact leafC hτ (here (by kernel_rfl))
        · replace h := iteF hb h
          refine evs_run 8 (by kernel_rfl) ?_
          refine evs_endS (by kernel_rfl) (fun τ hτ => ?_)
          obtain rfl := Option.some.inj h
          exact leafC hτ (here (by kernel_rfl))
      · replace h := iteF hb h
        refine evs_run 13 (by kernel_rfl) ?_
        refine evs_endS (by kernel_rfl) (fun τ hτ => ?_)
        obtain rfl := Option.some.inj h
        exact leafC hτ (here (by kernel_rfl))
    refine th_normalS hτ ⟨[(4, (vB j25))], []⟩ (here (by kernel_rfl)) ?_
    refine sem_retS (by kernel_rfl) (fun τ hτ => ?_)
    obtain rfl := Option.some.inj h
    exact rk_ret hτ [(4, (vB j25))] (here (by kernel_rfl)) (by kernel_rfl)
end Go.Proofs.Ytppmnjiibmomoaa
